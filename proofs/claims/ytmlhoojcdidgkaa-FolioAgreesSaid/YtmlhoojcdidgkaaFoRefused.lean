/-
  The law 'FolioRefused': the walk.
-/
import Derived.Test.YtmlhoojcdidgkaaM24
import Derived.Test.YtmlhoojcdidgkaaM06
namespace Go.Proofs.Ytmlhoojcdidgkaa
set_option linter.unusedSimpArgs false
set_option linter.unusedVariables false
open Go.RowKit
open Go.Sort (grow size_grow)


set_option maxHeartbeats 4000000
set_option maxRecDepth 100000
theorem fewB_iff {a b c : Nat} : fewB a b c = true ↔ a ≤ 40 ∧ b ≤ 60 ∧ c ≤ 40 := by unfold fewB; simp [and_assoc]
/-- The deeds that have no error. -/
def keptD (l : List Deed) (errs : List Int) : List Deed := ((l.zip errs).filter fun p => p.2 == 0).map (·.1)
theorem keptD_snoc {l : List Deed} {errs : List Int} (h : errs.length = l.length) (x : Deed) (e : Int) : keptD (l ++ [x]) (errs ++ [e]) = if e = 0 then keptD l errs ++ [x] else keptD l errs := by
  unfold keptD
  rw [List.zip_append h.symm, List.filter_append, List.map_append]
  by_cases he : e = 0
  · rw [if_pos he]; simp [he]
  · rw [if_neg he]; simp [he]
theorem keptD_len (l : List Deed) (errs : List Int) : (keptD l errs).length ≤ l.length := by
  unfold keptD
  rw [List.length_map]
  exact Nat.le_trans (List.length_filter_le _ _) (by rw [List.length_zip]; omega)
theorem keptD_mem {l : List Deed} {errs : List Int} {x : Deed} (h : x ∈ keptD l errs) : x ∈ l := by
  obtain ⟨p, hp, rfl⟩ := List.mem_map.1 h
  exact (List.of_mem_zip (List.mem_filter.1 hp).1).1
theorem keptD_step {l : List Deed} {errs : List Int} {m : Nat} (h1 : m < l.length) (h2 : m < errs.length) : keptD (l.take (m + 1)) (errs.take (m + 1)) = if errs[m] = 0 then keptD (l.take m) (errs.take m) ++ [l[m]] else keptD (l.take m) (errs.take m) := by
  rw [List.take_succ_eq_append_getElem h1, List.take_succ_eq_append_getElem h2, keptD_snoc (by rw [List.length_take, List.length_take]; omega)]
theorem kept_run {V : Env} {bills : List Bill} (l : List Deed) : runAll V bills (keptD l (runAll V bills l).2) = ((runAll V bills l).1, List.replicate (keptD l (runAll V bills l).2).length 0) := by
  have key := run_ind (V := V) (bills := bills) (fun l c er => er.length = l.length ∧ runAll V bills (keptD l er) = (c, List.replicate (keptD l er).length 0)) ⟨rfl, rfl⟩ ?_ ?_ l
  · exact key.2
  · rintro l x c c' er ⟨h1, h2⟩ hf hs
    refine ⟨by simp [h1], ?_⟩
    rw [keptD_snoc h1, if_pos rfl, runAll_snoc, h2]
    unfold runD
    simp only
    rw [if_pos hf, hs.mk]
    simp only [List.length_append, List.length_singleton, List.replicate_succ', Nat.add_eq]
  · rintro l x c er e ⟨h1, h2⟩ he
    refine ⟨by simp [h1], ?_⟩
    rw [keptD_snoc h1, if_neg he, h2]
theorem elemDeed : Elem Try.prog 28 37 4 32 := elem_mk Try.underlying28 (by kernel_rfl)
theorem deed_one (x : Deed) : ∀ u ∈ x.cs, u.oneCell' = true := by simp [Deed.cs, Value.oneCell']
theorem err_info : ∃ i, Try.prog.info? 33 = some i ∧ i.zero = some (.int .i64 0) ∧ i.size = 1 ∧ i.bytes = 8 := by
  have h : (match Try.prog.info? 33 with | some i => (match i.zero with | some (.int .i64 n) => decide (n = 0) | _ => false) && decide (i.size = 1) && decide (i.bytes = 8) | none => false) = true := by kernel_rfl
  cases hi : Try.prog.info? 33 with
  | none => rw [hi] at h; cases h
  | some i =>
    rw [hi] at h
    simp only [Bool.and_eq_true, decide_eq_true_eq] at h
    refine ⟨i, rfl, ?_, h.1.2, h.2⟩
    have h1 := h.1.1
    split at h1
    · next n hn => rw [hn]; congr 2; simpa using h1
    · cases h1
theorem make_err (W : World) (n : Nat) (hn : n ≤ 1000) : (Instr.makeSlice 32 (.int .i64 n) (.int .i64 n)).run Try.prog W = .ok (.slice (some ⟨W.heap.size, 0, none⟩) n n) (W.alloc (.cells (madeCells #[.int .i64 0] n) 33)) := by
  obtain ⟨i, hi, hz, h1, h2⟩ := err_info
  have := run_makeSlice (P := Try.prog) W 32 33 i (.int .i64 0) Try.underlying32 hi hz .i64 .i64 n n (by omega) (by omega) (by rw [h1]; omega) (by rw [h2]; omega) (by omega)
  rw [this, h1]
  simp [Value.cells]
theorem law_refused (V : Env) (bills : List Bill) (l : List Deed) (A At Al : Option Addr) (c ct cl : Nat) (w : World) (hs : SlBill w A bills) (hts : SlTax w At V.ts) (hsl : SlDeed w Al l) (hst : ∀ x ∈ l, -9223372036854775808 ≤ x.stay ∧ x.stay ≤ 9223372036854775807) :
    Calls Try.prog 3 #[.slice A bills.length c, .slice At V.ts.length ct, .agg #[.int .i64 V.p, .int .i64 V.d], V.k.v, .slice Al l.length cl] w fun e w' => e = .returned (.bool true) ∧ Below w.heap.size w w' := by
  cases hfew : fewB bills.length V.ts.length l.length
  · go_enter Try.func3, Try.ntmps3
    go_wp2_with fail
    refine name_calls (fun w0 hw0 => ?_)
    have b0 : Below w.heap.size w w0 := by rw [hw0]; exact (by repeat' (first | (with_reducible exact Below.refl _ _) | (with_reducible assumption) | (with_reducible refine below_drewN ?_ _) | (with_reducible refine Below.drew ?_) | (with_reducible refine below_regrown_up _ _ ?_ ?_) | (with_reducible refine Below.alloc ?_ ?_ _) | (with_reducible refine Below.setCell ?_ ?_ _) | (with_reducible refine below_up ?_ ?_ (by assumption)) | (with_reducible exact Nat.le_refl _) | omega | (simp; done) | (simp; omega)))
    have l0 : w.heap.size + 1 < w0.heap.size := by rw [hw0]; simp
    have HX : Hid (∀ W, Below w0.heap.size w0 W → ((W.cell? ⟨w.heap.size, 0, none⟩ = some (.int .i64 V.p) ∧ W.cell? ⟨w.heap.size, 1, none⟩ = some (.int .i64 V.d)) ∧ (W.cell? ⟨w.heap.size + 1, 0, none⟩ = some (.int .i64 V.k.fx) ∧ W.cell? ⟨w.heap.size + 1, 1, none⟩ = some (.int .i64 V.k.n) ∧ W.cell? ⟨w.heap.size + 1, 2, none⟩ = some (.int .i64 V.k.d) ∧ W.cell? ⟨w.heap.size + 1, 3, none⟩ = some (.int .i64 V.k.most)) ∧ w.heap.size < W.heap.size ∧ w.heap.size + 1 < W.heap.size)) := Lib.hid (fun W hb => by
      have e : ∀ b o, b < w0.heap.size → W.cell? ⟨b, o, none⟩ = w0.cell? ⟨b, o, none⟩ := fun b o h => hb.cell (p := ⟨b, o, none⟩) h
      have hz := hb.size
      refine ⟨⟨?_, ?_⟩, ⟨?_, ?_, ?_, ?_⟩, by omega, by omega⟩
      all_goals
        rw [e _ _ (by omega), hw0]
        go_simp)
    clear hw0
    refine (head32_any _).mono ?_
    rintro e w1 ⟨rfl, b1⟩
    have B1 : Below w.heap.size w w1 := below_up b0 b0.size b1
    go_wp2_with fail
    refine (few32_any _ _ _ _ _ _ _ _ _ _).mono ?_
    rintro e w1' ⟨rfl, rfl⟩
    rw [hfew]
    go_wp2_with fail
    go_ret
    exact ⟨ret_bool (by simp), B1⟩
  obtain ⟨f1, f2, f3⟩ := fewB_iff.1 hfew
  have HST := Lib.hid hst
  clear hst
  cases hok : runOk V bills
  · have hr : runR V bills l = ([], [], 1) := by unfold runR; rw [if_neg (by omega), hok]; rfl
    have HR := Lib.hid hr
    clear hr
    go_enter Try.func3, Try.ntmps3
    go_wp2_with fail
    refine name_calls (fun w0 hw0 => ?_)
    have b0 : Below w.heap.size w w0 := by rw [hw0]; exact (by repeat' (first | (with_reducible exact Below.refl _ _) | (with_reducible assumption) | (with_reducible refine below_drewN ?_ _) | (with_reducible refine Below.drew ?_) | (with_reducible refine below_regrown_up _ _ ?_ ?_) | (with_reducible refine Below.alloc ?_ ?_ _) | (with_reducible refine Below.setCell ?_ ?_ _) | (with_reducible refine below_up ?_ ?_ (by assumption)) | (with_reducible exact Nat.le_refl _) | omega | (simp; done) | (simp; omega)))
    have l0 : w.heap.size + 1 < w0.heap.size := by rw [hw0]; simp
    have HX : Hid (∀ W, Below w0.heap.size w0 W → ((W.cell? ⟨w.heap.size, 0, none⟩ = some (.int .i64 V.p) ∧ W.cell? ⟨w.heap.size, 1, none⟩ = some (.int .i64 V.d)) ∧ (W.cell? ⟨w.heap.size + 1, 0, none⟩ = some (.int .i64 V.k.fx) ∧ W.cell? ⟨w.heap.size + 1, 1, none⟩ = some (.int .i64 V.k.n) ∧ W.cell? ⟨w.heap.size + 1, 2, none⟩ = some (.int .i64 V.k.d) ∧ W.cell? ⟨w.heap.size + 1, 3, none⟩ = some (.int .i64 V.k.most)) ∧ w.heap.size < W.heap.size ∧ w.heap.size + 1 < W.heap.size)) := Lib.hid (fun W hb => by
      have e : ∀ b o, b < w0.heap.size → W.cell? ⟨b, o, none⟩ = w0.cell? ⟨b, o, none⟩ := fun b o h => hb.cell (p := ⟨b, o, none⟩) h
      have hz := hb.size
      refine ⟨⟨?_, ?_⟩, ⟨?_, ?_, ?_, ?_⟩, by omega, by omega⟩
      all_goals
        rw [e _ _ (by omega), hw0]
        go_simp)
    clear hw0
    refine (head32_any _).mono ?_
    rintro e w1 ⟨rfl, b1⟩
    have B1 : Below w.heap.size w w1 := below_up b0 b0.size b1
    go_wp2_with fail
    refine (few32_any _ _ _ _ _ _ _ _ _ _).mono ?_
    rintro e w1' ⟨rfl, rfl⟩
    rw [hfew]
    obtain ⟨⟨y0, y1⟩, ⟨x0, x1, x2, x3⟩, ly, lx⟩ := HX.out w1 b1
    go_wp2_with fail
    refine (frun_lit (V := V) HR.out A At Al c ct cl w1 (hs.up B1) (hts.up B1) (hsl.up B1) (by omega) (by omega) (by omega) HST.out).mono ?_
    rintro e w2 ⟨⟨A1, c1, A2, c2, rfl, s1, s2⟩, b2⟩
    have B2 := below_up B1 B1.size b2
    have b02 := below_up b1 b1.size b2
    clear x0 x1 x2 x3 y0 y1 ly lx
    go_wp2_with fail
    go_ret
    exact ⟨ret_bool (by simp), B2⟩
  have hr : runR V bills l = ((runAll V bills l).1.es, (runAll V bills l).2, 0) := by unfold runR; rw [if_neg (by omega), hok]; rfl
  have hrl := run_len (V := V) (bills := bills) l
  have hkl := keptD_len l (runAll V bills l).2
  have hr2 : runR V bills (keptD l (runAll V bills l).2) = ((runAll V bills l).1.es, List.replicate (keptD l (runAll V bills l).2).length 0, 0) := by
    unfold runR
    rw [if_neg (by omega), hok, kept_run]
    rfl
  have hm2 : ∀ x ∈ keptD l (runAll V bills l).2, -9223372036854775808 ≤ x.stay ∧ x.stay ≤ 9223372036854775807 := fun x hx => HST.out x (keptD_mem hx)
  obtain ⟨hV, hbo, _, _⟩ := runOk_iff.1 hok
  have hes := (run_ok hV hbo l).1.len
  clear hV hbo hok
  generalize (runAll V bills l).1.es = es at *
  generalize (runAll V bills l).2 = errs at *
  have HR := Lib.hid hr
  have HR2 := Lib.hid hr2
  have HM2 := Lib.hid hm2
  have hel1 : errs.length ≤ l.length := by omega
  have hel2 : l.length ≤ errs.length := by omega
  have hneq : ((errs.length : Int) != (l.length : Int)) = false := by rw [bne_eq_false_iff_eq]; omega
  have hneq2 : (errs.length != l.length) = false := by rw [bne_eq_false_iff_eq]; omega
  have HRL := Lib.hid hrl
  have hmk := make_err
  clear hr hr2 hm2 hrl
  go_enter Try.func3, Try.ntmps3
  go_wp2_with fail
  refine name_calls (fun w0 hw0 => ?_)
  have b0 : Below w.heap.size w w0 := by rw [hw0]; exact (by repeat' (first | (with_reducible exact Below.refl _ _) | (with_reducible assumption) | (with_reducible refine below_drewN ?_ _) | (with_reducible refine Below.drew ?_) | (with_reducible refine below_regrown_up _ _ ?_ ?_) | (with_reducible refine Below.alloc ?_ ?_ _) | (with_reducible refine Below.setCell ?_ ?_ _) | (with_reducible refine below_up ?_ ?_ (by assumption)) | (with_reducible exact Nat.le_refl _) | omega | (simp; done) | (simp; omega)))
  have l0 : w.heap.size + 1 < w0.heap.size := by rw [hw0]; simp
  have HX : Hid (∀ W, Below w0.heap.size w0 W → ((W.cell? ⟨w.heap.size, 0, none⟩ = some (.int .i64 V.p) ∧ W.cell? ⟨w.heap.size, 1, none⟩ = some (.int .i64 V.d)) ∧ (W.cell? ⟨w.heap.size + 1, 0, none⟩ = some (.int .i64 V.k.fx) ∧ W.cell? ⟨w.heap.size + 1, 1, none⟩ = some (.int .i64 V.k.n) ∧ W.cell? ⟨w.heap.size + 1, 2, none⟩ = some (.int .i64 V.k.d) ∧ W.cell? ⟨w.heap.size + 1, 3, none⟩ = some (.int .i64 V.k.most)) ∧ w.heap.size < W.heap.size ∧ w.heap.size + 1 < W.heap.size)) := Lib.hid (fun W hb => by
    have e : ∀ b o, b < w0.heap.size → W.cell? ⟨b, o, none⟩ = w0.cell? ⟨b, o, none⟩ := fun b o h => hb.cell (p := ⟨b, o, none⟩) h
    have hz := hb.size
    refine ⟨⟨?_, ?_⟩, ⟨?_, ?_, ?_, ?_⟩, by omega, by omega⟩
    all_goals
      rw [e _ _ (by omega), hw0]
      go_simp)
  clear hw0
  refine (head32_any _).mono ?_
  rintro e w1 ⟨rfl, b1⟩
  have B1 : Below w.heap.size w w1 := below_up b0 b0.size b1
  go_wp2_with fail
  refine (few32_any _ _ _ _ _ _ _ _ _ _).mono ?_
  rintro e w1' ⟨rfl, rfl⟩
  rw [hfew]
  obtain ⟨⟨y0, y1⟩, ⟨x0, x1, x2, x3⟩, ly, lx⟩ := HX.out w1 b1
  go_wp2_with fail
  refine (frun_lit (V := V) HR.out A At Al c ct cl w1 (hs.up B1) (hts.up B1) (hsl.up B1) (by omega) (by omega) (by omega) HST.out).mono ?_
  rintro e w2 ⟨⟨A1, c1, A2, c2, rfl, s1, s2⟩, b2⟩
  have B2 := below_up B1 B1.size b2
  have b02 := below_up b1 b1.size b2
  clear x0 x1 x2 x3 y0 y1 ly lx
  go_wp2_with fail
  go_loopw [15, 16] (fun v15 i wr => ∃ (m : Nat) (kv : Value), m ≤ l.length ∧ i = .int .i64 m ∧ kv = v15 ∧ OwnL wr w2.heap.size 37 4 Deed.cs kv (keptD (l.take m) (errs.take m)) ∧ Below w2.heap.size w2 wr) (fun _ i _ => l.length - (intOf i).toNat)
  case atStart => exact ⟨0, _, by omega, rfl, rfl, OwnL.nil_, Below.refl _ _⟩
  case round =>
    obtain ⟨m, kv, hm, rfl, rfl, hO, hbw⟩ := hrel
    have hbz := hbw.size
    by_cases hlt : m < l.length
    · have hlt2 : m < errs.length := by omega
      have hx1 : (0 : Int) ≤ (m : Int) := by omega
      have hx2 : (m : Int) < (l.length : Int) := by omega
      have hx3 : (m : Int) < (errs.length : Int) := by omega
      have hBw := below_up B2 B2.size hbw
      obtain ⟨b1', o1, rfl, hbl1, hcell1⟩ := (hsl.up hBw).at_ hlt
      obtain ⟨b2', o2, rfl, hbl2, hcell2⟩ := (s2.up hbw).at_ hlt2
      have p0 := hcell1 0 _ rfl
      have p1 := hcell1 1 _ rfl
      have p2 := hcell1 2 _ rfl
      have p3 := hcell1 3 _ rfl
      have q0 := hcell2 0 _ rfl
      rw [Nat.add_zero] at p0
      rw [Nat.add_zero, Nat.mul_one] at q0
      clear hcell1 hcell2
      have HSTEP := Lib.hid (keptD_step hlt hlt2)
      have hkl2 : (keptD (l.take m) (errs.take m)).length ≤ 40 := Nat.le_trans (keptD_len _ _) (by rw [List.length_take]; omega)
      by_cases he : errs[m] = 0
      · have hb : (errs[m] == 0) = true := by simpa using he
        have HE := Lib.hid he
        clear he
        go_wp2_with (at_builtin; go_loud (refine wpList_push _ rfl (.tmp 56) (.tmp 61) 28 37 rfl w2.heap.size 4 32 Deed.cs elemDeed deed_len deed_one kv _ rfl (hO.alloc _) _ 1 l[m] rfl (news_at _ _ _ rfl (by simp)) (by omega) (by omega) (by simp; omega) ?_); intro v5 w5 hown5 hgrow5)
        go_roundw
        case rel =>
          refine ⟨m + 1, _, by omega, by go_num, rfl, ?_, below_push (hbw.alloc hbz _) (hO.alloc _) hgrow5 (by simp; omega)⟩
          rw [HSTEP.out, if_pos HE.out]
          exact hown5
        case measure => simp [intOf]; omega
      · have hb : (errs[m] == 0) = false := by simpa using he
        have HE := Lib.hid he
        clear he
        go_wp2_with fail
        go_roundw
        case rel =>
          refine ⟨m + 1, _, by omega, by go_num, rfl, ?_, hbw⟩
          rw [HSTEP.out, if_neg HE.out]
          exact hO
        case measure => simp [intOf]; omega
    · obtain rfl : m = l.length := by omega
      rw [List.take_of_length_le (Nat.le_refl _), List.take_of_length_le hel1] at hO
      have hBw := below_up B2 B2.size hbw
      have b0w := below_up b02 b02.size hbw
      obtain ⟨A7, c7, rfl, _, _, hs7⟩ := hO.sl deed_len
      obtain ⟨⟨y0, y1⟩, ⟨x0, x1, x2, x3⟩, ly, lx⟩ := HX.out wr b0w
      go_wp2_with fail
      refine (frun_lit (V := V) HR2.out A At A7 c ct c7 wr (hs.up hBw) (hts.up hBw) (hs7.more (by omega)) (by omega) (by omega) (by omega) HM2.out).mono ?_
      rintro e w3 ⟨⟨A3, c3, A4, c4, rfl, s3, s4⟩, b3⟩
      have B3 := below_up hBw hBw.size b3
      clear x0 x1 x2 x3 y0 y1 ly lx
      generalize hkn : (keptD l errs).length = n at *
      have hrep : (List.replicate n (0 : Int)).length = n := List.length_replicate
      go_wp2_with fail
      refine (rsame_any es es A1 A3 c1 c3 _ ((s1.up hbw).up b3) s3 (by omega) (by omega)).mono ?_
      rintro e w4 ⟨rfl, b4⟩
      rw [decide_eq_true rfl]
      have B4 := below_up B3 B3.size b4
      have hmk2 := hmk w4 n (by omega)
      clear hmk
      go_wp2_with fail
      refine name_calls (fun w5 hw5 => ?_)
      have b5 : Below w4.heap.size w4 w5 := by rw [hw5]; exact (by repeat' (first | (with_reducible exact Below.refl _ _) | (with_reducible assumption) | (with_reducible refine below_drewN ?_ _) | (with_reducible refine Below.drew ?_) | (with_reducible refine below_regrown_up _ _ ?_ ?_) | (with_reducible refine Below.alloc ?_ ?_ _) | (with_reducible refine Below.setCell ?_ ?_ _) | (with_reducible refine below_up ?_ ?_ (by assumption)) | (with_reducible exact Nat.le_refl _) | omega | (simp; done) | (simp; omega)))
      have s5 : SlInt w5 (some ⟨w4.heap.size, 0, none⟩) (List.replicate n 0) := by
        refine sl_of_box (cs := madeCells #[.int .i64 0] n) (fun _ => rfl) (fun o => ?_) (by rw [hw5]; simp) (by rw [toList_madeCells_one, intC_flat, List.map_replicate])
        rw [hw5]
        exact World.cell?_alloc_new _ _ _ _
      clear hw5 hmk2
      have key := serr_any (List.replicate n 0) (List.replicate n 0) A4 (some ⟨w4.heap.size, 0, none⟩) c4 n w5 ((s4.up b4).up b5) s5 (by omega) (by omega)
      rw [decide_eq_true rfl, hrep] at key
      refine key.mono ?_
      rintro e w6 ⟨rfl, b6⟩
      have B6 := below_up (below_up B4 B4.size b5) (by have := B4.size; have := b5.size; omega) b6
      go_wp2_with fail
      go_ret
      exact ⟨ret_bool (by simp), B6⟩
end Go.Proofs.Ytmlhoojcdidgkaa
