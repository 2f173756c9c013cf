/-
  The law 'FolioOwn': the walk.
-/
import Derived.Test.YtmlhoojcdidgkaaFoOwnP
namespace Go.Proofs.Ytmlhoojcdidgkaa
set_option linter.unusedSimpArgs false
set_option linter.unusedVariables false
open Go.RowKit
open Go.Sort (grow size_grow)


set_option maxHeartbeats 4000000
set_option maxRecDepth 100000
theorem ownD_step {l : List Deed} {errs : List Int} {m : Nat} {s : Int} (h1 : m < l.length) (h2 : m < errs.length) : ownD (l.take (m + 1)) (errs.take (m + 1)) s = if ((errs[m] == 0) && (l[m].kind != 9) && (l[m].stay == s)) = true then ownD (l.take m) (errs.take m) s ++ [l[m]] else ownD (l.take m) (errs.take m) s := by
  rw [List.take_succ_eq_append_getElem h1, List.take_succ_eq_append_getElem h2, ownD_snoc (by rw [List.length_take, List.length_take]; omega)]
theorem ownD_len (l : List Deed) (errs : List Int) (s : Int) : (ownD l errs s).length ≤ l.length := by
  unfold ownD
  rw [List.length_map]
  exact Nat.le_trans (List.length_filter_le _ _) (by rw [List.length_zip]; omega)
theorem ownD_mem {l : List Deed} {errs : List Int} {s : Int} {x : Deed} (h : x ∈ ownD l errs s) : x ∈ l := by
  obtain ⟨p, hp, rfl⟩ := List.mem_map.1 h
  exact (List.of_mem_zip (List.mem_filter.1 hp).1).1
theorem mineE_step {es : List Entry} {m : Nat} {s : Int} (h : m < es.length) : mineE (es.take (m + 1)) s = if (es[m].ref == s) = true then mineE (es.take m) s ++ [es[m]] else mineE (es.take m) s := by
  rw [List.take_succ_eq_append_getElem h, mineE_app]
  unfold mineE
  rw [List.filter_cons]
  split
  · rfl
  · rw [List.filter_nil, List.append_nil]
theorem mineE_len (es : List Entry) (s : Int) : (mineE es s).length ≤ es.length := List.length_filter_le _ _
theorem runOk_one {V : Env} {bills : List Bill} (h : runOk V bills = true) {b : Bill} (hb : b ∈ bills) : runOk V [b] = true := by
  obtain ⟨h1, h2, h3, h4⟩ := runOk_iff.1 h
  refine runOk_iff.2 ⟨h1, billsOk_iff.2 ⟨?_, ?_⟩, by simp, h4⟩
  · intro x hx
    obtain rfl : x = b := by simpa using hx
    exact (billsOk_iff.1 h2).1 _ hb
  · simp [stays]
theorem law_own (V : Env) (bills : List Bill) (l : List Deed) (u : Int) (A At Al : Option Addr) (c ct cl : Nat) (w : World) (hs : SlBill w A bills) (hts : SlTax w At V.ts) (hsl : SlDeed w Al l) (hst : ∀ x ∈ l, -9223372036854775808 ≤ x.stay ∧ x.stay ≤ 9223372036854775807) (u0 : 0 ≤ u) (u1 : u ≤ 255) :
    Calls Try.prog 4 #[.slice A bills.length c, .slice At V.ts.length ct, .agg #[.int .i64 V.p, .int .i64 V.d], V.k.v, .slice Al l.length cl, .int .u8 u] w fun e w' => e = .returned (.bool true) ∧ Below w.heap.size w w' := by
  cases hfew : fewB bills.length V.ts.length l.length
  · go_enter Try.func4, Try.ntmps4
    go_wp2_with fail
    refine name_calls (fun w0 hw0 => ?_)
    have b0 : Below w.heap.size w w0 := by rw [hw0]; exact (by repeat' (first | (with_reducible exact Below.refl _ _) | (with_reducible assumption) | (with_reducible refine below_drewN ?_ _) | (with_reducible refine Below.drew ?_) | (with_reducible refine below_regrown_up _ _ ?_ ?_) | (with_reducible refine Below.alloc ?_ ?_ _) | (with_reducible refine Below.setCell ?_ ?_ _) | (with_reducible refine below_up ?_ ?_ (by assumption)) | (with_reducible exact Nat.le_refl _) | omega | (simp; done) | (simp; omega)))
    have l0 : w.heap.size + 1 < w0.heap.size := by rw [hw0]; simp
    have HX : Hid (∀ W, Below w0.heap.size w0 W → ((W.cell? ⟨w.heap.size, 0, none⟩ = some (.int .i64 V.p) ∧ W.cell? ⟨w.heap.size, 1, none⟩ = some (.int .i64 V.d)) ∧ (W.cell? ⟨w.heap.size + 1, 0, none⟩ = some (.int .i64 V.k.fx) ∧ W.cell? ⟨w.heap.size + 1, 1, none⟩ = some (.int .i64 V.k.n) ∧ W.cell? ⟨w.heap.size + 1, 2, none⟩ = some (.int .i64 V.k.d) ∧ W.cell? ⟨w.heap.size + 1, 3, none⟩ = some (.int .i64 V.k.most)) ∧ w.heap.size < W.heap.size ∧ w.heap.size + 1 < W.heap.size)) := Lib.hid (fun W hb => by
      have e : ∀ b o, b < w0.heap.size → W.cell? ⟨b, o, none⟩ = w0.cell? ⟨b, o, none⟩ := fun b o h => hb.cell (p := ⟨b, o, none⟩) h
      have hz := hb.size
      refine ⟨⟨?_, ?_⟩, ⟨?_, ?_, ?_, ?_⟩, by omega, by omega⟩
      all_goals
        rw [e _ _ (by omega), hw0]
        go_simp)
    clear hw0
    refine (head32_any _).mono ?_
    rintro e w1 ⟨rfl, b1⟩
    have B1 : Below w.heap.size w w1 := below_up b0 b0.size b1
    go_wp2_with fail
    refine (few32_any _ _ _ _ _ _ _ _ _ _).mono ?_
    rintro e w1' ⟨rfl, rfl⟩
    rw [hfew]
    go_wp2_with fail
    go_ret
    exact ⟨ret_bool (by simp), B1⟩
  obtain ⟨f1, f2, f3⟩ := fewB_iff.1 hfew
  have HST := Lib.hid hst
  clear hst
  cases hn1 : ((bills.length : Int) == 0)
  rotate_left
  · go_enter Try.func4, Try.ntmps4
    go_wp2_with fail
    refine name_calls (fun w0 hw0 => ?_)
    have b0 : Below w.heap.size w w0 := by rw [hw0]; exact (by repeat' (first | (with_reducible exact Below.refl _ _) | (with_reducible assumption) | (with_reducible refine below_drewN ?_ _) | (with_reducible refine Below.drew ?_) | (with_reducible refine below_regrown_up _ _ ?_ ?_) | (with_reducible refine Below.alloc ?_ ?_ _) | (with_reducible refine Below.setCell ?_ ?_ _) | (with_reducible refine below_up ?_ ?_ (by assumption)) | (with_reducible exact Nat.le_refl _) | omega | (simp; done) | (simp; omega)))
    have l0 : w.heap.size + 1 < w0.heap.size := by rw [hw0]; simp
    have HX : Hid (∀ W, Below w0.heap.size w0 W → ((W.cell? ⟨w.heap.size, 0, none⟩ = some (.int .i64 V.p) ∧ W.cell? ⟨w.heap.size, 1, none⟩ = some (.int .i64 V.d)) ∧ (W.cell? ⟨w.heap.size + 1, 0, none⟩ = some (.int .i64 V.k.fx) ∧ W.cell? ⟨w.heap.size + 1, 1, none⟩ = some (.int .i64 V.k.n) ∧ W.cell? ⟨w.heap.size + 1, 2, none⟩ = some (.int .i64 V.k.d) ∧ W.cell? ⟨w.heap.size + 1, 3, none⟩ = some (.int .i64 V.k.most)) ∧ w.heap.size < W.heap.size ∧ w.heap.size + 1 < W.heap.size)) := Lib.hid (fun W hb => by
      have e : ∀ b o, b < w0.heap.size → W.cell? ⟨b, o, none⟩ = w0.cell? ⟨b, o, none⟩ := fun b o h => hb.cell (p := ⟨b, o, none⟩) h
      have hz := hb.size
      refine ⟨⟨?_, ?_⟩, ⟨?_, ?_, ?_, ?_⟩, by omega, by omega⟩
      all_goals
        rw [e _ _ (by omega), hw0]
        go_simp)
    clear hw0
    refine (head32_any _).mono ?_
    rintro e w1 ⟨rfl, b1⟩
    have B1 : Below w.heap.size w w1 := below_up b0 b0.size b1
    go_wp2_with fail
    refine (few32_any _ _ _ _ _ _ _ _ _ _).mono ?_
    rintro e w1' ⟨rfl, rfl⟩
    rw [hfew]
    go_wp2_with fail
    go_ret
    exact ⟨ret_bool (by simp), B1⟩
  have hn0 : (bills.length : Int) ≠ 0 := by rw [beq_eq_false_iff_ne] at hn1; exact hn1
  have hn2 : bills.length ≠ 0 := by omega
  have hk0 : 0 ≤ u % (bills.length : Int) := Int.emod_nonneg _ (by omega)
  have hk1 : u % (bills.length : Int) < (bills.length : Int) := Int.emod_lt_of_pos _ (by omega)
  obtain ⟨k, hkk⟩ : ∃ k : Nat, u % (bills.length : Int) = k := ⟨(u % (bills.length : Int)).toNat, by omega⟩
  rw [hkk] at hk0 hk1
  have hk : k < bills.length := by omega
  cases hok : runOk V bills
  · have hr : runR V bills l = ([], [], 1) := by unfold runR; rw [if_neg (by omega), hok]; rfl
    have HR := Lib.hid hr
    clear hr
    go_enter Try.func4, Try.ntmps4
    go_wp2_with fail
    refine name_calls (fun w0 hw0 => ?_)
    have b0 : Below w.heap.size w w0 := by rw [hw0]; exact (by repeat' (first | (with_reducible exact Below.refl _ _) | (with_reducible assumption) | (with_reducible refine below_drewN ?_ _) | (with_reducible refine Below.drew ?_) | (with_reducible refine below_regrown_up _ _ ?_ ?_) | (with_reducible refine Below.alloc ?_ ?_ _) | (with_reducible refine Below.setCell ?_ ?_ _) | (with_reducible refine below_up ?_ ?_ (by assumption)) | (with_reducible exact Nat.le_refl _) | omega | (simp; done) | (simp; omega)))
    have l0 : w.heap.size + 1 < w0.heap.size := by rw [hw0]; simp
    have HX : Hid (∀ W, Below w0.heap.size w0 W → ((W.cell? ⟨w.heap.size, 0, none⟩ = some (.int .i64 V.p) ∧ W.cell? ⟨w.heap.size, 1, none⟩ = some (.int .i64 V.d)) ∧ (W.cell? ⟨w.heap.size + 1, 0, none⟩ = some (.int .i64 V.k.fx) ∧ W.cell? ⟨w.heap.size + 1, 1, none⟩ = some (.int .i64 V.k.n) ∧ W.cell? ⟨w.heap.size + 1, 2, none⟩ = some (.int .i64 V.k.d) ∧ W.cell? ⟨w.heap.size + 1, 3, none⟩ = some (.int .i64 V.k.most)) ∧ w.heap.size < W.heap.size ∧ w.heap.size + 1 < W.heap.size)) := Lib.hid (fun W hb => by
      have e : ∀ b o, b < w0.heap.size → W.cell? ⟨b, o, none⟩ = w0.cell? ⟨b, o, none⟩ := fun b o h => hb.cell (p := ⟨b, o, none⟩) h
      have hz := hb.size
      refine ⟨⟨?_, ?_⟩, ⟨?_, ?_, ?_, ?_⟩, by omega, by omega⟩
      all_goals
        rw [e _ _ (by omega), hw0]
        go_simp)
    clear hw0
    refine (head32_any _).mono ?_
    rintro e w1 ⟨rfl, b1⟩
    have B1 : Below w.heap.size w w1 := below_up b0 b0.size b1
    go_wp2_with fail
    refine (few32_any _ _ _ _ _ _ _ _ _ _).mono ?_
    rintro e w1' ⟨rfl, rfl⟩
    rw [hfew]
    obtain ⟨bb, off, rfl, hbl, hcell⟩ := (hs.up B1).at_ hk
    have q0 := hcell 0 _ rfl
    have q1 := hcell 1 _ rfl
    have q2 := hcell 2 _ rfl
    have q3 := hcell 3 _ rfl
    have q4 := hcell 4 _ rfl
    have q5 := hcell 5 _ rfl
    have q6 := hcell 6 _ rfl
    have q7 := hcell 7 _ rfl
    have q8 := hcell 8 _ rfl
    rw [Nat.add_zero] at q0
    clear hcell
    obtain ⟨⟨y0, y1⟩, ⟨x0, x1, x2, x3⟩, ly, lx⟩ := HX.out w1 b1
    go_wp2_with fail
    refine name_calls (fun wb hwb => ?_)
    have bb1 : Below w1.heap.size w1 wb := by rw [hwb]; exact (by repeat' (first | (with_reducible exact Below.refl _ _) | (with_reducible assumption) | (with_reducible refine below_drewN ?_ _) | (with_reducible refine Below.drew ?_) | (with_reducible refine below_regrown_up _ _ ?_ ?_) | (with_reducible refine Below.alloc ?_ ?_ _) | (with_reducible refine Below.setCell ?_ ?_ _) | (with_reducible refine below_up ?_ ?_ (by assumption)) | (with_reducible exact Nat.le_refl _) | omega | (simp; done) | (simp; omega)))
    have lb : w1.heap.size < wb.heap.size := by rw [hwb]; simp
    have HB : Hid (∀ W, Below wb.heap.size wb W → W.cell? ⟨w1.heap.size, 0, none⟩ = some (.int .i64 bills[k].stay) ∧ W.cell? ⟨w1.heap.size, 1, none⟩ = some (.int .i64 bills[k].channel) ∧ W.cell? ⟨w1.heap.size, 2, none⟩ = some (.int .i64 bills[k].place) ∧ W.cell? ⟨w1.heap.size, 3, none⟩ = some (.int .i64 bills[k].kind) ∧ W.cell? ⟨w1.heap.size, 4, none⟩ = some (.int .i64 bills[k].frm) ∧ W.cell? ⟨w1.heap.size, 5, none⟩ = some (.int .i64 bills[k].til) ∧ W.cell? ⟨w1.heap.size, 6, none⟩ = some (.int .i64 bills[k].persons) ∧ W.cell? ⟨w1.heap.size, 7, none⟩ = some (.int .i64 bills[k].price) ∧ W.cell? ⟨w1.heap.size, 8, none⟩ = some (.int .i64 bills[k].keep) ∧ w1.heap.size < W.heap.size) := Lib.hid (fun W hb => by
      have e : ∀ o, W.cell? ⟨w1.heap.size, o, none⟩ = wb.cell? ⟨w1.heap.size, o, none⟩ := fun o => hb.cell (p := ⟨w1.heap.size, o, none⟩) lb
      have hz := hb.size
      refine ⟨?_, ?_, ?_, ?_, ?_, ?_, ?_, ?_, ?_, by omega⟩
      all_goals
        rw [e, hwb]
        go_simp)
    clear hwb q0 q1 q2 q3 q4 q5 q6 q7 q8 x0 x1 x2 x3 y0 y1 ly lx
    have Bb := below_up B1 B1.size bb1
    refine (frun_lit (V := V) HR.out _ At Al c ct cl wb (hs.up Bb) (hts.up Bb) (hsl.up Bb) (by omega) (by omega) (by omega) HST.out).mono ?_
    rintro e w2 ⟨⟨A1, c1, A2, c2, rfl, s1, s2⟩, b2⟩
    have B2 := below_up Bb Bb.size b2
    have b12 := below_up bb1 bb1.size b2
    have b02 := below_up b1 b1.size b12
    obtain ⟨j0, j1, j2, j3, j4, j5, j6, j7, j8, lj⟩ := HB.out w2 b2
    go_wp2_with fail
    go_ret
    exact ⟨ret_bool (by simp), B2⟩
  have hr : runR V bills l = ((runAll V bills l).1.es, (runAll V bills l).2, 0) := by unfold runR; rw [if_neg (by omega), hok]; rfl
  cases hdir : (bills[k].channel != 0)
  rotate_left
  · have HR := Lib.hid hr
    clear hr
    generalize (runAll V bills l).1.es = es at *
    generalize (runAll V bills l).2 = errs at *
    go_enter Try.func4, Try.ntmps4
    go_wp2_with fail
    refine name_calls (fun w0 hw0 => ?_)
    have b0 : Below w.heap.size w w0 := by rw [hw0]; exact (by repeat' (first | (with_reducible exact Below.refl _ _) | (with_reducible assumption) | (with_reducible refine below_drewN ?_ _) | (with_reducible refine Below.drew ?_) | (with_reducible refine below_regrown_up _ _ ?_ ?_) | (with_reducible refine Below.alloc ?_ ?_ _) | (with_reducible refine Below.setCell ?_ ?_ _) | (with_reducible refine below_up ?_ ?_ (by assumption)) | (with_reducible exact Nat.le_refl _) | omega | (simp; done) | (simp; omega)))
    have l0 : w.heap.size + 1 < w0.heap.size := by rw [hw0]; simp
    have HX : Hid (∀ W, Below w0.heap.size w0 W → ((W.cell? ⟨w.heap.size, 0, none⟩ = some (.int .i64 V.p) ∧ W.cell? ⟨w.heap.size, 1, none⟩ = some (.int .i64 V.d)) ∧ (W.cell? ⟨w.heap.size + 1, 0, none⟩ = some (.int .i64 V.k.fx) ∧ W.cell? ⟨w.heap.size + 1, 1, none⟩ = some (.int .i64 V.k.n) ∧ W.cell? ⟨w.heap.size + 1, 2, none⟩ = some (.int .i64 V.k.d) ∧ W.cell? ⟨w.heap.size + 1, 3, none⟩ = some (.int .i64 V.k.most)) ∧ w.heap.size < W.heap.size ∧ w.heap.size + 1 < W.heap.size)) := Lib.hid (fun W hb => by
      have e : ∀ b o, b < w0.heap.size → W.cell? ⟨b, o, none⟩ = w0.cell? ⟨b, o, none⟩ := fun b o h => hb.cell (p := ⟨b, o, none⟩) h
      have hz := hb.size
      refine ⟨⟨?_, ?_⟩, ⟨?_, ?_, ?_, ?_⟩, by omega, by omega⟩
      all_goals
        rw [e _ _ (by omega), hw0]
        go_simp)
    clear hw0
    refine (head32_any _).mono ?_
    rintro e w1 ⟨rfl, b1⟩
    have B1 : Below w.heap.size w w1 := below_up b0 b0.size b1
    go_wp2_with fail
    refine (few32_any _ _ _ _ _ _ _ _ _ _).mono ?_
    rintro e w1' ⟨rfl, rfl⟩
    rw [hfew]
    obtain ⟨bb, off, rfl, hbl, hcell⟩ := (hs.up B1).at_ hk
    have q0 := hcell 0 _ rfl
    have q1 := hcell 1 _ rfl
    have q2 := hcell 2 _ rfl
    have q3 := hcell 3 _ rfl
    have q4 := hcell 4 _ rfl
    have q5 := hcell 5 _ rfl
    have q6 := hcell 6 _ rfl
    have q7 := hcell 7 _ rfl
    have q8 := hcell 8 _ rfl
    rw [Nat.add_zero] at q0
    clear hcell
    obtain ⟨⟨y0, y1⟩, ⟨x0, x1, x2, x3⟩, ly, lx⟩ := HX.out w1 b1
    go_wp2_with fail
    refine name_calls (fun wb hwb => ?_)
    have bb1 : Below w1.heap.size w1 wb := by rw [hwb]; exact (by repeat' (first | (with_reducible exact Below.refl _ _) | (with_reducible assumption) | (with_reducible refine below_drewN ?_ _) | (with_reducible refine Below.drew ?_) | (with_reducible refine below_regrown_up _ _ ?_ ?_) | (with_reducible refine Below.alloc ?_ ?_ _) | (with_reducible refine Below.setCell ?_ ?_ _) | (with_reducible refine below_up ?_ ?_ (by assumption)) | (with_reducible exact Nat.le_refl _) | omega | (simp; done) | (simp; omega)))
    have lb : w1.heap.size < wb.heap.size := by rw [hwb]; simp
    have HB : Hid (∀ W, Below wb.heap.size wb W → W.cell? ⟨w1.heap.size, 0, none⟩ = some (.int .i64 bills[k].stay) ∧ W.cell? ⟨w1.heap.size, 1, none⟩ = some (.int .i64 bills[k].channel) ∧ W.cell? ⟨w1.heap.size, 2, none⟩ = some (.int .i64 bills[k].place) ∧ W.cell? ⟨w1.heap.size, 3, none⟩ = some (.int .i64 bills[k].kind) ∧ W.cell? ⟨w1.heap.size, 4, none⟩ = some (.int .i64 bills[k].frm) ∧ W.cell? ⟨w1.heap.size, 5, none⟩ = some (.int .i64 bills[k].til) ∧ W.cell? ⟨w1.heap.size, 6, none⟩ = some (.int .i64 bills[k].persons) ∧ W.cell? ⟨w1.heap.size, 7, none⟩ = some (.int .i64 bills[k].price) ∧ W.cell? ⟨w1.heap.size, 8, none⟩ = some (.int .i64 bills[k].keep) ∧ w1.heap.size < W.heap.size) := Lib.hid (fun W hb => by
      have e : ∀ o, W.cell? ⟨w1.heap.size, o, none⟩ = wb.cell? ⟨w1.heap.size, o, none⟩ := fun o => hb.cell (p := ⟨w1.heap.size, o, none⟩) lb
      have hz := hb.size
      refine ⟨?_, ?_, ?_, ?_, ?_, ?_, ?_, ?_, ?_, by omega⟩
      all_goals
        rw [e, hwb]
        go_simp)
    clear hwb q0 q1 q2 q3 q4 q5 q6 q7 q8 x0 x1 x2 x3 y0 y1 ly lx
    have Bb := below_up B1 B1.size bb1
    refine (frun_lit (V := V) HR.out _ At Al c ct cl wb (hs.up Bb) (hts.up Bb) (hsl.up Bb) (by omega) (by omega) (by omega) HST.out).mono ?_
    rintro e w2 ⟨⟨A1, c1, A2, c2, rfl, s1, s2⟩, b2⟩
    have B2 := below_up Bb Bb.size b2
    have b12 := below_up bb1 bb1.size b2
    have b02 := below_up b1 b1.size b12
    obtain ⟨j0, j1, j2, j3, j4, j5, j6, j7, j8, lj⟩ := HB.out w2 b2
    go_wp2_with fail
    go_ret
    exact ⟨ret_bool (by simp), B2⟩
  have hrl := run_len (V := V) (bills := bills) l
  obtain ⟨hV, hbo, _, _⟩ := runOk_iff.1 hok
  have hbm : bills[k] ∈ bills := List.getElem_mem hk
  have hdd : bills[k].direct = true := by
    unfold Bill.direct
    have h : bills[k].channel = 0 := by simpa using hdir
    rw [h]
    rfl
  obtain ⟨k1, hsim, hes1⟩ : ∃ k1 : Crs, runAll V [bills[k]] (ownD l (runAll V bills l).2 bills[k].stay) = (k1, List.replicate (ownD l (runAll V bills l).2 bills[k].stay).length 0) ∧ k1.es = mineE (runAll V bills l).1.es bills[k].stay := by
    obtain ⟨_, _, c1, a, hsim, _, _, _, hes1, _⟩ := own_sim hV hbo hbm hdd l
    exact ⟨c1, hsim, hes1⟩
  have hol := ownD_len l (runAll V bills l).2 bills[k].stay
  have hr2 : runR V [bills[k]] (ownD l (runAll V bills l).2 bills[k].stay) = (mineE (runAll V bills l).1.es bills[k].stay, List.replicate (ownD l (runAll V bills l).2 bills[k].stay).length 0, 0) := by
    unfold runR
    rw [if_neg (by omega), runOk_one hok hbm, hsim, ← hes1]
    rfl
  have hm2 : ∀ x ∈ ownD l (runAll V bills l).2 bills[k].stay, -9223372036854775808 ≤ x.stay ∧ x.stay ≤ 9223372036854775807 := fun x hx => HST.out x (ownD_mem hx)
  have hes := (run_ok hV hbo l).1.len
  clear hV hbo hok hsim hes1 hdd hbm
  generalize (runAll V bills l).1.es = es at *
  generalize (runAll V bills l).2 = errs at *
  have HR := Lib.hid hr
  have hel1 : errs.length ≤ l.length := by omega
  have hel2 : l.length ≤ errs.length := by omega
  have hneq : ((errs.length : Int) != (l.length : Int)) = false := by rw [bne_eq_false_iff_eq]; omega
  have hneq2 : (errs.length != l.length) = false := by rw [bne_eq_false_iff_eq]; omega
  have hml := mineE_len es bills[k].stay
  have HF : Hid (∀ (W : World) (A8 A9 : Option Addr) (c8 c9 : Nat), SlBill W A8 [bills[k]] → SlTax W At V.ts → SlDeed W A9 (ownD l errs bills[k].stay) → Calls Try.prog 12 #[.slice A8 1 c8, .slice At V.ts.length ct, .agg #[.int .i64 V.p, .int .i64 V.d], V.k.v, .slice A9 (ownD l errs bills[k].stay).length c9] W fun e w' => (∃ A1 c1 A2 c2 n2, e = .returned (.tuple #[.slice A1 (mineE es bills[k].stay).length c1, .slice A2 n2 c2, .int .i64 0]) ∧ SlEnt w' A1 (mineE es bills[k].stay)) ∧ Below W.heap.size W w') := Lib.hid (fun W A8 A9 c8 c9 h1 h2 h3 => by
    refine (frun_lit (V := V) hr2 A8 At A9 c8 ct c9 W h1 h2 h3 (by simp) (by omega) (by omega) hm2).mono ?_
    rintro e w' ⟨⟨A1, c1, A2, c2, h1, h2, _⟩, h4⟩
    exact ⟨⟨A1, c1, A2, c2, _, h1, h2⟩, h4⟩)
  have HRL := Lib.hid hrl
  clear hr hr2 hm2 hrl
  go_enter Try.func4, Try.ntmps4
  go_wp2_with fail
  refine name_calls (fun w0 hw0 => ?_)
  have b0 : Below w.heap.size w w0 := by rw [hw0]; exact (by repeat' (first | (with_reducible exact Below.refl _ _) | (with_reducible assumption) | (with_reducible refine below_drewN ?_ _) | (with_reducible refine Below.drew ?_) | (with_reducible refine below_regrown_up _ _ ?_ ?_) | (with_reducible refine Below.alloc ?_ ?_ _) | (with_reducible refine Below.setCell ?_ ?_ _) | (with_reducible refine below_up ?_ ?_ (by assumption)) | (with_reducible exact Nat.le_refl _) | omega | (simp; done) | (simp; omega)))
  have l0 : w.heap.size + 1 < w0.heap.size := by rw [hw0]; simp
  have HX : Hid (∀ W, Below w0.heap.size w0 W → ((W.cell? ⟨w.heap.size, 0, none⟩ = some (.int .i64 V.p) ∧ W.cell? ⟨w.heap.size, 1, none⟩ = some (.int .i64 V.d)) ∧ (W.cell? ⟨w.heap.size + 1, 0, none⟩ = some (.int .i64 V.k.fx) ∧ W.cell? ⟨w.heap.size + 1, 1, none⟩ = some (.int .i64 V.k.n) ∧ W.cell? ⟨w.heap.size + 1, 2, none⟩ = some (.int .i64 V.k.d) ∧ W.cell? ⟨w.heap.size + 1, 3, none⟩ = some (.int .i64 V.k.most)) ∧ w.heap.size < W.heap.size ∧ w.heap.size + 1 < W.heap.size)) := Lib.hid (fun W hb => by
    have e : ∀ b o, b < w0.heap.size → W.cell? ⟨b, o, none⟩ = w0.cell? ⟨b, o, none⟩ := fun b o h => hb.cell (p := ⟨b, o, none⟩) h
    have hz := hb.size
    refine ⟨⟨?_, ?_⟩, ⟨?_, ?_, ?_, ?_⟩, by omega, by omega⟩
    all_goals
      rw [e _ _ (by omega), hw0]
      go_simp)
  clear hw0
  refine (head32_any _).mono ?_
  rintro e w1 ⟨rfl, b1⟩
  have B1 : Below w.heap.size w w1 := below_up b0 b0.size b1
  go_wp2_with fail
  refine (few32_any _ _ _ _ _ _ _ _ _ _).mono ?_
  rintro e w1' ⟨rfl, rfl⟩
  rw [hfew]
  obtain ⟨bb, off, rfl, hbl, hcell⟩ := (hs.up B1).at_ hk
  have q0 := hcell 0 _ rfl
  have q1 := hcell 1 _ rfl
  have q2 := hcell 2 _ rfl
  have q3 := hcell 3 _ rfl
  have q4 := hcell 4 _ rfl
  have q5 := hcell 5 _ rfl
  have q6 := hcell 6 _ rfl
  have q7 := hcell 7 _ rfl
  have q8 := hcell 8 _ rfl
  rw [Nat.add_zero] at q0
  clear hcell
  obtain ⟨⟨y0, y1⟩, ⟨x0, x1, x2, x3⟩, ly, lx⟩ := HX.out w1 b1
  go_wp2_with fail
  refine name_calls (fun wb hwb => ?_)
  have bb1 : Below w1.heap.size w1 wb := by rw [hwb]; exact (by repeat' (first | (with_reducible exact Below.refl _ _) | (with_reducible assumption) | (with_reducible refine below_drewN ?_ _) | (with_reducible refine Below.drew ?_) | (with_reducible refine below_regrown_up _ _ ?_ ?_) | (with_reducible refine Below.alloc ?_ ?_ _) | (with_reducible refine Below.setCell ?_ ?_ _) | (with_reducible refine below_up ?_ ?_ (by assumption)) | (with_reducible exact Nat.le_refl _) | omega | (simp; done) | (simp; omega)))
  have lb : w1.heap.size < wb.heap.size := by rw [hwb]; simp
  have HB : Hid (∀ W, Below wb.heap.size wb W → W.cell? ⟨w1.heap.size, 0, none⟩ = some (.int .i64 bills[k].stay) ∧ W.cell? ⟨w1.heap.size, 1, none⟩ = some (.int .i64 bills[k].channel) ∧ W.cell? ⟨w1.heap.size, 2, none⟩ = some (.int .i64 bills[k].place) ∧ W.cell? ⟨w1.heap.size, 3, none⟩ = some (.int .i64 bills[k].kind) ∧ W.cell? ⟨w1.heap.size, 4, none⟩ = some (.int .i64 bills[k].frm) ∧ W.cell? ⟨w1.heap.size, 5, none⟩ = some (.int .i64 bills[k].til) ∧ W.cell? ⟨w1.heap.size, 6, none⟩ = some (.int .i64 bills[k].persons) ∧ W.cell? ⟨w1.heap.size, 7, none⟩ = some (.int .i64 bills[k].price) ∧ W.cell? ⟨w1.heap.size, 8, none⟩ = some (.int .i64 bills[k].keep) ∧ w1.heap.size < W.heap.size) := Lib.hid (fun W hb => by
    have e : ∀ o, W.cell? ⟨w1.heap.size, o, none⟩ = wb.cell? ⟨w1.heap.size, o, none⟩ := fun o => hb.cell (p := ⟨w1.heap.size, o, none⟩) lb
    have hz := hb.size
    refine ⟨?_, ?_, ?_, ?_, ?_, ?_, ?_, ?_, ?_, by omega⟩
    all_goals
      rw [e, hwb]
      go_simp)
  clear hwb q0 q1 q2 q3 q4 q5 q6 q7 q8 x0 x1 x2 x3 y0 y1 ly lx
  have Bb := below_up B1 B1.size bb1
  refine (frun_lit (V := V) HR.out _ At Al c ct cl wb (hs.up Bb) (hts.up Bb) (hsl.up Bb) (by omega) (by omega) (by omega) HST.out).mono ?_
  rintro e w2 ⟨⟨A1, c1, A2, c2, rfl, s1, s2⟩, b2⟩
  have B2 := below_up Bb Bb.size b2
  have b12 := below_up bb1 bb1.size b2
  have b02 := below_up b1 b1.size b12
  obtain ⟨j0, j1, j2, j3, j4, j5, j6, j7, j8, lj⟩ := HB.out w2 b2
  go_wp2_with fail
  go_loopw [18, 19] (fun v18 i wr => ∃ (m : Nat) (kv : Value), m ≤ l.length ∧ i = .int .i64 m ∧ kv = v18 ∧ OwnL wr w2.heap.size 37 4 Deed.cs kv (ownD (l.take m) (errs.take m) bills[k].stay) ∧ Below w2.heap.size w2 wr) (fun _ i _ => l.length - (intOf i).toNat)
  case atStart => exact ⟨0, _, by omega, rfl, rfl, OwnL.nil_, Below.refl _ _⟩
  case round =>
    obtain ⟨m, kv, hm, rfl, rfl, hO, hbw⟩ := hrel
    have hbz := hbw.size
    by_cases hlt : m < l.length
    · have hlt2 : m < errs.length := by omega
      have hx1 : (0 : Int) ≤ (m : Int) := by omega
      have hx2 : (m : Int) < (l.length : Int) := by omega
      have hx3 : (m : Int) < (errs.length : Int) := by omega
      have hBw := below_up B2 B2.size hbw
      obtain ⟨b1', o1, rfl, hbl1, hcell1⟩ := (hsl.up hBw).at_ hlt
      obtain ⟨b2', o2, rfl, hbl2, hcell2⟩ := (s2.up hbw).at_ hlt2
      have p0 := hcell1 0 _ rfl
      have p1 := hcell1 1 _ rfl
      have p2 := hcell1 2 _ rfl
      have p3 := hcell1 3 _ rfl
      have q0 := hcell2 0 _ rfl
      rw [Nat.add_zero] at p0
      rw [Nat.add_zero, Nat.mul_one] at q0
      have g0 : wr.cell? ⟨w1.heap.size, 0, none⟩ = some (.int .i64 bills[k].stay) := (hbw.cell (p := ⟨w1.heap.size, 0, none⟩) lj).trans j0
      clear hcell1 hcell2 j0 j1 j2 j3 j4 j5 j6 j7 j8
      have HSTEP := Lib.hid (ownD_step (s := bills[k].stay) hlt hlt2)
      have hkl2 : (ownD (l.take m) (errs.take m) bills[k].stay).length ≤ 40 := Nat.le_trans (ownD_len _ _ _) (by rw [List.length_take]; omega)
      cases e1 : (errs[m] == 0)
      · go_wp2_with fail
        go_quiet (fail)
        go_wp2_with fail
        go_roundw
        case rel =>
          refine ⟨m + 1, _, by omega, by go_num, rfl, ?_, (by repeat' (first | (with_reducible exact Below.refl _ _) | (with_reducible assumption) | (with_reducible refine below_drewN ?_ _) | (with_reducible refine Below.drew ?_) | (with_reducible refine below_regrown_up _ _ ?_ ?_) | (with_reducible refine Below.alloc ?_ ?_ _) | (with_reducible refine Below.setCell ?_ ?_ _) | (with_reducible refine below_up ?_ ?_ (by assumption)) | (with_reducible exact Nat.le_refl _) | omega | (simp; done) | (simp; omega)))⟩
          rw [HSTEP.out, if_neg (by rw [e1]; simp)]
          exact hO.drewN _
        case measure => simp [intOf]; omega
      · cases e2 : (l[m].kind != 9)
        · go_wp2_with fail
          go_quiet (fail)
          go_wp2_with fail
          go_roundw
          case rel =>
            refine ⟨m + 1, _, by omega, by go_num, rfl, ?_, (by repeat' (first | (with_reducible exact Below.refl _ _) | (with_reducible assumption) | (with_reducible refine below_drewN ?_ _) | (with_reducible refine Below.drew ?_) | (with_reducible refine below_regrown_up _ _ ?_ ?_) | (with_reducible refine Below.alloc ?_ ?_ _) | (with_reducible refine Below.setCell ?_ ?_ _) | (with_reducible refine below_up ?_ ?_ (by assumption)) | (with_reducible exact Nat.le_refl _) | omega | (simp; done) | (simp; omega)))⟩
            rw [HSTEP.out, if_neg (by rw [e1, e2]; simp)]
            exact hO.drewN _
          case measure => simp [intOf]; omega
        · cases e3 : (l[m].stay == bills[k].stay)
          · go_wp2_with fail
            go_quiet (fail)
            go_wp2_with fail
            go_roundw
            case rel =>
              refine ⟨m + 1, _, by omega, by go_num, rfl, ?_, (by repeat' (first | (with_reducible exact Below.refl _ _) | (with_reducible assumption) | (with_reducible refine below_drewN ?_ _) | (with_reducible refine Below.drew ?_) | (with_reducible refine below_regrown_up _ _ ?_ ?_) | (with_reducible refine Below.alloc ?_ ?_ _) | (with_reducible refine Below.setCell ?_ ?_ _) | (with_reducible refine below_up ?_ ?_ (by assumption)) | (with_reducible exact Nat.le_refl _) | omega | (simp; done) | (simp; omega)))⟩
              rw [HSTEP.out, if_neg (by rw [e1, e2, e3]; simp)]
              exact hO.drewN _
            case measure => simp [intOf]; omega
          · go_wp2_with fail
            go_quiet (fail)
            go_wp2_with (at_builtin; go_loud (refine wpList_push _ rfl (.tmp 97) (.tmp 102) 28 37 rfl w2.heap.size 4 32 Deed.cs elemDeed deed_len deed_one kv _ rfl ((hO.drewN _).alloc _) _ 1 l[m] rfl (news_at _ _ _ rfl (by simp)) (by omega) (by omega) (by simp; omega) ?_); intro v5 w5 hown5 hgrow5)
            go_roundw
            case rel =>
              refine ⟨m + 1, _, by omega, by go_num, rfl, ?_, below_push (by repeat' (first | (with_reducible exact Below.refl _ _) | (with_reducible assumption) | (with_reducible refine below_drewN ?_ _) | (with_reducible refine Below.drew ?_) | (with_reducible refine below_regrown_up _ _ ?_ ?_) | (with_reducible refine Below.alloc ?_ ?_ _) | (with_reducible refine Below.setCell ?_ ?_ _) | (with_reducible refine below_up ?_ ?_ (by assumption)) | (with_reducible exact Nat.le_refl _) | omega | (simp; done) | (simp; omega))) ((hO.drewN _).alloc _) hgrow5 (by simp; omega)⟩
              rw [HSTEP.out, if_pos (by rw [e1, e2, e3]; rfl)]
              exact hown5
            case measure => simp [intOf]; omega
    · obtain rfl : m = l.length := by omega
      rw [List.take_of_length_le (Nat.le_refl _), List.take_of_length_le hel1] at hO
      have hBw := below_up B2 B2.size hbw
      have b0w := below_up b02 b02.size hbw
      have bbw := below_up b2 b2.size hbw
      obtain ⟨A7, c7, rfl, _, _, hs7⟩ := hO.sl deed_len
      obtain ⟨⟨y0, y1⟩, ⟨x0, x1, x2, x3⟩, ly, lx⟩ := HX.out wr b0w
      clear j0 j1 j2 j3 j4 j5 j6 j7 j8 lj
      obtain ⟨j0, j1, j2, j3, j4, j5, j6, j7, j8, lj⟩ := HB.out wr bbw
      go_wp2_with fail
      refine name_calls (fun w3 hw3 => ?_)
      have b3 : Below wr.heap.size wr w3 := by rw [hw3]; exact (by repeat' (first | (with_reducible exact Below.refl _ _) | (with_reducible assumption) | (with_reducible refine below_drewN ?_ _) | (with_reducible refine Below.drew ?_) | (with_reducible refine below_regrown_up _ _ ?_ ?_) | (with_reducible refine Below.alloc ?_ ?_ _) | (with_reducible refine Below.setCell ?_ ?_ _) | (with_reducible refine below_up ?_ ?_ (by assumption)) | (with_reducible exact Nat.le_refl _) | omega | (simp; done) | (simp; omega)))
      have s9 : SlBill w3 (some ⟨wr.heap.size, 0, none⟩) [bills[k]] := by
        refine sl_of_box (cs := #[.int .i64 bills[k].stay, .int .i64 bills[k].channel, .int .i64 bills[k].place, .int .i64 bills[k].kind, .int .i64 bills[k].frm, .int .i64 bills[k].til, .int .i64 bills[k].persons, .int .i64 bills[k].price, .int .i64 bills[k].keep]) (fun _ => rfl) (fun o => ?_) (by rw [hw3]; simp) rfl
        rw [hw3]
        exact World.cell?_alloc_new _ _ _ _
      clear hw3 x0 x1 x2 x3 y0 y1 ly lx j0 j1 j2 j3 j4 j5 j6 j7 j8
      have B3 := below_up hBw hBw.size b3
      refine (HF.out w3 _ A7 _ c7 s9 (hts.up B3) ((hs7.up b3).more (by omega))).mono ?_
      rintro e w4 ⟨⟨A4, c4, A5, c5, n5, rfl, s4⟩, b4⟩
      have B4 := below_up B3 B3.size b4
      have b24 := below_up (below_up hbw hbz b3) (by have := b3.size; omega) b4
      have b4b := below_up b2 b2.size b24
      obtain ⟨j0, j1, j2, j3, j4, j5, j6, j7, j8, lj⟩ := HB.out w4 b4b
      clear j1 j2 j3 j4 j5 j6 j7 j8
      have s14 := s1.up b24
      go_wp2_with fail
      go_loopw [23, 24] (fun v23 i wr => ∃ (m : Nat) (kv : Value), m ≤ es.length ∧ i = .int .i64 m ∧ kv = v23 ∧ OwnL wr w4.heap.size 46 5 Entry.cs kv (mineE (es.take m) bills[k].stay) ∧ Below w4.heap.size w4 wr) (fun _ i _ => es.length - (intOf i).toNat)
      case atStart => exact ⟨0, _, by omega, rfl, rfl, OwnL.nil_, Below.refl _ _⟩
      case round =>
        obtain ⟨m, kv, hm, rfl, rfl, hO2, hbw2⟩ := hrel
        have hbz2 := hbw2.size
        by_cases hlt : m < es.length
        · have hx1 : (0 : Int) ≤ (m : Int) := by omega
          have hx2 : (m : Int) < (es.length : Int) := by omega
          obtain ⟨b1', o1, rfl, hbl1, hcell1⟩ := (s14.up hbw2).at_ hlt
          have p0 := hcell1 0 _ rfl
          have p1 := hcell1 1 _ rfl
          have p2 := hcell1 2 _ rfl
          have p3 := hcell1 3 _ rfl
          have p4 := hcell1 4 _ rfl
          rw [Nat.add_zero] at p0
          have g0 : wr.cell? ⟨w1.heap.size, 0, none⟩ = some (.int .i64 bills[k].stay) := (hbw2.cell (p := ⟨w1.heap.size, 0, none⟩) lj).trans j0
          clear hcell1 j0
          have HSTEP := Lib.hid (mineE_step (s := bills[k].stay) hlt)
          have hkl2 : (mineE (es.take m) bills[k].stay).length ≤ 100000 := Nat.le_trans (mineE_len _ _) (by rw [List.length_take]; omega)
          cases e1 : (es[m].ref == bills[k].stay)
          · go_wp2_with fail
            go_quiet (fail)
            go_wp2_with fail
            go_roundw
            case rel =>
              refine ⟨m + 1, _, by omega, by go_num, rfl, ?_, (by repeat' (first | (with_reducible exact Below.refl _ _) | (with_reducible assumption) | (with_reducible refine below_drewN ?_ _) | (with_reducible refine Below.drew ?_) | (with_reducible refine below_regrown_up _ _ ?_ ?_) | (with_reducible refine Below.alloc ?_ ?_ _) | (with_reducible refine Below.setCell ?_ ?_ _) | (with_reducible refine below_up ?_ ?_ (by assumption)) | (with_reducible exact Nat.le_refl _) | omega | (simp; done) | (simp; omega)))⟩
              rw [HSTEP.out, if_neg (by rw [e1]; simp)]
              exact hO2.drewN _
            case measure => simp [intOf]; omega
          · go_wp2_with fail
            go_quiet (fail)
            go_wp2_with (at_builtin; go_loud (refine wpList_push _ rfl (.tmp 129) (.tmp 134) 31 46 rfl w4.heap.size 5 40 Entry.cs elemEnt ent_len ent_one kv _ rfl ((hO2.drewN _).alloc _) _ 1 es[m] rfl (news_at _ _ _ rfl (by simp)) (by omega) (by omega) (by simp; omega) ?_); intro v5 w5 hown5 hgrow5)
            go_roundw
            case rel =>
              refine ⟨m + 1, _, by omega, by go_num, rfl, ?_, below_push (by repeat' (first | (with_reducible exact Below.refl _ _) | (with_reducible assumption) | (with_reducible refine below_drewN ?_ _) | (with_reducible refine Below.drew ?_) | (with_reducible refine below_regrown_up _ _ ?_ ?_) | (with_reducible refine Below.alloc ?_ ?_ _) | (with_reducible refine Below.setCell ?_ ?_ _) | (with_reducible refine below_up ?_ ?_ (by assumption)) | (with_reducible exact Nat.le_refl _) | omega | (simp; done) | (simp; omega))) ((hO2.drewN _).alloc _) hgrow5 (by simp; omega)⟩
              rw [HSTEP.out, if_pos e1]
              exact hown5
            case measure => simp [intOf]; omega
        · obtain rfl : m = es.length := by omega
          rw [List.take_of_length_le (Nat.le_refl _)] at hO2
          have B5 := below_up B4 B4.size hbw2
          obtain ⟨A6, c6, rfl, _, _, hs6⟩ := hO2.sl ent_len
          go_wp2_with fail
          refine (rsame_any (mineE es bills[k].stay) (mineE es bills[k].stay) A6 A4 c6 c4 _ (hs6.more (by omega)) (s4.up hbw2) (by omega) (by omega)).mono ?_
          rintro e w6 ⟨rfl, b6⟩
          rw [decide_eq_true rfl]
          go_wp2_with fail
          go_ret
          exact ⟨ret_bool (by simp), below_up B5 B5.size b6⟩
end Go.Proofs.Ytmlhoojcdidgkaa
