/-
  The law 'FolioBroke': the walk.
-/
import Derived.Test.YtmlhoojcdidgkaaFoBrokeP
namespace Go.Proofs.Ytmlhoojcdidgkaa
set_option linter.unusedSimpArgs false
set_option linter.unusedVariables false
open Go.RowKit
open Go.Sort (grow size_grow)


set_option maxHeartbeats 4000000
set_option maxRecDepth 100000
theorem law_broke (V : Env) (bills : List Bill) (l : List Deed) (ch : Int) (A At Al : Option Addr) (c ct cl : Nat) (w : World) (hs : SlBill w A bills) (hts : SlTax w At V.ts) (hsl : SlDeed w Al l) (hst : ∀ x ∈ l, -9223372036854775808 ≤ x.stay ∧ x.stay ≤ 9223372036854775807) (u0 : 0 ≤ ch) (u1 : ch ≤ 255) :
    Calls Try.prog 8 #[.slice A bills.length c, .slice At V.ts.length ct, .agg #[.int .i64 V.p, .int .i64 V.d], V.k.v, .slice Al l.length cl, .int .u8 ch] w fun e w' => e = .returned (.bool true) ∧ Below w.heap.size w w' := by
  have ha1 : 1 ≤ 1 + ch % 29 := by omega
  have ha2 : 1 + ch % 29 ≤ 29 := by omega
  cases hfew : fewB bills.length V.ts.length l.length
  · go_enter Try.func8, Try.ntmps8
    go_wp2_with fail
    refine name_calls (fun w0 hw0 => ?_)
    have b0 : Below w.heap.size w w0 := by rw [hw0]; exact (by repeat' (first | (with_reducible exact Below.refl _ _) | (with_reducible assumption) | (with_reducible refine below_drewN ?_ _) | (with_reducible refine Below.drew ?_) | (with_reducible refine below_regrown_up _ _ ?_ ?_) | (with_reducible refine Below.alloc ?_ ?_ _) | (with_reducible refine Below.setCell ?_ ?_ _) | (with_reducible refine below_up ?_ ?_ (by assumption)) | (with_reducible exact Nat.le_refl _) | omega | (simp; done) | (simp; omega)))
    have l0 : w.heap.size + 1 < w0.heap.size := by rw [hw0]; simp
    have HX : Hid (∀ W, Below w0.heap.size w0 W → ((W.cell? ⟨w.heap.size, 0, none⟩ = some (.int .i64 V.p) ∧ W.cell? ⟨w.heap.size, 1, none⟩ = some (.int .i64 V.d)) ∧ (W.cell? ⟨w.heap.size + 1, 0, none⟩ = some (.int .i64 V.k.fx) ∧ W.cell? ⟨w.heap.size + 1, 1, none⟩ = some (.int .i64 V.k.n) ∧ W.cell? ⟨w.heap.size + 1, 2, none⟩ = some (.int .i64 V.k.d) ∧ W.cell? ⟨w.heap.size + 1, 3, none⟩ = some (.int .i64 V.k.most)) ∧ w.heap.size < W.heap.size ∧ w.heap.size + 1 < W.heap.size)) := Lib.hid (fun W hb => by
      have e : ∀ b o, b < w0.heap.size → W.cell? ⟨b, o, none⟩ = w0.cell? ⟨b, o, none⟩ := fun b o h => hb.cell (p := ⟨b, o, none⟩) h
      have hz := hb.size
      refine ⟨⟨?_, ?_⟩, ⟨?_, ?_, ?_, ?_⟩, by omega, by omega⟩
      all_goals
        rw [e _ _ (by omega), hw0]
        go_simp)
    clear hw0
    refine (head32_any _).mono ?_
    rintro e w1 ⟨rfl, b1⟩
    have B1 : Below w.heap.size w w1 := below_up b0 b0.size b1
    go_wp2_with fail
    refine (few32_any _ _ _ _ _ _ _ _ _ _).mono ?_
    rintro e w1' ⟨rfl, rfl⟩
    rw [hfew]
    go_wp2_with fail
    go_ret
    exact ⟨ret_bool (by simp), B1⟩
  obtain ⟨f1, f2, f3⟩ := fewB_iff.1 hfew
  by_cases h39 : l.length ≤ 39
  rotate_left
  · have h40 : (39 : Int) < (l.length : Int) := by omega
    have HST := Lib.hid hst
    clear hst
    go_enter Try.func8, Try.ntmps8
    go_wp2_with fail
    refine name_calls (fun w0 hw0 => ?_)
    have b0 : Below w.heap.size w w0 := by rw [hw0]; exact (by repeat' (first | (with_reducible exact Below.refl _ _) | (with_reducible assumption) | (with_reducible refine below_drewN ?_ _) | (with_reducible refine Below.drew ?_) | (with_reducible refine below_regrown_up _ _ ?_ ?_) | (with_reducible refine Below.alloc ?_ ?_ _) | (with_reducible refine Below.setCell ?_ ?_ _) | (with_reducible refine below_up ?_ ?_ (by assumption)) | (with_reducible exact Nat.le_refl _) | omega | (simp; done) | (simp; omega)))
    have l0 : w.heap.size + 1 < w0.heap.size := by rw [hw0]; simp
    have HX : Hid (∀ W, Below w0.heap.size w0 W → ((W.cell? ⟨w.heap.size, 0, none⟩ = some (.int .i64 V.p) ∧ W.cell? ⟨w.heap.size, 1, none⟩ = some (.int .i64 V.d)) ∧ (W.cell? ⟨w.heap.size + 1, 0, none⟩ = some (.int .i64 V.k.fx) ∧ W.cell? ⟨w.heap.size + 1, 1, none⟩ = some (.int .i64 V.k.n) ∧ W.cell? ⟨w.heap.size + 1, 2, none⟩ = some (.int .i64 V.k.d) ∧ W.cell? ⟨w.heap.size + 1, 3, none⟩ = some (.int .i64 V.k.most)) ∧ w.heap.size < W.heap.size ∧ w.heap.size + 1 < W.heap.size)) := Lib.hid (fun W hb => by
      have e : ∀ b o, b < w0.heap.size → W.cell? ⟨b, o, none⟩ = w0.cell? ⟨b, o, none⟩ := fun b o h => hb.cell (p := ⟨b, o, none⟩) h
      have hz := hb.size
      refine ⟨⟨?_, ?_⟩, ⟨?_, ?_, ?_, ?_⟩, by omega, by omega⟩
      all_goals
        rw [e _ _ (by omega), hw0]
        go_simp)
    clear hw0
    refine (head32_any _).mono ?_
    rintro e w1 ⟨rfl, b1⟩
    have B1 : Below w.heap.size w w1 := below_up b0 b0.size b1
    go_wp2_with fail
    refine (few32_any _ _ _ _ _ _ _ _ _ _).mono ?_
    rintro e w1' ⟨rfl, rfl⟩
    rw [hfew]
    go_wp2_with fail
    go_ret
    exact ⟨ret_bool (by simp), B1⟩
  have h40 : (l.length : Int) ≤ 39 := by omega
  have HST := Lib.hid hst
  clear hst
  obtain ⟨L9, hL9⟩ : ∃ L9, L9 = l ++ [(⟨9, 366, 1 + ch % 29, 0⟩ : Deed)] := ⟨_, rfl⟩
  have hl9 : L9.length = l.length + 1 := by rw [hL9]; simp
  have HM2 := Lib.hid (show ∀ x ∈ L9, -9223372036854775808 ≤ x.stay ∧ x.stay ≤ 9223372036854775807 from fun x hx => by
    rw [hL9] at hx
    rcases List.mem_append.1 hx with hx | hx
    · exact HST.out x hx
    · obtain rfl : x = ⟨9, 366, 1 + ch % 29, 0⟩ := by simpa using hx
      simp only
      omega)
  obtain ⟨es, errs, es2, errs2, er, hr, hr2, hcase⟩ : ∃ es errs es2 errs2 er, runR V bills l = (es, errs, er) ∧ runR V bills L9 = (es2, errs2, er) ∧ ((er = 1) ∨ (er = 0 ∧ ledOk es = true ∧ ledOk es2 = true ∧ errs2.length = l.length + 1 ∧ ∃ x, (∀ h : l.length < errs2.length, errs2[l.length] = x) ∧ BrokeS es es2 x (1 + ch % 29))) := by
    cases hok : runOk V bills
    · exact ⟨[], [], [], [], 1, by unfold runR; rw [if_neg (by omega), hok]; rfl, by unfold runR; rw [if_neg (by omega), hok]; rfl, .inl rfl⟩
    · have hrl := run_len (V := V) (bills := bills) l
      have hled := run_led hok (l := l) (by omega)
      have hled2 := run_led hok (l := L9) (by omega)
      obtain ⟨hV, hbo, _, _⟩ := runOk_iff.1 hok
      obtain ⟨er, her, hbr⟩ := broke_run (V := V) (bills := bills) l hV hbo ha1 ha2
      rw [← hL9] at her hbr
      refine ⟨_, _, _, _, 0, by unfold runR; rw [if_neg (by omega), hok]; rfl, by unfold runR; rw [if_neg (by omega), hok]; rfl, .inr ⟨rfl, hled, hled2, by rw [her]; simp [hrl], er, fun h => ?_, hbr⟩⟩
      revert h
      rw [her]
      intro h
      simp [← hrl]
  have HR := Lib.hid hr
  have HR2 := Lib.hid hr2
  have HL9 := Lib.hid hL9
  have HC := Lib.hid hcase
  clear hr hr2 hL9 hcase
  have HF : Hid (∀ (W : World) (A9 : Option Addr) (c9 : Nat), SlBill W A bills → SlTax W At V.ts → SlDeed W A9 L9 → Calls Try.prog 12 #[.slice A bills.length c, .slice At V.ts.length ct, .agg #[.int .i64 V.p, .int .i64 V.d], V.k.v, .slice A9 (l.length + 1) c9] W fun e w' => (∃ A1 c1 A2 c2, e = .returned (.tuple #[.slice A1 es2.length c1, .slice A2 errs2.length c2, .int .i64 er]) ∧ SlEnt w' A1 es2 ∧ SlInt w' A2 errs2) ∧ Below W.heap.size W w') := Lib.hid (fun W A9 c9 h1 h2 h3 => by
    have := frun_lit (V := V) HR2.out A At A9 c ct c9 W h1 h2 h3 (by omega) (by omega) (by omega) HM2.out
    rw [hl9] at this
    exact this)
  go_enter Try.func8, Try.ntmps8
  go_wp2_with fail
  refine name_calls (fun w0 hw0 => ?_)
  have b0 : Below w.heap.size w w0 := by rw [hw0]; exact (by repeat' (first | (with_reducible exact Below.refl _ _) | (with_reducible assumption) | (with_reducible refine below_drewN ?_ _) | (with_reducible refine Below.drew ?_) | (with_reducible refine below_regrown_up _ _ ?_ ?_) | (with_reducible refine Below.alloc ?_ ?_ _) | (with_reducible refine Below.setCell ?_ ?_ _) | (with_reducible refine below_up ?_ ?_ (by assumption)) | (with_reducible exact Nat.le_refl _) | omega | (simp; done) | (simp; omega)))
  have l0 : w.heap.size + 1 < w0.heap.size := by rw [hw0]; simp
  have HX : Hid (∀ W, Below w0.heap.size w0 W → ((W.cell? ⟨w.heap.size, 0, none⟩ = some (.int .i64 V.p) ∧ W.cell? ⟨w.heap.size, 1, none⟩ = some (.int .i64 V.d)) ∧ (W.cell? ⟨w.heap.size + 1, 0, none⟩ = some (.int .i64 V.k.fx) ∧ W.cell? ⟨w.heap.size + 1, 1, none⟩ = some (.int .i64 V.k.n) ∧ W.cell? ⟨w.heap.size + 1, 2, none⟩ = some (.int .i64 V.k.d) ∧ W.cell? ⟨w.heap.size + 1, 3, none⟩ = some (.int .i64 V.k.most)) ∧ w.heap.size < W.heap.size ∧ w.heap.size + 1 < W.heap.size)) := Lib.hid (fun W hb => by
    have e : ∀ b o, b < w0.heap.size → W.cell? ⟨b, o, none⟩ = w0.cell? ⟨b, o, none⟩ := fun b o h => hb.cell (p := ⟨b, o, none⟩) h
    have hz := hb.size
    refine ⟨⟨?_, ?_⟩, ⟨?_, ?_, ?_, ?_⟩, by omega, by omega⟩
    all_goals
      rw [e _ _ (by omega), hw0]
      go_simp)
  clear hw0
  refine (head32_any _).mono ?_
  rintro e w1 ⟨rfl, b1⟩
  have B1 : Below w.heap.size w w1 := below_up b0 b0.size b1
  go_wp2_with fail
  refine (few32_any _ _ _ _ _ _ _ _ _ _).mono ?_
  rintro e w1' ⟨rfl, rfl⟩
  rw [hfew]
  generalize 1 + ch % 29 = cc at *
  obtain ⟨⟨y0, y1⟩, ⟨x0, x1, x2, x3⟩, ly, lx⟩ := HX.out w1 b1
  go_wp2_with fail
  refine (frun_lit (V := V) HR.out A At Al c ct cl w1 (hs.up B1) (hts.up B1) (hsl.up B1) (by omega) (by omega) (by omega) HST.out).mono ?_
  rintro e w2 ⟨⟨A1, c1, A2, c2, rfl, s1, s2⟩, b2⟩
  have B2 := below_up B1 B1.size b2
  have b02 := below_up b1 b1.size b2
  clear x0 x1 x2 x3 y0 y1 ly lx
  go_wp2_with fail
  go_cut [18, 19, 20] (fun x y z W => ∃ A3 c3 A4 c4, x = .slice A3 es2.length c3 ∧ y = .slice A4 errs2.length c4 ∧ z = .int .i64 er ∧ SlEnt W A3 es2 ∧ SlInt W A4 errs2 ∧ Below w2.heap.size w2 W)
  case first =>
    obtain ⟨⟨y0, y1⟩, ⟨x0, x1, x2, x3⟩, ly, lx⟩ := HX.out w2 b02
    have hnil : OwnL (w2.alloc (.cells #[] 37)).drew w2.heap.size 37 4 Deed.cs (.slice (some ⟨w2.heap.size, 0, none⟩) 0 0) [] := OwnL.of_block (cs := #[]) (g := w2.heap.size) (cap := 0) (heap_alloc_new w2 _) (Nat.le_refl _) rfl (by decide) rfl deed_len
    have hnilC : OwnL ((w2.alloc (.cells #[] 37)).alloc (.cells #[.int .i64 9, .int .i64 366, .int .i64 cc, .int .i64 0] 37)).drew w2.heap.size 37 4 Deed.cs (.slice (some ⟨w2.heap.size, 0, none⟩) 0 0) [] := ((show OwnL (w2.alloc (.cells #[] 37)) w2.heap.size 37 4 Deed.cs (.slice (some ⟨w2.heap.size, 0, none⟩) 0 0) [] from hnil).alloc _).drew
    have hnilB : OwnL ((w2.alloc (.cells #[.int .i64 9, .int .i64 366, .int .i64 cc, .int .i64 0] 37)).alloc (.cells #[] 37)).drew w2.heap.size 37 4 Deed.cs (.slice (some ⟨w2.heap.size + 1, 0, none⟩) 0 0) [] := OwnL.of_block (cs := #[]) (g := w2.heap.size + 1) (cap := 0) (by have h := heap_alloc_new (w2.alloc (.cells #[.int .i64 9, .int .i64 366, .int .i64 cc, .int .i64 0] 37)) (.cells #[] 37); rw [World.size_alloc] at h; exact h) (Nat.le_succ _) rfl (by decide) rfl deed_len
    have SL2 := hsl.up B2
    have KS : Hid (∀ W, Below w2.heap.size w2 W → W.cell? ⟨w.heap.size, 0, none⟩ = some (.int .i64 V.p) ∧ W.cell? ⟨w.heap.size, 1, none⟩ = some (.int .i64 V.d) ∧ W.cell? ⟨w.heap.size + 1, 0, none⟩ = some (.int .i64 V.k.fx) ∧ W.cell? ⟨w.heap.size + 1, 1, none⟩ = some (.int .i64 V.k.n) ∧ W.cell? ⟨w.heap.size + 1, 2, none⟩ = some (.int .i64 V.k.d) ∧ W.cell? ⟨w.heap.size + 1, 3, none⟩ = some (.int .i64 V.k.most) ∧ Below w2.heap.size w2 W) := Lib.hid (fun W h => by
      obtain ⟨⟨y0, y1⟩, ⟨x0, x1, x2, x3⟩, _, _⟩ := HX.out W (below_up b02 b02.size h)
      exact ⟨y0, y1, x0, x1, x2, x3, h⟩)
    clear y0 y1 x0 x1 x2 x3
    go_region_held3 (fun W => W.cell? ⟨w.heap.size, 0, none⟩ = some (.int .i64 V.p) ∧ W.cell? ⟨w.heap.size, 1, none⟩ = some (.int .i64 V.d) ∧ W.cell? ⟨w.heap.size + 1, 0, none⟩ = some (.int .i64 V.k.fx) ∧ W.cell? ⟨w.heap.size + 1, 1, none⟩ = some (.int .i64 V.k.n) ∧ W.cell? ⟨w.heap.size + 1, 2, none⟩ = some (.int .i64 V.k.d) ∧ W.cell? ⟨w.heap.size + 1, 3, none⟩ = some (.int .i64 V.k.most) ∧ Below w2.heap.size w2 W)
      ((go_split_ands; refine KS.out _ ?_; repeat' (first
            | (with_reducible exact Below.refl _ _)
            | (with_reducible assumption)
            | (with_reducible refine Below.drew ?_)
            | (with_reducible refine Below.alloc ?_ ?_ _)
            | (with_reducible refine below_up ?_ ?_ (by assumption))
            | omega
            | (simp; done)
            | (simp; omega))))
      (first
      | (go_loud (refine step_append_all _ (by rfl) (.tmp 66) (.tmp 67) 28 37 (by rfl) w2.heap.size 4 32 Deed.cs elemDeed deed_len deed_one _ [] (by rfl) hnil Al cl _ l (by rfl) (SL2.below (by repeat' (first | (with_reducible exact Below.refl _ _) | (with_reducible assumption) | (with_reducible refine below_drewN ?_ _) | (with_reducible refine Below.drew ?_) | (with_reducible refine below_regrown_up _ _ ?_ ?_) | (with_reducible refine Below.alloc ?_ ?_ _) | (with_reducible refine Below.setCell ?_ ?_ _) | (with_reducible refine below_up ?_ ?_ (by assumption)) | (with_reducible exact Nat.le_refl _) | omega | (simp; done) | (simp; omega)))) (by simp; omega) (by omega) (by first | omega | (simp; done) | (simp; omega)) ?_); intro v8 w8 hown8 hgrow8 hat8; rw [List.nil_append] at hown8; have hb8 : Below w2.heap.size w2 w8 := below_push (by repeat' (first | (with_reducible exact Below.refl _ _) | (with_reducible assumption) | (with_reducible refine below_drewN ?_ _) | (with_reducible refine Below.drew ?_) | (with_reducible refine below_regrown_up _ _ ?_ ?_) | (with_reducible refine Below.alloc ?_ ?_ _) | (with_reducible refine Below.setCell ?_ ?_ _) | (with_reducible refine below_up ?_ ?_ (by assumption)) | (with_reducible exact Nat.le_refl _) | omega | (simp; done) | (simp; omega))) hnil hgrow8 (by first | omega | (simp; done) | (simp; omega)); have hz8 := hb8.size)
      | (go_loud (refine step_append_all _ (by rfl) (.tmp 66) (.tmp 67) 28 37 (by rfl) w2.heap.size 4 32 Deed.cs elemDeed deed_len deed_one _ [] (by rfl) hnilC Al cl _ l (by rfl) (SL2.below (by repeat' (first | (with_reducible exact Below.refl _ _) | (with_reducible assumption) | (with_reducible refine below_drewN ?_ _) | (with_reducible refine Below.drew ?_) | (with_reducible refine below_regrown_up _ _ ?_ ?_) | (with_reducible refine Below.alloc ?_ ?_ _) | (with_reducible refine Below.setCell ?_ ?_ _) | (with_reducible refine below_up ?_ ?_ (by assumption)) | (with_reducible exact Nat.le_refl _) | omega | (simp; done) | (simp; omega)))) (by simp; omega) (by omega) (by first | omega | (simp; done) | (simp; omega)) ?_); intro v8 w8 hown8 hgrow8 hat8; rw [List.nil_append] at hown8; have hb8 : Below w2.heap.size w2 w8 := below_push (by repeat' (first | (with_reducible exact Below.refl _ _) | (with_reducible assumption) | (with_reducible refine below_drewN ?_ _) | (with_reducible refine Below.drew ?_) | (with_reducible refine below_regrown_up _ _ ?_ ?_) | (with_reducible refine Below.alloc ?_ ?_ _) | (with_reducible refine Below.setCell ?_ ?_ _) | (with_reducible refine below_up ?_ ?_ (by assumption)) | (with_reducible exact Nat.le_refl _) | omega | (simp; done) | (simp; omega))) hnilC hgrow8 (by first | omega | (simp; done) | (simp; omega)); have hz8 := hb8.size; have z8 := hgrow8.size; have HD8 : Sl w8 w8.heap.size 4 Deed.cs (some ⟨w2.heap.size + 1, 0, none⟩) [(⟨9, 366, cc, 0⟩ : Deed)] := sl_of_box (cs := #[.int .i64 9, .int .i64 366, .int .i64 cc, .int .i64 0]) (fun _ => rfl) (fun o => (hgrow8.cell_far ⟨w2.heap.size + 1, o, none⟩ (by simp) (by simp [Act.eval, Act.put, Value.ownBlock])).trans (cell_alloc_at (by simp) _ _ o)) (by simp at z8; omega) rfl)
      | (go_loud (refine step_append_all _ (by rfl) (.tmp 66) (.tmp 67) 28 37 (by rfl) w2.heap.size 4 32 Deed.cs elemDeed deed_len deed_one _ [] (by rfl) hnilB Al cl _ l (by rfl) (SL2.below (by repeat' (first | (with_reducible exact Below.refl _ _) | (with_reducible assumption) | (with_reducible refine below_drewN ?_ _) | (with_reducible refine Below.drew ?_) | (with_reducible refine below_regrown_up _ _ ?_ ?_) | (with_reducible refine Below.alloc ?_ ?_ _) | (with_reducible refine Below.setCell ?_ ?_ _) | (with_reducible refine below_up ?_ ?_ (by assumption)) | (with_reducible exact Nat.le_refl _) | omega | (simp; done) | (simp; omega)))) (by simp; omega) (by omega) (by first | omega | (simp; done) | (simp; omega)) ?_); intro v8 w8 hown8 hgrow8 hat8; rw [List.nil_append] at hown8; have hb8 : Below w2.heap.size w2 w8 := below_push (by repeat' (first | (with_reducible exact Below.refl _ _) | (with_reducible assumption) | (with_reducible refine below_drewN ?_ _) | (with_reducible refine Below.drew ?_) | (with_reducible refine below_regrown_up _ _ ?_ ?_) | (with_reducible refine Below.alloc ?_ ?_ _) | (with_reducible refine Below.setCell ?_ ?_ _) | (with_reducible refine below_up ?_ ?_ (by assumption)) | (with_reducible exact Nat.le_refl _) | omega | (simp; done) | (simp; omega))) hnilB hgrow8 (by first | omega | (simp; done) | (simp; omega)); have hz8 := hb8.size; have z8 := hgrow8.size; have HD8 : Sl w8 w8.heap.size 4 Deed.cs (some ⟨w2.heap.size, 0, none⟩) [(⟨9, 366, cc, 0⟩ : Deed)] := sl_of_box (cs := #[.int .i64 9, .int .i64 366, .int .i64 cc, .int .i64 0]) (fun _ => rfl) (fun o => (hgrow8.cell_far ⟨w2.heap.size, o, none⟩ (by simp; omega) (by simp [Act.eval, Act.put, Value.ownBlock])).trans ((World.cell?_alloc_lt _ _ _ (by simp)).trans (cell_alloc_at rfl _ _ o))) (by simp at z8; omega) rfl)
      | (go_loud (refine step_append_all _ (by rfl) (.tmp 68) (.tmp 71) 28 37 (by rfl) w2.heap.size 4 32 Deed.cs elemDeed deed_len deed_one v8 l (by rfl) (hown8.alloc _) (some ⟨w8.heap.size, 0, none⟩) 1 (w8.heap.size + 1) [⟨9, 366, cc, 0⟩] (by rfl) (sl_of_box (cs := #[.int .i64 9, .int .i64 366, .int .i64 cc, .int .i64 0]) (fun _ => rfl) (fun o => cell_alloc_at (by simp) _ _ o) (by first | omega | (simp; done) | (simp; omega)) rfl) (by simp; omega) (by omega) (by first | omega | (simp; done) | (simp; omega)) ?_); intro v9 w9 hown9 hgrow9 hat9; rw [← HL9.out] at hown9; have hb9 : Below w2.heap.size w2 w9 := below_push (by repeat' (first | (with_reducible exact Below.refl _ _) | (with_reducible assumption) | (with_reducible refine below_drewN ?_ _) | (with_reducible refine Below.drew ?_) | (with_reducible refine below_regrown_up _ _ ?_ ?_) | (with_reducible refine Below.alloc ?_ ?_ _) | (with_reducible refine Below.setCell ?_ ?_ _) | (with_reducible refine below_up ?_ ?_ (by assumption)) | (with_reducible exact Nat.le_refl _) | omega | (simp; done) | (simp; omega))) (hown8.alloc _) hgrow9 (by first | omega | (simp; done) | (simp; omega)); have BW9 := below_up B2 B2.size hb9; obtain ⟨A9, c9, rfl, _, _, hs9⟩ := hown9.sl deed_len)
      | (go_loud (refine step_append_all _ (by rfl) (.tmp 68) (.tmp 71) 28 37 (by rfl) w2.heap.size 4 32 Deed.cs elemDeed deed_len deed_one v8 l (by rfl) hown8 _ 1 w8.heap.size [⟨9, 366, cc, 0⟩] (by rfl) HD8 (by simp; omega) (by omega) (by first | omega | (simp; done) | (simp; omega)) ?_); intro v9 w9 hown9 hgrow9 hat9; rw [← HL9.out] at hown9; have hb9 : Below w2.heap.size w2 w9 := below_push (by repeat' (first | (with_reducible exact Below.refl _ _) | (with_reducible assumption) | (with_reducible refine below_drewN ?_ _) | (with_reducible refine Below.drew ?_) | (with_reducible refine below_regrown_up _ _ ?_ ?_) | (with_reducible refine Below.alloc ?_ ?_ _) | (with_reducible refine Below.setCell ?_ ?_ _) | (with_reducible refine below_up ?_ ?_ (by assumption)) | (with_reducible exact Nat.le_refl _) | omega | (simp; done) | (simp; omega))) hown8 hgrow9 (by first | omega | (simp; done) | (simp; omega)); have BW9 := below_up B2 B2.size hb9; obtain ⟨A9, c9, rfl, _, _, hs9⟩ := hown9.sl deed_len)
      | (go_simp; go_at_call 12; go_loud (refine (HF.out w9 A9 c9 (hs.up BW9) (hts.up BW9) (hs9.more (by omega))).mono ?_); rintro e w3 ⟨⟨A3, c3, A4, c4, rfl, s3, s4⟩, b3⟩; have B3 := below_up BW9 BW9.size b3; have b23 := below_up hb9 hb9.size b3))
    all_goals
      go_wp2_with fail
      go_meet
      exact ⟨_, _, _, _, rfl, rfl, rfl, s3, s4, b23⟩
  case rest =>
    obtain ⟨A3, c3, A4, c4, rfl, rfl, rfl, s3, s4, b23⟩ := hcut
    have BC := below_up B2 B2.size b23
    have s13 := s1.up b23
    have hcz := BC.size
    rcases HC.out with h1 | ⟨h1, led, led2, hrl2, x, hx, hbs⟩
    · subst h1
      clear HF HR HR2
      go_wp2_with fail
      go_ret
      exact ⟨ret_bool (by simp), BC⟩
    · subst h1
      clear HF HR HR2 HC
      have hlt9 : l.length < errs2.length := by omega
      have hx1 : (0 : Int) ≤ (l.length : Int) := by omega
      have hx2 : (l.length : Int) < (errs2.length : Int) := by omega
      have hx3 : (l.length : Int) < (l.length : Int) + 1 := by omega
      have hneq : ((errs2.length : Int) != (l.length : Int) + 1) = false := by rw [bne_eq_false_iff_eq]; omega
      have hel := (ledOk_iff.1 led).1
      have hel2 := (ledOk_iff.1 led2).1
      have hxx := hx hlt9
      have HAT := Lib.hid hxx
      have bp := bal_bd (fun z => z == 800 + cc) (day := 366) led
      have bq := bal_bd (fun z => z == 800 + cc) (day := 366) led2
      have HB : Hid (∀ (l : List Entry) (A : Option Addr) (c : Nat) (a : Int) (W : World), SlEnt W A l → ledOk l = true → l.length ≤ 5000 → 100 ≤ a ∧ a ≤ 999 → Calls Try.prog 24 #[.slice A l.length c, .int .i64 a, .int .i64 366] W fun e w' => e = .returned (.tuple #[.int .i64 (balA a l), .int .i64 0]) ∧ Below W.heap.size W w') := Lib.hid (fun l A c a W h1 h2 h3 h4 => by
        have := lbalance_any l A c a 366 W h1 (by omega)
        rw [balR_ok h2 h4 (by omega)] at this
        exact this)
      have HK : Hid (∀ (l : List Entry) (A : Option Addr) (c : Nat) (k : Int) (W : World), SlEnt W A l → ledOk l = true → l.length ≤ 5000 → 1 ≤ k ∧ k ≤ 9 → Calls Try.prog 23 #[.slice A l.length c, .int .i64 k, .int .i64 366] W fun e w' => e = .returned (.tuple #[.int .i64 (bal (ofKind k) l 366), .int .i64 0]) ∧ Below W.heap.size W w') := Lib.hid (fun l A c k W h1 h2 h3 h4 => by
        have := lkind_any l A c k 366 W h1 (by omega)
        rw [kindR_ok h2 h4 (by omega)] at this
        exact this)
      have LD := Lib.hid (And.intro led led2)
      have HBS := Lib.hid hbs
      clear hbs hx hxx led led2
      go_wp2_with fail
      refine (HB.out es A1 c1 (200 + cc) _ s13 LD.out.1 hel (by omega)).mono ?_
      rintro e w4 ⟨rfl, b4⟩
      go_wp2_with fail
      refine (HB.out es2 A3 c3 (200 + cc) _ (s3.up b4) LD.out.2 hel2 (by omega)).mono ?_
      rintro e w5 ⟨rfl, b5⟩
      have b35 := below_up b4 b4.size b5
      go_wp2_with fail
      refine (HB.out es A1 c1 (800 + cc) _ (s13.up b35) LD.out.1 hel (by omega)).mono ?_
      rintro e w6 ⟨rfl, b6⟩
      have b36 := below_up b35 b35.size b6
      go_wp2_with fail
      refine (HB.out es2 A3 c3 (800 + cc) _ (s3.up b36) LD.out.2 hel2 (by omega)).mono ?_
      rintro e w7 ⟨rfl, b7⟩
      have b37 := below_up b36 b36.size b7
      have B7 := below_up BC BC.size b37
      have S1 := s13.up b37
      have S3 := s3.up b37
      have S4 := s4.up b37
      obtain ⟨ba, oa, rfl, hbl, hcell⟩ := S4.at_ hlt9
      have q0 := hcell 0 _ rfl
      rw [Nat.add_zero, Nat.mul_one, HAT.out] at q0
      clear hcell
      rcases HBS.out with ⟨hh, rfl, rfl⟩ | ⟨hh, rfl, hsx, hax, hkx⟩
      · go_wp2_with fail
        refine (rsame_any es2 es2 A1 A3 c1 c3 _ S1 S3 (by omega) (by omega)).mono ?_
        rintro e w8 ⟨rfl, b8⟩
        rw [decide_eq_true rfl]
        go_wp2_with fail
        go_ret
        exact ⟨ret_bool (by simp), below_up B7 B7.size b8⟩
      · have HKX := Lib.hid hkx
        clear hkx
        go_wp2_with fail
        go_loopw [13, 155] (fun up i wr => ∃ m : Nat, m ≤ 6 ∧ i = .int .i64 m ∧ up = .bool true ∧ Below w7.heap.size w7 wr ∧ w7.heap.size < wr.heap.size ∧ ∀ o, wr.cell? ⟨w7.heap.size, o, none⟩ = (#[Value.int .i64 3, .int .i64 4, .int .i64 5, .int .i64 6, .int .i64 7, .int .i64 9] : Array Value)[o]?) (fun _ i _ => 6 - (intOf i).toNat)
        case atStart => exact ⟨0, by omega, rfl, rfl, (by repeat' (first | (with_reducible exact Below.refl _ _) | (with_reducible assumption) | (with_reducible refine below_drewN ?_ _) | (with_reducible refine Below.drew ?_) | (with_reducible refine below_regrown_up _ _ ?_ ?_) | (with_reducible refine Below.alloc ?_ ?_ _) | (with_reducible refine Below.setCell ?_ ?_ _) | (with_reducible refine below_up ?_ ?_ (by assumption)) | (with_reducible exact Nat.le_refl _) | omega | (simp; done) | (simp; omega))), by simp, fun o => cell_alloc_at (by simp) _ _ o⟩
        case round =>
          obtain ⟨m, hm, rfl, rfl, hbw, hlw, hce⟩ := hrel
          have hbz := hbw.size
          by_cases hlt : m < 6
          · have hm0 : (0 : Int) ≤ (m : Int) := by omega
            have hm6 : (m : Int) < 6 := by omega
            obtain ⟨k, hk, hkc⟩ : ∃ k : Int, (k = 3 ∨ k = 4 ∨ k = 5 ∨ k = 6 ∨ k = 7 ∨ k = 9) ∧ wr.cell? ⟨w7.heap.size, m, none⟩ = some (.int .i64 k) := by
              rw [hce]
              have : m = 0 ∨ m = 1 ∨ m = 2 ∨ m = 3 ∨ m = 4 ∨ m = 5 := by omega
              rcases this with rfl | rfl | rfl | rfl | rfl | rfl
              · exact ⟨3, by omega, rfl⟩
              · exact ⟨4, by omega, rfl⟩
              · exact ⟨5, by omega, rfl⟩
              · exact ⟨6, by omega, rfl⟩
              · exact ⟨7, by omega, rfl⟩
              · exact ⟨9, by omega, rfl⟩
            have HCE := Lib.hid hce
            have HKE := Lib.hid (HKX.out k hk)
            clear hce q0
            go_wp2_with fail
            refine (HK.out es A1 c1 k _ (S1.up hbw) LD.out.1 hel (by omega)).mono ?_
            rintro e w8 ⟨rfl, b8⟩
            go_wp2_with fail
            refine (HK.out es2 A3 c3 k _ (S3.up (below_up hbw hbz b8)) LD.out.2 hel2 (by omega)).mono ?_
            rintro e w9 ⟨rfl, b9⟩
            rw [HKE.out]
            have b89 := below_up b8 b8.size b9
            go_wp2_with fail
            go_roundw
            case rel => exact ⟨m + 1, by omega, by go_num, by simp, below_up hbw hbz b89, by have := b89.size; omega, fun o => (b89.cell (p := ⟨w7.heap.size, o, none⟩) hlw).trans (HCE.out o)⟩
            case measure => simp [intOf]; omega
          · obtain rfl : m = 6 := by omega
            have hbal : w7.heap.size ≤ wr.heap.size := hbz
            have q1 := (hbw.cell (p := ⟨ba, oa + l.length, none⟩) hbl).trans q0
            clear hce q0
            unfold balA at *
            have p1 : IntKind.i64.wrap (bal (fun z => z == 800 + cc) es2 366 - bal (fun z => z == 800 + cc) es 366) = bal (fun z => z == 800 + cc) es2 366 - bal (fun z => z == 800 + cc) es 366 := IntWalk.i64_in _ (by omega)
            have HW := Lib.hid p1
            generalize bal (fun z => z == 200 + cc) es2 366 = S at *
            generalize bal (fun z => z == 200 + cc) es 366 = H at *
            generalize bal (fun z => z == 800 + cc) es2 366 = Q at *
            generalize bal (fun z => z == 800 + cc) es 366 = P at *
            rcases Int.lt_trichotomy H 0 with h0 | h0 | h0
            · have e1 : min H 0 = H := by omega
              have e2 : max H 0 = 0 := by omega
              rw [e1] at hsx
              rw [e2] at hax
              have e3 : (S == H) = true := by rw [beq_iff_eq]; exact hsx
              have e4 : (Q - P == 0) = true := by rw [beq_iff_eq]; exact hax
              go_wp2_with fail
              go_ret
              exact ⟨ret_bool (by simp [e1, e2, hsx, hax]), below_up B7 B7.size hbw⟩
            · subst h0
              have hs0 : S = 0 := by omega
              have hq0 : Q - P = 0 := by omega
              have e3 : (S == 0) = true := by rw [beq_iff_eq]; exact hs0
              have e4 : (Q - P == 0) = true := by rw [beq_iff_eq]; exact hq0
              go_wp2_with fail
              all_goals
                go_ret
                exact ⟨ret_bool (by simp [hs0, hq0]), below_up B7 B7.size hbw⟩
            · have e1 : min H 0 = 0 := by omega
              have e2 : max H 0 = H := by omega
              rw [e1] at hsx
              rw [e2] at hax
              have e3 : (S == 0) = true := by rw [beq_iff_eq]; exact hsx
              have e4 : (Q - P == H) = true := by rw [beq_iff_eq]; exact hax
              go_wp2_with fail
              go_ret
              exact ⟨ret_bool (by simp [e1, e2, hsx, hax]), below_up B7 B7.size hbw⟩
end Go.Proofs.Ytmlhoojcdidgkaa
