/-
  The laws of package returns: what is usable; the entries of deeds, and the bills that are left.
-/
import Derived.Test.YtmlhoojcdidgkaaGreatRet10
import Derived.Test.YtmlhoojcdidgkaaGreatRetP
namespace Go.Proofs.YtmlhoojcdidgkaaGreat
set_option linter.unusedSimpArgs false
set_option linter.unusedVariables false
open Go.RowKit Go.Maps
open Go.Sort (grow size_grow)


set_option maxHeartbeats 4000000
set_option maxRecDepth 100000
def usableB (V : Env) (bills : List Bill) (n : Nat) : Bool := few33 bills.length V.ts.length 0 && decide (n ≤ 60) && billsOk bills && taxesOk V.ts && partOk V.p V.d && conOk V.k
theorem usableB_iff {V : Env} {bills : List Bill} {n : Nat} : usableB V bills n = true ↔ bills.length ≤ 30 ∧ V.ts.length ≤ 60 ∧ n ≤ 60 ∧ billsOk bills = true ∧ taxesOk V.ts = true ∧ partOk V.p V.d = true ∧ conOk V.k = true := by
  unfold usableB few33
  simp only [Bool.and_eq_true, decide_eq_true_eq]
  exact ⟨fun ⟨⟨⟨⟨⟨⟨⟨a, b⟩, _⟩, c⟩, d⟩, e⟩, f⟩, g⟩ => ⟨a, b, c, d, e, f, g⟩, fun ⟨a, b, c, d, e, f, g⟩ => ⟨⟨⟨⟨⟨⟨⟨a, b⟩, by omega⟩, c⟩, d⟩, e⟩, f⟩, g⟩⟩
theorem usableB_run {V : Env} {bills : List Bill} {n : Nat} (h : usableB V bills n = true) : runOk V bills = true := by
  obtain ⟨h1, h2, h3, h4, h5, h6, h7⟩ := usableB_iff.1 h
  exact runOk_iff.2 ⟨⟨h7, h6⟩, h4, by omega, h5⟩
theorem usable33_any (V : Env) (bills : List Bill) (n : Nat) (A At Al : Option Addr) (c ct cl : Nat) (w : World) (hs : SlBill w A bills) (hts : SlTax w At V.ts) :
    Calls Tryz.prog 14 #[.slice A bills.length c, .slice At V.ts.length ct, .agg #[.int .i64 V.p, .int .i64 V.d], V.k.v, .slice Al n cl] w fun e w' => e = .returned (.bool (usableB V bills n)) ∧ Below w.heap.size w w' := by
  cases hf : few33 bills.length V.ts.length 0
  · have hr : usableB V bills n = false := by unfold usableB; rw [hf]; rfl
    rw [hr]
    go_enter Tryz.func14, Tryz.ntmps14
    go_wp2_with fail
    refine name_calls (fun w0 hw0 => ?_)
    have b0 : Below w.heap.size w w0 := by rw [hw0]; exact (by repeat' (first | (with_reducible exact Below.refl _ _) | (with_reducible assumption) | (with_reducible refine below_drewN ?_ _) | (with_reducible refine Below.drew ?_) | (with_reducible refine below_regrown_up _ _ ?_ ?_) | (with_reducible refine Below.alloc ?_ ?_ _) | (with_reducible refine Below.setCell ?_ ?_ _) | (with_reducible refine below_up ?_ ?_ (by assumption)) | (with_reducible exact Nat.le_refl _) | omega | (simp; done) | (simp; omega)))
    have l0 : w.heap.size + 1 < w0.heap.size := by rw [hw0]; simp
    have HX : Hid (∀ W, Below w0.heap.size w0 W → ((W.cell? ⟨w.heap.size, 0, none⟩ = some (.int .i64 V.p) ∧ W.cell? ⟨w.heap.size, 1, none⟩ = some (.int .i64 V.d)) ∧ (W.cell? ⟨w.heap.size + 1, 0, none⟩ = some (.int .i64 V.k.fx) ∧ W.cell? ⟨w.heap.size + 1, 1, none⟩ = some (.int .i64 V.k.n) ∧ W.cell? ⟨w.heap.size + 1, 2, none⟩ = some (.int .i64 V.k.d) ∧ W.cell? ⟨w.heap.size + 1, 3, none⟩ = some (.int .i64 V.k.most)) ∧ w.heap.size < W.heap.size ∧ w.heap.size + 1 < W.heap.size)) := Lib.hid (fun W hb => by
      have e : ∀ b o, b < w0.heap.size → W.cell? ⟨b, o, none⟩ = w0.cell? ⟨b, o, none⟩ := fun b o h => hb.cell (p := ⟨b, o, none⟩) h
      have hz := hb.size
      refine ⟨⟨?_, ?_⟩, ⟨?_, ?_, ?_, ?_⟩, by omega, by omega⟩
      all_goals
        rw [e _ _ (by omega), hw0]
        go_simp)
    clear hw0
    refine (few33_any _ _ _ _ _ _ _ _ _ _).mono ?_
    rintro e w1 ⟨rfl, rfl⟩
    rw [hf]
    go_wp2_with fail
    go_ret
    exact ⟨rfl, b0⟩
  · have hf' : bills.length ≤ 30 ∧ V.ts.length ≤ 60 := by
      unfold few33 at hf
      simp only [Bool.and_eq_true, decide_eq_true_eq] at hf
      omega
    by_cases hn : n ≤ 60
    · have hn' : (n : Int) ≤ 60 := by omega
      cases hb : billsOk bills
      · have hr : usableB V bills n = false := by unfold usableB; rw [hb]; simp
        rw [hr]
        go_enter Tryz.func14, Tryz.ntmps14
        go_wp2_with fail
        refine name_calls (fun w0 hw0 => ?_)
        have b0 : Below w.heap.size w w0 := by rw [hw0]; exact (by repeat' (first | (with_reducible exact Below.refl _ _) | (with_reducible assumption) | (with_reducible refine below_drewN ?_ _) | (with_reducible refine Below.drew ?_) | (with_reducible refine below_regrown_up _ _ ?_ ?_) | (with_reducible refine Below.alloc ?_ ?_ _) | (with_reducible refine Below.setCell ?_ ?_ _) | (with_reducible refine below_up ?_ ?_ (by assumption)) | (with_reducible exact Nat.le_refl _) | omega | (simp; done) | (simp; omega)))
        have l0 : w.heap.size + 1 < w0.heap.size := by rw [hw0]; simp
        have HX : Hid (∀ W, Below w0.heap.size w0 W → ((W.cell? ⟨w.heap.size, 0, none⟩ = some (.int .i64 V.p) ∧ W.cell? ⟨w.heap.size, 1, none⟩ = some (.int .i64 V.d)) ∧ (W.cell? ⟨w.heap.size + 1, 0, none⟩ = some (.int .i64 V.k.fx) ∧ W.cell? ⟨w.heap.size + 1, 1, none⟩ = some (.int .i64 V.k.n) ∧ W.cell? ⟨w.heap.size + 1, 2, none⟩ = some (.int .i64 V.k.d) ∧ W.cell? ⟨w.heap.size + 1, 3, none⟩ = some (.int .i64 V.k.most)) ∧ w.heap.size < W.heap.size ∧ w.heap.size + 1 < W.heap.size)) := Lib.hid (fun W hb => by
          have e : ∀ b o, b < w0.heap.size → W.cell? ⟨b, o, none⟩ = w0.cell? ⟨b, o, none⟩ := fun b o h => hb.cell (p := ⟨b, o, none⟩) h
          have hz := hb.size
          refine ⟨⟨?_, ?_⟩, ⟨?_, ?_, ?_, ?_⟩, by omega, by omega⟩
          all_goals
            rw [e _ _ (by omega), hw0]
            go_simp)
        clear hw0
        refine (few33_any _ _ _ _ _ _ _ _ _ _).mono ?_
        rintro e w1 ⟨rfl, rfl⟩
        rw [hf]
        go_wp2_with fail
        refine (rBills_any bills A c w0 (hs.up b0) (by omega)).mono ?_
        rintro e w1 ⟨rfl, b1⟩
        rw [hb]
        have B1 := below_up b0 b0.size b1
        go_wp2_with fail
        go_ret
        exact ⟨rfl, B1⟩
      · cases ht : taxesOk V.ts
        · have hr : usableB V bills n = false := by unfold usableB; rw [ht]; simp
          rw [hr]
          go_enter Tryz.func14, Tryz.ntmps14
          go_wp2_with fail
          refine name_calls (fun w0 hw0 => ?_)
          have b0 : Below w.heap.size w w0 := by rw [hw0]; exact (by repeat' (first | (with_reducible exact Below.refl _ _) | (with_reducible assumption) | (with_reducible refine below_drewN ?_ _) | (with_reducible refine Below.drew ?_) | (with_reducible refine below_regrown_up _ _ ?_ ?_) | (with_reducible refine Below.alloc ?_ ?_ _) | (with_reducible refine Below.setCell ?_ ?_ _) | (with_reducible refine below_up ?_ ?_ (by assumption)) | (with_reducible exact Nat.le_refl _) | omega | (simp; done) | (simp; omega)))
          have l0 : w.heap.size + 1 < w0.heap.size := by rw [hw0]; simp
          have HX : Hid (∀ W, Below w0.heap.size w0 W → ((W.cell? ⟨w.heap.size, 0, none⟩ = some (.int .i64 V.p) ∧ W.cell? ⟨w.heap.size, 1, none⟩ = some (.int .i64 V.d)) ∧ (W.cell? ⟨w.heap.size + 1, 0, none⟩ = some (.int .i64 V.k.fx) ∧ W.cell? ⟨w.heap.size + 1, 1, none⟩ = some (.int .i64 V.k.n) ∧ W.cell? ⟨w.heap.size + 1, 2, none⟩ = some (.int .i64 V.k.d) ∧ W.cell? ⟨w.heap.size + 1, 3, none⟩ = some (.int .i64 V.k.most)) ∧ w.heap.size < W.heap.size ∧ w.heap.size + 1 < W.heap.size)) := Lib.hid (fun W hb => by
            have e : ∀ b o, b < w0.heap.size → W.cell? ⟨b, o, none⟩ = w0.cell? ⟨b, o, none⟩ := fun b o h => hb.cell (p := ⟨b, o, none⟩) h
            have hz := hb.size
            refine ⟨⟨?_, ?_⟩, ⟨?_, ?_, ?_, ?_⟩, by omega, by omega⟩
            all_goals
              rw [e _ _ (by omega), hw0]
              go_simp)
          clear hw0
          refine (few33_any _ _ _ _ _ _ _ _ _ _).mono ?_
          rintro e w1 ⟨rfl, rfl⟩
          rw [hf]
          go_wp2_with fail
          refine (rBills_any bills A c w0 (hs.up b0) (by omega)).mono ?_
          rintro e w1 ⟨rfl, b1⟩
          rw [hb]
          have B1 := below_up b0 b0.size b1
          go_wp2_with fail
          refine (rtvalid_any V.ts At ct w1 (hts.up B1) (by omega)).mono ?_
          rintro e w2 ⟨rfl, b2⟩
          rw [ht]
          have B2 := below_up B1 B1.size b2
          have c2 := below_up b1 b1.size b2
          go_wp2_with fail
          go_ret
          exact ⟨rfl, B2⟩
        · cases hp : partOk V.p V.d
          · have hr : usableB V bills n = false := by unfold usableB; rw [hp]; simp
            rw [hr]
            go_enter Tryz.func14, Tryz.ntmps14
            go_wp2_with fail
            refine name_calls (fun w0 hw0 => ?_)
            have b0 : Below w.heap.size w w0 := by rw [hw0]; exact (by repeat' (first | (with_reducible exact Below.refl _ _) | (with_reducible assumption) | (with_reducible refine below_drewN ?_ _) | (with_reducible refine Below.drew ?_) | (with_reducible refine below_regrown_up _ _ ?_ ?_) | (with_reducible refine Below.alloc ?_ ?_ _) | (with_reducible refine Below.setCell ?_ ?_ _) | (with_reducible refine below_up ?_ ?_ (by assumption)) | (with_reducible exact Nat.le_refl _) | omega | (simp; done) | (simp; omega)))
            have l0 : w.heap.size + 1 < w0.heap.size := by rw [hw0]; simp
            have HX : Hid (∀ W, Below w0.heap.size w0 W → ((W.cell? ⟨w.heap.size, 0, none⟩ = some (.int .i64 V.p) ∧ W.cell? ⟨w.heap.size, 1, none⟩ = some (.int .i64 V.d)) ∧ (W.cell? ⟨w.heap.size + 1, 0, none⟩ = some (.int .i64 V.k.fx) ∧ W.cell? ⟨w.heap.size + 1, 1, none⟩ = some (.int .i64 V.k.n) ∧ W.cell? ⟨w.heap.size + 1, 2, none⟩ = some (.int .i64 V.k.d) ∧ W.cell? ⟨w.heap.size + 1, 3, none⟩ = some (.int .i64 V.k.most)) ∧ w.heap.size < W.heap.size ∧ w.heap.size + 1 < W.heap.size)) := Lib.hid (fun W hb => by
              have e : ∀ b o, b < w0.heap.size → W.cell? ⟨b, o, none⟩ = w0.cell? ⟨b, o, none⟩ := fun b o h => hb.cell (p := ⟨b, o, none⟩) h
              have hz := hb.size
              refine ⟨⟨?_, ?_⟩, ⟨?_, ?_, ?_, ?_⟩, by omega, by omega⟩
              all_goals
                rw [e _ _ (by omega), hw0]
                go_simp)
            clear hw0
            refine (few33_any _ _ _ _ _ _ _ _ _ _).mono ?_
            rintro e w1 ⟨rfl, rfl⟩
            rw [hf]
            go_wp2_with fail
            refine (rBills_any bills A c w0 (hs.up b0) (by omega)).mono ?_
            rintro e w1 ⟨rfl, b1⟩
            rw [hb]
            have B1 := below_up b0 b0.size b1
            go_wp2_with fail
            refine (rtvalid_any V.ts At ct w1 (hts.up B1) (by omega)).mono ?_
            rintro e w2 ⟨rfl, b2⟩
            rw [ht]
            have B2 := below_up B1 B1.size b2
            have c2 := below_up b1 b1.size b2
            obtain ⟨⟨y0, y1⟩, ⟨x0, x1, x2, x3⟩, ly, lx⟩ := HX.out w2 c2
            go_wp2_with fail
            refine (r30part_any V.p V.d w2).mono ?_
            rintro e w3 ⟨rfl, b3⟩
            rw [hp]
            have B3 := below_up B2 B2.size b3
            have c3 := below_up c2 c2.size b3
            clear x0 x1 x2 x3 y0 y1 ly lx
            go_wp2_with fail
            go_ret
            exact ⟨rfl, B3⟩
          · have hr : usableB V bills n = conOk V.k := by unfold usableB; rw [hf, hb, ht, hp, decide_eq_true hn]; rfl
            rw [hr]
            go_enter Tryz.func14, Tryz.ntmps14
            go_wp2_with fail
            refine name_calls (fun w0 hw0 => ?_)
            have b0 : Below w.heap.size w w0 := by rw [hw0]; exact (by repeat' (first | (with_reducible exact Below.refl _ _) | (with_reducible assumption) | (with_reducible refine below_drewN ?_ _) | (with_reducible refine Below.drew ?_) | (with_reducible refine below_regrown_up _ _ ?_ ?_) | (with_reducible refine Below.alloc ?_ ?_ _) | (with_reducible refine Below.setCell ?_ ?_ _) | (with_reducible refine below_up ?_ ?_ (by assumption)) | (with_reducible exact Nat.le_refl _) | omega | (simp; done) | (simp; omega)))
            have l0 : w.heap.size + 1 < w0.heap.size := by rw [hw0]; simp
            have HX : Hid (∀ W, Below w0.heap.size w0 W → ((W.cell? ⟨w.heap.size, 0, none⟩ = some (.int .i64 V.p) ∧ W.cell? ⟨w.heap.size, 1, none⟩ = some (.int .i64 V.d)) ∧ (W.cell? ⟨w.heap.size + 1, 0, none⟩ = some (.int .i64 V.k.fx) ∧ W.cell? ⟨w.heap.size + 1, 1, none⟩ = some (.int .i64 V.k.n) ∧ W.cell? ⟨w.heap.size + 1, 2, none⟩ = some (.int .i64 V.k.d) ∧ W.cell? ⟨w.heap.size + 1, 3, none⟩ = some (.int .i64 V.k.most)) ∧ w.heap.size < W.heap.size ∧ w.heap.size + 1 < W.heap.size)) := Lib.hid (fun W hb => by
              have e : ∀ b o, b < w0.heap.size → W.cell? ⟨b, o, none⟩ = w0.cell? ⟨b, o, none⟩ := fun b o h => hb.cell (p := ⟨b, o, none⟩) h
              have hz := hb.size
              refine ⟨⟨?_, ?_⟩, ⟨?_, ?_, ?_, ?_⟩, by omega, by omega⟩
              all_goals
                rw [e _ _ (by omega), hw0]
                go_simp)
            clear hw0
            refine (few33_any _ _ _ _ _ _ _ _ _ _).mono ?_
            rintro e w1 ⟨rfl, rfl⟩
            rw [hf]
            go_wp2_with fail
            refine (rBills_any bills A c w0 (hs.up b0) (by omega)).mono ?_
            rintro e w1 ⟨rfl, b1⟩
            rw [hb]
            have B1 := below_up b0 b0.size b1
            go_wp2_with fail
            refine (rtvalid_any V.ts At ct w1 (hts.up B1) (by omega)).mono ?_
            rintro e w2 ⟨rfl, b2⟩
            rw [ht]
            have B2 := below_up B1 B1.size b2
            have c2 := below_up b1 b1.size b2
            obtain ⟨⟨y0, y1⟩, ⟨x0, x1, x2, x3⟩, ly, lx⟩ := HX.out w2 c2
            go_wp2_with fail
            refine (r30part_any V.p V.d w2).mono ?_
            rintro e w3 ⟨rfl, b3⟩
            rw [hp]
            have B3 := below_up B2 B2.size b3
            have c3 := below_up c2 c2.size b3
            clear x0 x1 x2 x3 y0 y1 ly lx
            obtain ⟨⟨y0, y1⟩, ⟨x0, x1, x2, x3⟩, ly, lx⟩ := HX.out w3 c3
            go_wp2_with fail
            refine (rcon_any V.k w3).mono ?_
            rintro e w4 ⟨rfl, b4⟩
            clear x0 x1 x2 x3 y0 y1 ly lx
            go_wp2_with fail
            go_ret
            exact ⟨rfl, below_up B3 B3.size b4⟩
    · have hn' : ¬ (n : Int) ≤ 60 := by omega
      have hr : usableB V bills n = false := by unfold usableB; rw [decide_eq_false hn]; simp
      rw [hr]
      go_enter Tryz.func14, Tryz.ntmps14
      go_wp2_with fail
      refine name_calls (fun w0 hw0 => ?_)
      have b0 : Below w.heap.size w w0 := by rw [hw0]; exact (by repeat' (first | (with_reducible exact Below.refl _ _) | (with_reducible assumption) | (with_reducible refine below_drewN ?_ _) | (with_reducible refine Below.drew ?_) | (with_reducible refine below_regrown_up _ _ ?_ ?_) | (with_reducible refine Below.alloc ?_ ?_ _) | (with_reducible refine Below.setCell ?_ ?_ _) | (with_reducible refine below_up ?_ ?_ (by assumption)) | (with_reducible exact Nat.le_refl _) | omega | (simp; done) | (simp; omega)))
      have l0 : w.heap.size + 1 < w0.heap.size := by rw [hw0]; simp
      have HX : Hid (∀ W, Below w0.heap.size w0 W → ((W.cell? ⟨w.heap.size, 0, none⟩ = some (.int .i64 V.p) ∧ W.cell? ⟨w.heap.size, 1, none⟩ = some (.int .i64 V.d)) ∧ (W.cell? ⟨w.heap.size + 1, 0, none⟩ = some (.int .i64 V.k.fx) ∧ W.cell? ⟨w.heap.size + 1, 1, none⟩ = some (.int .i64 V.k.n) ∧ W.cell? ⟨w.heap.size + 1, 2, none⟩ = some (.int .i64 V.k.d) ∧ W.cell? ⟨w.heap.size + 1, 3, none⟩ = some (.int .i64 V.k.most)) ∧ w.heap.size < W.heap.size ∧ w.heap.size + 1 < W.heap.size)) := Lib.hid (fun W hb => by
        have e : ∀ b o, b < w0.heap.size → W.cell? ⟨b, o, none⟩ = w0.cell? ⟨b, o, none⟩ := fun b o h => hb.cell (p := ⟨b, o, none⟩) h
        have hz := hb.size
        refine ⟨⟨?_, ?_⟩, ⟨?_, ?_, ?_, ?_⟩, by omega, by omega⟩
        all_goals
          rw [e _ _ (by omega), hw0]
          go_simp)
      clear hw0
      refine (few33_any _ _ _ _ _ _ _ _ _ _).mono ?_
      rintro e w1 ⟨rfl, rfl⟩
      rw [hf]
      go_wp2_with fail
      go_ret
      exact ⟨rfl, b0⟩
theorem leftN_step {l : List Deed} {errs : List Int} {j : Nat} {s : Int} (h1 : j < l.length) (h2 : j < errs.length) : leftN (l.take (j + 1)) (errs.take (j + 1)) s = leftN (l.take j) (errs.take j) s + if ((l[j].kind == 5) && (l[j].stay == s) && (errs[j] == 0)) = true then 1 else 0 := by
  rw [List.take_succ_eq_append_getElem h1, List.take_succ_eq_append_getElem h2, leftN_snoc (by rw [List.length_take, List.length_take]; omega)]
theorem leftN_len (l : List Deed) (errs : List Int) (s : Int) : leftN l errs s ≤ l.length := by
  unfold leftN
  exact Nat.le_trans (List.length_filter_le _ _) (by rw [List.length_zip]; omega)
theorem leftRun_snoc (bills : List Bill) (l : List Deed) (errs : List Int) (b : Bill) : leftRun (bills ++ [b]) l errs = leftRun bills l errs ++ List.replicate (leftN l errs b.stay) b := by
  unfold leftRun
  rw [List.flatMap_append]
  simp
theorem leftRun_len (l : List Deed) (errs : List Int) (bills : List Bill) : (leftRun bills l errs).length ≤ bills.length * l.length := by
  induction bills using rev_ind with
  | h0 => simp [leftRun]
  | h1 bs b ih =>
    rw [leftRun_snoc, List.length_append, List.length_append, List.length_replicate, Nat.add_mul]
    have := leftN_len l errs b.stay
    simp only [List.length_singleton, Nat.one_mul]
    omega
theorem wpList_pushA {α : Type} {P : Program} (w : World) {ops : Array Oper} {rest : List Oper} {o : Oper} {a : Act} {Q : Exit → Act → World → Prop} (hgd : o.guard = none) (s x : Operand) (t e : TypeId)
    (ho : o.op = .call { callee := .builtin .append, args := #[s, x], argTypes := #[t, t] }) (base size bytes : Nat) (enc : α → List Value)
    (E : Elem P t e size bytes) (he : ∀ y, (enc y).length = size) (hone : ∀ y, ∀ u ∈ enc y, u.oneCell' = true) (v : Value) (L : List α) (hs : a.eval s = v) (hown : OwnL w base e size enc v L)
    (g c : Nat) (y : α) (hx : a.eval x = .slice (some ⟨g, 0, none⟩) 1 c) (hg : g < w.heap.size) (hc : ∀ j u, (enc y)[j]? = some u → w.cell? ⟨g, j, none⟩ = some u)
    (hn : L.length ≤ 10000000) (hby : bytes ≤ 1000) (hbase : base ≤ w.heap.size)
    (h : ∀ v' w', OwnL w' base e size enc v' (L ++ [y]) → w.grownBy w' v.ownBlock → (v'.ownBlock = v.ownBlock ∨ v'.ownBlock = some w.heap.size) → wpList P ops Q rest (a.put o.dst v') w') : wpList P ops Q (o :: rest) a w :=
  wpList_append_all w hgd s x t e ho base size bytes enc E he hone v L hs hown (some ⟨g, 0, none⟩) c w.heap.size [y] hx (fun _ => ⟨g, 0, rfl, hg, fun k hk j u hu => by
    have : k = 0 := by simpa using hk
    subst this
    rw [Nat.zero_mul, Nat.add_zero, Nat.zero_add]
    exact hc j u hu⟩) (by simp; omega) hby hbase h
theorem run33_any {V : Env} {bills : List Bill} {l : List Deed} {es : List Entry} {errs : List Int} (hr : runR V bills l = (es, errs, 0)) (A At Al : Option Addr) (c ct cl : Nat) (w : World) (hs : SlBill w A bills) (hts : SlTax w At V.ts) (hsl : SlDeed w Al l)
    (hb : bills.length ≤ 30) (htl : V.ts.length ≤ 60) (hll : l.length ≤ 60) (hel : errs.length = l.length) (hst : ∀ x ∈ l, -9223372036854775808 ≤ x.stay ∧ x.stay ≤ 9223372036854775807) :
    Calls Tryz.prog 15 #[.slice A bills.length c, .slice At V.ts.length ct, .agg #[.int .i64 V.p, .int .i64 V.d], V.k.v, .slice Al l.length cl] w fun e w' => (∃ A1 c1 A2 c2, e = .returned (.tuple #[.slice A1 es.length c1, .slice A2 (leftRun bills l errs).length c2, .bool true]) ∧ SlEnt w' A1 es ∧ SlBill w' A2 (leftRun bills l errs) ∧ (leftRun bills l errs).length ≤ c2) ∧ Below w.heap.size w w' := by
  have HST := Lib.hid hst
  have HR := Lib.hid hr
  have hel1 : errs.length ≤ l.length := by omega
  have hel2 : l.length ≤ errs.length := by omega
  have hneq : ((errs.length : Int) != (l.length : Int)) = false := by rw [bne_eq_false_iff_eq]; omega
  have hneq2 : (errs.length != l.length) = false := by rw [bne_eq_false_iff_eq]; omega
  have HEL := Lib.hid hel
  clear hst hr hel
  go_enter Tryz.func15, Tryz.ntmps15
  go_wp2_with fail
  refine name_calls (fun w0 hw0 => ?_)
  have b0 : Below w.heap.size w w0 := by rw [hw0]; exact (by repeat' (first | (with_reducible exact Below.refl _ _) | (with_reducible assumption) | (with_reducible refine below_drewN ?_ _) | (with_reducible refine Below.drew ?_) | (with_reducible refine below_regrown_up _ _ ?_ ?_) | (with_reducible refine Below.alloc ?_ ?_ _) | (with_reducible refine Below.setCell ?_ ?_ _) | (with_reducible refine below_up ?_ ?_ (by assumption)) | (with_reducible exact Nat.le_refl _) | omega | (simp; done) | (simp; omega)))
  have l0 : w.heap.size + 1 < w0.heap.size := by rw [hw0]; simp
  have HX : Hid (∀ W, Below w0.heap.size w0 W → ((W.cell? ⟨w.heap.size, 0, none⟩ = some (.int .i64 V.p) ∧ W.cell? ⟨w.heap.size, 1, none⟩ = some (.int .i64 V.d)) ∧ (W.cell? ⟨w.heap.size + 1, 0, none⟩ = some (.int .i64 V.k.fx) ∧ W.cell? ⟨w.heap.size + 1, 1, none⟩ = some (.int .i64 V.k.n) ∧ W.cell? ⟨w.heap.size + 1, 2, none⟩ = some (.int .i64 V.k.d) ∧ W.cell? ⟨w.heap.size + 1, 3, none⟩ = some (.int .i64 V.k.most)) ∧ w.heap.size < W.heap.size ∧ w.heap.size + 1 < W.heap.size)) := Lib.hid (fun W hb => by
    have e : ∀ b o, b < w0.heap.size → W.cell? ⟨b, o, none⟩ = w0.cell? ⟨b, o, none⟩ := fun b o h => hb.cell (p := ⟨b, o, none⟩) h
    have hz := hb.size
    refine ⟨⟨?_, ?_⟩, ⟨?_, ?_, ?_, ?_⟩, by omega, by omega⟩
    all_goals
      rw [e _ _ (by omega), hw0]
      go_simp)
  clear hw0
  obtain ⟨⟨y0, y1⟩, ⟨x0, x1, x2, x3⟩, ly, lx⟩ := HX.out w0 (Below.refl _ _)
  refine (frun_lit (V := V) HR.out A At Al c ct cl w0 (hs.up b0) (hts.up b0) (hsl.up b0) (by omega) (by omega) (by omega) HST.out).mono ?_
  rintro e w2 ⟨⟨A1, c1, A2, c2, rfl, s1, s2⟩, b2⟩
  have B2 := below_up b0 b0.size b2
  clear x0 x1 x2 x3 y0 y1 ly lx HX
  go_wp2_with fail
  go_loopw [16, 42] (fun v16 i wr => ∃ (m : Nat) (kv : Value), m ≤ bills.length ∧ i = .int .i64 m ∧ kv = v16 ∧ OwnL wr w2.heap.size 31 9 Bill.cs kv (leftRun (bills.take m) l errs) ∧ Below w2.heap.size w2 wr) (fun _ i _ => bills.length - (intOf i).toNat)
  case atStart => exact ⟨0, _, by omega, rfl, rfl, OwnL.nil_, Below.refl _ _⟩
  case round =>
    obtain ⟨m, kv, hm, rfl, rfl, hO, hbw⟩ := hrel
    have hbz := hbw.size
    by_cases hlt : m < bills.length
    · have hx1 : (0 : Int) ≤ (m : Int) := by omega
      have hx2 : (m : Int) < (bills.length : Int) := by omega
      have hBw := below_up B2 B2.size hbw
      obtain ⟨bb, off, rfl, hbl, hcell⟩ := (hs.up hBw).at_ hlt
      have q0 := hcell 0 _ rfl
      have q1 := hcell 1 _ rfl
      have q2 := hcell 2 _ rfl
      have q3 := hcell 3 _ rfl
      have q4 := hcell 4 _ rfl
      have q5 := hcell 5 _ rfl
      have q6 := hcell 6 _ rfl
      have q7 := hcell 7 _ rfl
      have q8 := hcell 8 _ rfl
      rw [Nat.add_zero] at q0
      clear hcell
      have hst : bills.take (m + 1) = bills.take m ++ [bills[m]] := List.take_succ_eq_append_getElem hlt
      have hrs := leftRun_snoc (bills.take m) l errs bills[m]
      rw [← hst] at hrs
      have HRS := Lib.hid hrs
      have hrl := leftRun_len l errs (bills.take m)
      rw [List.length_take] at hrl
      have hrl2 : (leftRun (bills.take m) l errs).length ≤ 1800 := Nat.le_trans hrl (Nat.mul_le_mul (show min m bills.length ≤ 30 by omega) hll)
      clear hst hrs hrl
      go_wp2_with fail
      refine name_world (fun wE hwE => ?_)
      have bE : Below wr.heap.size wr wE := by rw [hwE]; exact (by repeat' (first | (with_reducible exact Below.refl _ _) | (with_reducible assumption) | (with_reducible refine below_drewN ?_ _) | (with_reducible refine Below.drew ?_) | (with_reducible refine below_regrown_up _ _ ?_ ?_) | (with_reducible refine Below.alloc ?_ ?_ _) | (with_reducible refine Below.setCell ?_ ?_ _) | (with_reducible refine below_up ?_ ?_ (by assumption)) | (with_reducible exact Nat.le_refl _) | omega | (simp; done) | (simp; omega)))
      have lE : wr.heap.size < wE.heap.size := by rw [hwE]; simp
      have k0 : wE.cell? ⟨wr.heap.size, 0, none⟩ = some (.int .i64 bills[m].stay) := by rw [hwE]; go_simp
      have k1 : wE.cell? ⟨wr.heap.size, 1, none⟩ = some (.int .i64 bills[m].channel) := by rw [hwE]; go_simp
      have k2 : wE.cell? ⟨wr.heap.size, 2, none⟩ = some (.int .i64 bills[m].place) := by rw [hwE]; go_simp
      have k3 : wE.cell? ⟨wr.heap.size, 3, none⟩ = some (.int .i64 bills[m].kind) := by rw [hwE]; go_simp
      have k4 : wE.cell? ⟨wr.heap.size, 4, none⟩ = some (.int .i64 bills[m].frm) := by rw [hwE]; go_simp
      have k5 : wE.cell? ⟨wr.heap.size, 5, none⟩ = some (.int .i64 bills[m].til) := by rw [hwE]; go_simp
      have k6 : wE.cell? ⟨wr.heap.size, 6, none⟩ = some (.int .i64 bills[m].persons) := by rw [hwE]; go_simp
      have k7 : wE.cell? ⟨wr.heap.size, 7, none⟩ = some (.int .i64 bills[m].price) := by rw [hwE]; go_simp
      have k8 : wE.cell? ⟨wr.heap.size, 8, none⟩ = some (.int .i64 bills[m].keep) := by rw [hwE]; go_simp
      have hOE := hO.below bE
      have HK := Lib.hid (And.intro k0 (And.intro k1 (And.intro k2 (And.intro k3 (And.intro k4 (And.intro k5 (And.intro k6 (And.intro k7 k8))))))))
      clear hwE q0 q1 q2 q3 q4 q5 q6 q7 q8 k0 k1 k2 k3 k4 k5 k6 k7 k8
      have b2E := below_up hbw hbz bE
      obtain ⟨wo, hwo⟩ : ∃ wo, wo = wr := ⟨_, rfl⟩
      subst hwo
      go_wp2_with fail
      go_loopw [16, 48] (fun v16 i wr => ∃ (j : Nat) (kv : Value), j ≤ l.length ∧ i = .int .i64 j ∧ kv = v16 ∧ OwnL wr w2.heap.size 31 9 Bill.cs kv (leftRun (bills.take m) l errs ++ List.replicate (leftN (l.take j) (errs.take j) bills[m].stay) bills[m]) ∧ kv.ownBlock ≠ some wo.heap.size ∧ Hid (∀ o v, wE.cell? ⟨wo.heap.size, o, none⟩ = some v → wr.cell? ⟨wo.heap.size, o, none⟩ = some v) ∧ wo.heap.size < wr.heap.size ∧ Below w2.heap.size w2 wr) (fun _ i _ => l.length - (intOf i).toNat)
      case atStart => exact ⟨0, _, by omega, rfl, rfl, by simpa [leftN] using hOE, fun e => by have := (hO.lt _ e).2; omega, Lib.hid (fun _ _ h => h), lE, b2E⟩
      case round =>
        obtain ⟨j, kv, hj, rfl, rfl, hO2, hne, HC, hlw, hbw2⟩ := hrel
        have hbz2 := hbw2.size
        by_cases hlt2 : j < l.length
        · have hlt3 : j < errs.length := by omega
          have hy1 : (0 : Int) ≤ (j : Int) := by omega
          have hy2 : (j : Int) < (l.length : Int) := by omega
          have hy3 : (j : Int) < (errs.length : Int) := by omega
          have hBw2 := below_up B2 B2.size hbw2
          obtain ⟨b1', o1, rfl, hbl1, hcell1⟩ := (hsl.up hBw2).at_ hlt2
          obtain ⟨b2', o2, rfl, hbl2, hcell2⟩ := (s2.up hbw2).at_ hlt3
          have p0 := hcell1 0 _ rfl
          have p1 := hcell1 1 _ rfl
          have p2 := hcell1 2 _ rfl
          have p3 := hcell1 3 _ rfl
          have q0 := hcell2 0 _ rfl
          rw [Nat.add_zero] at p0
          rw [Nat.add_zero, Nat.mul_one] at q0
          have g0 := HC.out 0 _ HK.out.1
          have g1 := HC.out 1 _ HK.out.2.1
          have g2 := HC.out 2 _ HK.out.2.2.1
          have g3 := HC.out 3 _ HK.out.2.2.2.1
          have g4 := HC.out 4 _ HK.out.2.2.2.2.1
          have g5 := HC.out 5 _ HK.out.2.2.2.2.2.1
          have g6 := HC.out 6 _ HK.out.2.2.2.2.2.2.1
          have g7 := HC.out 7 _ HK.out.2.2.2.2.2.2.2.1
          have g8 := HC.out 8 _ HK.out.2.2.2.2.2.2.2.2
          clear hcell1 hcell2
          have HSTEP := Lib.hid (leftN_step (s := bills[m].stay) hlt2 hlt3)
          have hnl := leftN_len (l.take j) (errs.take j) bills[m].stay
          rw [List.length_take] at hnl
          have HNE := Lib.hid hne
          clear hne
          have hlw1 : wo.heap.size < wr.heap.size + 1 := by omega
          have hbw3 : b2' < wr.heap.size := by omega
          cases e1 : (l[j].kind == 5)
          · go_wp2_with fail
            go_roundw
            case rel =>
              refine ⟨j + 1, _, by omega, by go_num, rfl, ?_, HNE.out, Lib.hid (fun o v h => ?_), by simp; omega, (by repeat' (first | (with_reducible exact Below.refl _ _) | (with_reducible assumption) | (with_reducible refine below_drewN ?_ _) | (with_reducible refine Below.drew ?_) | (with_reducible refine below_regrown_up _ _ ?_ ?_) | (with_reducible refine Below.alloc ?_ ?_ _) | (with_reducible refine Below.setCell ?_ ?_ _) | (with_reducible refine below_up ?_ ?_ (by assumption)) | (with_reducible exact Nat.le_refl _) | omega | (simp; done) | (simp; omega)))⟩
              · rw [HSTEP.out, if_neg (by rw [e1]; simp), Nat.add_zero]
                exact hO2.alloc _
              · exact (World.cell?_alloc_lt _ _ _ hlw).trans (HC.out o v h)
            case measure => simp [intOf]; omega
          · cases e2 : (l[j].stay == bills[m].stay)
            · go_wp2_with fail
              go_roundw
              case rel =>
                refine ⟨j + 1, _, by omega, by go_num, rfl, ?_, HNE.out, Lib.hid (fun o v h => ?_), by simp; omega, (by repeat' (first | (with_reducible exact Below.refl _ _) | (with_reducible assumption) | (with_reducible refine below_drewN ?_ _) | (with_reducible refine Below.drew ?_) | (with_reducible refine below_regrown_up _ _ ?_ ?_) | (with_reducible refine Below.alloc ?_ ?_ _) | (with_reducible refine Below.setCell ?_ ?_ _) | (with_reducible refine below_up ?_ ?_ (by assumption)) | (with_reducible exact Nat.le_refl _) | omega | (simp; done) | (simp; omega)))⟩
                · rw [HSTEP.out, if_neg (by rw [e1, e2]; simp), Nat.add_zero]
                  exact hO2.alloc _
                · exact (World.cell?_alloc_lt _ _ _ hlw).trans (HC.out o v h)
              case measure => simp [intOf]; omega
            · cases e3 : (errs[j] == 0)
              · go_wp2_with fail
                go_roundw
                case rel =>
                  refine ⟨j + 1, _, by omega, by go_num, rfl, ?_, HNE.out, Lib.hid (fun o v h => ?_), by simp; omega, (by repeat' (first | (with_reducible exact Below.refl _ _) | (with_reducible assumption) | (with_reducible refine below_drewN ?_ _) | (with_reducible refine Below.drew ?_) | (with_reducible refine below_regrown_up _ _ ?_ ?_) | (with_reducible refine Below.alloc ?_ ?_ _) | (with_reducible refine Below.setCell ?_ ?_ _) | (with_reducible refine below_up ?_ ?_ (by assumption)) | (with_reducible exact Nat.le_refl _) | omega | (simp; done) | (simp; omega)))⟩
                  · rw [HSTEP.out, if_neg (by rw [e1, e2, e3]; simp), Nat.add_zero]
                    exact hO2.alloc _
                  · exact (World.cell?_alloc_lt _ _ _ hlw).trans (HC.out o v h)
                case measure => simp [intOf]; omega
              · go_wp2_with (at_builtin; go_loud (refine wpList_pushA _ rfl (.tmp 70) (.tmp 72) 22 31 rfl w2.heap.size 9 72 Bill.cs elemBill bill_len bill_one kv _ rfl ((hO2.alloc _).alloc _) _ 1 bills[m] rfl (by simp) (news_at _ _ _ rfl (by simp)) (by simp; omega) (by omega) (by simp; omega) ?_); intro v5 w5 hown5 hgrow5 hat5)
                have hz5 := hgrow5.size
                simp only [World.size_alloc] at hz5
                go_roundw
                case rel =>
                  refine ⟨j + 1, _, by omega, by go_num, rfl, ?_, ?_, Lib.hid (fun o v h => ?_), by omega, below_push (by repeat' (first | (with_reducible exact Below.refl _ _) | (with_reducible assumption) | (with_reducible refine below_drewN ?_ _) | (with_reducible refine Below.drew ?_) | (with_reducible refine below_regrown_up _ _ ?_ ?_) | (with_reducible refine Below.alloc ?_ ?_ _) | (with_reducible refine Below.setCell ?_ ?_ _) | (with_reducible refine below_up ?_ ?_ (by assumption)) | (with_reducible exact Nat.le_refl _) | omega | (simp; done) | (simp; omega))) ((hO2.alloc _).alloc _) hgrow5 (by simp; omega)⟩
                  · rw [HSTEP.out, if_pos (by rw [e1, e2, e3]; rfl), List.replicate_succ', ← List.append_assoc]
                    exact hown5
                  · rcases hat5 with h | h
                    · rw [h]; exact HNE.out
                    · rw [h]; simp; omega
                  · exact hgrow5.cell ((World.cell?_alloc_lt _ _ _ (by simp; omega)).trans ((World.cell?_alloc_lt _ _ _ hlw).trans (HC.out o v h))) (fun e => HNE.out e.symm)
                case measure => simp [intOf]; omega
        · obtain rfl : j = l.length := by omega
          rw [List.take_of_length_le (Nat.le_refl _), List.take_of_length_le hel1] at hO2
          go_wp2_with fail
          go_roundw
          case rel => exact ⟨m + 1, _, by omega, by go_num, rfl, by rw [HRS.out]; exact hO2, hbw2⟩
          case measure => simp [intOf]; omega
    · obtain rfl : m = bills.length := by omega
      rw [List.take_of_length_le (Nat.le_refl _)] at hO
      obtain ⟨A7, c7, rfl, hcp7, _, hs7⟩ := hO.sl bill_len
      go_wp2_with fail
      go_ret3
      exact ⟨⟨A1, c1, A7, c7, rfl, s1.up hbw, hs7.more (by omega), hcp7⟩, below_up B2 B2.size hbw⟩
end Go.Proofs.YtmlhoojcdidgkaaGreat
