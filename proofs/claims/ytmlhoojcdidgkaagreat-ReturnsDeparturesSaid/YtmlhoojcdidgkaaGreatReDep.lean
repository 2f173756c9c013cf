/-
  The law 'ReturnsDepartures': the walk.
-/
import Derived.Test.YtmlhoojcdidgkaaGreatRet11
import Derived.Test.YtmlhoojcdidgkaaGreatRetQ
namespace Go.Proofs.YtmlhoojcdidgkaaGreat
set_option linter.unusedSimpArgs false
set_option linter.unusedVariables false
open Go.RowKit Go.Maps
open Go.Sort (grow size_grow)


set_option maxHeartbeats 4000000
set_option maxRecDepth 100000
theorem law_departures (V : Env) (bills : List Bill) (l : List Deed) (A At Al : Option Addr) (c ct cl : Nat) (w : World) (hs : SlBill w A bills) (hts : SlTax w At V.ts) (hsl : SlDeed w Al l) (hst : ∀ x ∈ l, -9223372036854775808 ≤ x.stay ∧ x.stay ≤ 9223372036854775807) :
    Calls Tryz.prog 4 #[.slice A bills.length c, .slice At V.ts.length ct, .agg #[.int .i64 V.p, .int .i64 V.d], V.k.v, .slice Al l.length cl] w fun e w' => e = .returned (.bool true) ∧ Below w.heap.size w w' := by
  have HST := Lib.hid hst
  clear hst
  cases hu : usableB V bills l.length
  · go_enter Tryz.func4, Tryz.ntmps4
    go_wp2_with fail
    refine name_calls (fun w0 hw0 => ?_)
    have b0 : Below w.heap.size w w0 := by rw [hw0]; exact (by repeat' (first | (with_reducible exact Below.refl _ _) | (with_reducible assumption) | (with_reducible refine below_drewN ?_ _) | (with_reducible refine Below.drew ?_) | (with_reducible refine below_regrown_up _ _ ?_ ?_) | (with_reducible refine Below.alloc ?_ ?_ _) | (with_reducible refine Below.setCell ?_ ?_ _) | (with_reducible refine below_up ?_ ?_ (by assumption)) | (with_reducible exact Nat.le_refl _) | omega | (simp; done) | (simp; omega)))
    have l0 : w.heap.size + 1 < w0.heap.size := by rw [hw0]; simp
    have HX : Hid (∀ W, Below w0.heap.size w0 W → ((W.cell? ⟨w.heap.size, 0, none⟩ = some (.int .i64 V.p) ∧ W.cell? ⟨w.heap.size, 1, none⟩ = some (.int .i64 V.d)) ∧ (W.cell? ⟨w.heap.size + 1, 0, none⟩ = some (.int .i64 V.k.fx) ∧ W.cell? ⟨w.heap.size + 1, 1, none⟩ = some (.int .i64 V.k.n) ∧ W.cell? ⟨w.heap.size + 1, 2, none⟩ = some (.int .i64 V.k.d) ∧ W.cell? ⟨w.heap.size + 1, 3, none⟩ = some (.int .i64 V.k.most)) ∧ w.heap.size < W.heap.size ∧ w.heap.size + 1 < W.heap.size)) := Lib.hid (fun W hb => by
      have e : ∀ b o, b < w0.heap.size → W.cell? ⟨b, o, none⟩ = w0.cell? ⟨b, o, none⟩ := fun b o h => hb.cell (p := ⟨b, o, none⟩) h
      have hz := hb.size
      refine ⟨⟨?_, ?_⟩, ⟨?_, ?_, ?_, ?_⟩, by omega, by omega⟩
      all_goals
        rw [e _ _ (by omega), hw0]
        go_simp)
    clear hw0
    refine (head33_any _).mono ?_
    rintro e w1 ⟨rfl, b1⟩
    have B1 : Below w.heap.size w w1 := below_up b0 b0.size b1
    obtain ⟨⟨y0, y1⟩, ⟨x0, x1, x2, x3⟩, ly, lx⟩ := HX.out w1 b1
    go_wp2_with fail
    refine (usable33_any V bills l.length A At Al c ct cl w1 (hs.up B1) (hts.up B1)).mono ?_
    rintro e w2 ⟨rfl, b2⟩
    rw [hu]
    have B2 := below_up B1 B1.size b2
    have e2 := below_up b1 b1.size b2
    clear x0 x1 x2 x3 y0 y1 ly lx
    go_wp2_with fail
    go_ret
    exact ⟨ret_bool (by simp), B2⟩
  · obtain ⟨f1, f2, f3, f4, f5, f6, f7⟩ := usableB_iff.1 hu
    have hok := usableB_run hu
    have hr : runR V bills l = ((runAll V bills l).1.es, (runAll V bills l).2, 0) := by unfold runR; rw [if_neg (by omega), hok]; rfl
    have hrl := run_len (V := V) (bills := bills) l
    obtain ⟨hV, hbo, _, _⟩ := runOk_iff.1 hok
    have hlr := left_run hV hbo l
    have hag := agree_run hok (l := l) (by omega)
    have hled := run_led hok (l := l) (by omega)
    obtain ⟨left, hleft⟩ : ∃ left, left = leftF bills l (runAll V bills l).2 := ⟨_, rfl⟩
    have hlen := leftF_len bills l (runAll V bills l).2
    rw [← hleft] at hlr hag hlen
    obtain ⟨x, er, hxe, hcase⟩ : ∃ x er, agreeR (runAll V bills l).1.es left V.ts V.p V.d = (x, er) ∧ ((x = false ∧ er = 3) ∨ (x = true ∧ er = 0)) := by
      rw [hag]
      split
      · exact ⟨_, _, rfl, .inl ⟨rfl, rfl⟩⟩
      · exact ⟨_, _, rfl, .inr ⟨rfl, rfl⟩⟩
    have hel := (ledOk_iff.1 hled).1
    clear hag hV hbo hok hled hleft f4 f5 f6 f7
    generalize (runAll V bills l).1.es = es at *
    generalize (runAll V bills l).2 = errs at *
    have HR := Lib.hid hr
    have HEL := Lib.hid hrl
    have HLE := Lib.hid hlr
    have HAG := Lib.hid hxe
    clear hr hrl hlr hxe
    go_enter Tryz.func4, Tryz.ntmps4
    go_wp2_with fail
    refine name_calls (fun w0 hw0 => ?_)
    have b0 : Below w.heap.size w w0 := by rw [hw0]; exact (by repeat' (first | (with_reducible exact Below.refl _ _) | (with_reducible assumption) | (with_reducible refine below_drewN ?_ _) | (with_reducible refine Below.drew ?_) | (with_reducible refine below_regrown_up _ _ ?_ ?_) | (with_reducible refine Below.alloc ?_ ?_ _) | (with_reducible refine Below.setCell ?_ ?_ _) | (with_reducible refine below_up ?_ ?_ (by assumption)) | (with_reducible exact Nat.le_refl _) | omega | (simp; done) | (simp; omega)))
    have l0 : w.heap.size + 1 < w0.heap.size := by rw [hw0]; simp
    have HX : Hid (∀ W, Below w0.heap.size w0 W → ((W.cell? ⟨w.heap.size, 0, none⟩ = some (.int .i64 V.p) ∧ W.cell? ⟨w.heap.size, 1, none⟩ = some (.int .i64 V.d)) ∧ (W.cell? ⟨w.heap.size + 1, 0, none⟩ = some (.int .i64 V.k.fx) ∧ W.cell? ⟨w.heap.size + 1, 1, none⟩ = some (.int .i64 V.k.n) ∧ W.cell? ⟨w.heap.size + 1, 2, none⟩ = some (.int .i64 V.k.d) ∧ W.cell? ⟨w.heap.size + 1, 3, none⟩ = some (.int .i64 V.k.most)) ∧ w.heap.size < W.heap.size ∧ w.heap.size + 1 < W.heap.size)) := Lib.hid (fun W hb => by
      have e : ∀ b o, b < w0.heap.size → W.cell? ⟨b, o, none⟩ = w0.cell? ⟨b, o, none⟩ := fun b o h => hb.cell (p := ⟨b, o, none⟩) h
      have hz := hb.size
      refine ⟨⟨?_, ?_⟩, ⟨?_, ?_, ?_, ?_⟩, by omega, by omega⟩
      all_goals
        rw [e _ _ (by omega), hw0]
        go_simp)
    clear hw0
    refine (head33_any _).mono ?_
    rintro e w1 ⟨rfl, b1⟩
    have B1 : Below w.heap.size w w1 := below_up b0 b0.size b1
    obtain ⟨⟨y0, y1⟩, ⟨x0, x1, x2, x3⟩, ly, lx⟩ := HX.out w1 b1
    go_wp2_with fail
    refine (usable33_any V bills l.length A At Al c ct cl w1 (hs.up B1) (hts.up B1)).mono ?_
    rintro e w2 ⟨rfl, b2⟩
    rw [hu]
    have B2 := below_up B1 B1.size b2
    have e2 := below_up b1 b1.size b2
    clear x0 x1 x2 x3 y0 y1 ly lx
    obtain ⟨⟨y0, y1⟩, ⟨x0, x1, x2, x3⟩, ly, lx⟩ := HX.out w2 e2
    go_wp2_with fail
    refine (run33_any (V := V) HR.out A At Al c ct cl w2 (hs.up B2) (hts.up B2) (hsl.up B2) (by omega) (by omega) (by omega) HEL.out HST.out).mono ?_
    rintro e w3 ⟨⟨A1, c1, A2, c2, rfl, s1, s2, hcap⟩, b3⟩
    rw [HLE.out] at s2 hcap ⊢
    have HCAP := Lib.hid hcap
    clear hcap
    have B3 := below_up B2 B2.size b3
    have e3 := below_up e2 e2.size b3
    clear x0 x1 x2 x3 y0 y1 ly lx
    obtain ⟨⟨y0, y1⟩, ⟨x0, x1, x2, x3⟩, ly, lx⟩ := HX.out w3 e3
    go_wp2_with fail
    refine (agree_any es left V.ts V.p V.d A1 A2 At c1 c2 ct w3 s1 s2 (hts.up B3) (by omega) (by unfold maxLen; omega) (by omega)).mono ?_
    rintro e w4 ⟨rfl, b4⟩
    rw [HAG.out]
    clear x0 x1 x2 x3 y0 y1 ly lx
    have B4 := below_up B3 B3.size b4
    rcases hcase with ⟨rfl, rfl⟩ | ⟨rfl, rfl⟩
    · go_wp2_with fail
      go_ret
      exact ⟨ret_bool (by simp), B4⟩
    · go_wp2_with fail
      go_ret
      exact ⟨ret_bool (by simp), B4⟩
end Go.Proofs.YtmlhoojcdidgkaaGreat
