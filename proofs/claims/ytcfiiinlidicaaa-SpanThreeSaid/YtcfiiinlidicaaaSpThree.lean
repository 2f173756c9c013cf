/-
  The law 'SpanThree': the walk.
-/
import Derived.Test.YtcfiiinlidicaaaSpSets
namespace Go.Proofs.Ytcfiiinlidicaaa
set_option linter.unusedSimpArgs false
set_option linter.unusedVariables false
open Go.RowKit
open Go.Sort (grow size_grow)

set_option maxHeartbeats 1000000
set_option maxRecDepth 100000
theorem three_yes (a b c : List Spn) (A B C : Option Addr) (ca cb cc : Nat) (w : World) (ha : SlSpn w A a) (hb : SlSpn w B b) (hc : SlSpn w C c) (hu : use02 a b = true) (hu2 : use02 b c = true) (h60 : a.length + b.length + c.length ≤ 60) :
    Calls Try.prog 7 #[.slice A a.length ca, .slice B b.length cb, .slice C c.length cc] w fun e w' => e = .returned (.bool true) ∧ Below w.heap.size w w' := by
  obtain ⟨h6, hva, hvb⟩ := use02_iff.1 hu
  obtain ⟨_, _, hvc⟩ := use02_iff.1 hu2
  have hla : a.length ≤ 140737488355328 := by omega
  have hlb : b.length ≤ 140737488355328 := by omega
  have hlc : c.length ≤ 140737488355328 := by omega
  have k1 : IntKind.i64.wrap ((a.length : Int) + (b.length : Int)) = (a.length : Int) + (b.length : Int) := IntWalk.i64_in _ (by omega)
  have k2 : IntKind.i64.wrap ((a.length : Int) + (b.length : Int) + (c.length : Int)) = (a.length : Int) + (b.length : Int) + (c.length : Int) := IntWalk.i64_in _ (by omega)
  have h60' : decide ((60 : Int) < (a.length : Int) + (b.length : Int) + (c.length : Int)) = false := by simp; omega
  go_enter Try.func7, Try.ntmps7
  go_wp2_with fail
  refine (head02_any _).mono ?_
  rintro e w1 ⟨rfl, B1⟩
  go_wp2_with fail
  refine (usable_any a b A B ca cb _ (ha.up B1) (hb.up B1) hla hlb).mono ?_
  rintro e w2 ⟨rfl, b2⟩
  rw [hu]
  have B2 := below_up B1 B1.size b2
  go_wp2_with fail
  refine (usable_any b c B C cb cc _ (hb.up B2) (hc.up B2) hlb hlc).mono ?_
  rintro e w3 ⟨rfl, b3⟩
  rw [hu2]
  have B3 := below_up B2 B2.size b3
  go_wp2_with fail
  refine (union_ex b c B C cb cc _ (hb.up B3) (hc.up B3) hvb hvc (by omega)).mono ?_
  rintro e w4 ⟨⟨u, A4, c4, rfl, s4, hu', lu⟩, b4⟩
  have B4 := below_up B3 B3.size b4
  have vu := comb_set hu' (by omega)
  go_wp2_with fail
  refine (meet_ex a u A A4 ca c4 _ (ha.up B4) s4 hva vu (by omega)).mono ?_
  rintro e w5 ⟨⟨x, A5, c5, rfl, s5, hx, lx⟩, b5⟩
  have B5 := below_up B4 B4.size b5
  go_wp2_with fail
  refine (meet_ex a b A B ca cb _ (ha.up B5) (hb.up B5) hva hvb (by omega)).mono ?_
  rintro e w6 ⟨⟨y, A6, c6, rfl, s6, hy, ly⟩, b6⟩
  have B6 := below_up B5 B5.size b6
  have vy := comb_set hy (by omega)
  go_wp2_with fail
  refine (meet_ex a c A C ca cc _ (ha.up B6) (hc.up B6) hva hvc (by omega)).mono ?_
  rintro e w7 ⟨⟨z, A7, c7, rfl, s7, hz, lz⟩, b7⟩
  have B7 := below_up B6 B6.size b7
  have vz := comb_set hz (by omega)
  go_wp2_with fail
  refine (union_ex y z A6 A7 c6 c7 _ (s6.up b7) s7 vy vz (by omega)).mono ?_
  rintro e w8 ⟨⟨v, A8, c8, rfl, s8, hv, lv⟩, b8⟩
  have B8 := below_up B7 B7.size b8
  have k58 : Below w5.heap.size w5 w8 := below_up (below_up b6 b6.size b7) (by have := b6.size; have := b7.size; omega) b8
  have k48 : Below w4.heap.size w4 w8 := below_up b5 b5.size k58
  go_wp2_with fail
  refine (less_ex a u A A4 ca c4 _ (ha.up B8) (s4.up k48) hva vu (by omega)).mono ?_
  rintro e w9 ⟨⟨p, A9, c9, rfl, s9, hp, lp⟩, b9⟩
  have B9 := below_up B8 B8.size b9
  go_wp2_with fail
  refine (less_ex a b A B ca cb _ (ha.up B9) (hb.up B9) hva hvb (by omega)).mono ?_
  rintro e w10 ⟨⟨q, A10, c10, rfl, s10, hq, lq⟩, b10⟩
  have B10 := below_up B9 B9.size b10
  have vq := comb_set hq (by omega)
  go_wp2_with fail
  refine (less_ex q c A10 C c10 cc _ s10 (hc.up B10) vq hvc (by omega)).mono ?_
  rintro e w11 ⟨⟨s, A11, c11, rfl, s11, hs, ls⟩, b11⟩
  have B11 := below_up B10 B10.size b11
  obtain rfl := three_meet hu' hx hy hz hv
  obtain rfl := three_less hu' hp hq hs
  have k911 : Below w9.heap.size w9 w11 := below_up b10 b10.size b11
  have k811 : Below w8.heap.size w8 w11 := below_up b9 b9.size k911
  have k511 : Below w5.heap.size w5 w11 := below_up k58 k58.size k811
  have lx' : x.length ≤ 140737488355328 := by omega
  have lp' : p.length ≤ 140737488355328 := by omega
  go_wp2_with fail
  refine (same_any x x _ _ _ _ _ (s5.up k511) (s8.up k811) lx' lx').mono ?_
  rintro e w12 ⟨rfl, b12⟩
  rw [decide_eq_true rfl]
  have B12 := below_up B11 B11.size b12
  go_wp2_with fail
  refine (same_any p p _ _ _ _ _ ((s9.up k911).up b12) (s11.up b12) lp' lp').mono ?_
  rintro e w13 ⟨rfl, b13⟩
  rw [decide_eq_true rfl]
  have B13 := below_up B12 B12.size b13
  go_wp2_with fail
  go_ret
  exact ⟨ret_bool (by simp), B13⟩
theorem three_no (a b c : List Spn) (A B C : Option Addr) (ca cb cc : Nat) (w : World) (ha : SlSpn w A a) (hb : SlSpn w B b) (hc : SlSpn w C c) (hla : a.length ≤ 140737488355328) (hlb : b.length ≤ 140737488355328) (hlc : c.length ≤ 140737488355328) (hu : ¬ (use02 a b = true ∧ use02 b c = true ∧ a.length + b.length + c.length ≤ 60)) :
    Calls Try.prog 7 #[.slice A a.length ca, .slice B b.length cb, .slice C c.length cc] w fun e w' => e = .returned (.bool true) ∧ Below w.heap.size w w' := by
  cases h1 : use02 a b
  · go_enter Try.func7, Try.ntmps7
    go_wp2_with fail
    refine (head02_any _).mono ?_
    rintro e w1 ⟨rfl, B1⟩
    go_wp2_with fail
    refine (usable_any a b A B ca cb _ (ha.up B1) (hb.up B1) hla hlb).mono ?_
    rintro e w2 ⟨rfl, b2⟩
    rw [h1]
    have B2 := below_up B1 B1.size b2
    go_wp2_with fail
    go_ret
    exact ⟨ret_bool (by simp), B2⟩
  · cases h2 : use02 b c
    · go_enter Try.func7, Try.ntmps7
      go_wp2_with fail
      refine (head02_any _).mono ?_
      rintro e w1 ⟨rfl, B1⟩
      go_wp2_with fail
      refine (usable_any a b A B ca cb _ (ha.up B1) (hb.up B1) hla hlb).mono ?_
      rintro e w2 ⟨rfl, b2⟩
      rw [h1]
      have B2 := below_up B1 B1.size b2
      go_wp2_with fail
      refine (usable_any b c B C cb cc _ (hb.up B2) (hc.up B2) hlb hlc).mono ?_
      rintro e w3 ⟨rfl, b3⟩
      rw [h2]
      have B3 := below_up B2 B2.size b3
      go_wp2_with fail
      go_ret
      exact ⟨ret_bool (by simp), B3⟩
    · have h3 : ¬ (a.length + b.length + c.length ≤ 60) := fun h => hu ⟨h1, h2, h⟩
      have k1 : IntKind.i64.wrap ((a.length : Int) + (b.length : Int)) = (a.length : Int) + (b.length : Int) := IntWalk.i64_in _ (by omega)
      have k2 : IntKind.i64.wrap ((a.length : Int) + (b.length : Int) + (c.length : Int)) = (a.length : Int) + (b.length : Int) + (c.length : Int) := IntWalk.i64_in _ (by omega)
      have h60' : decide ((60 : Int) < (a.length : Int) + (b.length : Int) + (c.length : Int)) = true := by simp; omega
      go_enter Try.func7, Try.ntmps7
      go_wp2_with fail
      refine (head02_any _).mono ?_
      rintro e w1 ⟨rfl, B1⟩
      go_wp2_with fail
      refine (usable_any a b A B ca cb _ (ha.up B1) (hb.up B1) hla hlb).mono ?_
      rintro e w2 ⟨rfl, b2⟩
      rw [h1]
      have B2 := below_up B1 B1.size b2
      go_wp2_with fail
      refine (usable_any b c B C cb cc _ (hb.up B2) (hc.up B2) hlb hlc).mono ?_
      rintro e w3 ⟨rfl, b3⟩
      rw [h2]
      have B3 := below_up B2 B2.size b3
      go_wp2_with fail
      go_ret
      exact ⟨ret_bool (by simp), B3⟩
theorem law_three (a b c : List Spn) (A B C : Option Addr) (ca cb cc : Nat) (w : World) (ha : SlSpn w A a) (hb : SlSpn w B b) (hc : SlSpn w C c) (hla : a.length ≤ 140737488355328) (hlb : b.length ≤ 140737488355328) (hlc : c.length ≤ 140737488355328) :
    Calls Try.prog 7 #[.slice A a.length ca, .slice B b.length cb, .slice C c.length cc] w fun e w' => e = .returned (.bool true) ∧ Below w.heap.size w w' := by
  by_cases hu : use02 a b = true ∧ use02 b c = true ∧ a.length + b.length + c.length ≤ 60
  · exact three_yes a b c A B C ca cb cc w ha hb hc hu.1 hu.2.1 hu.2.2
  · exact three_no a b c A B C ca cb cc w ha hb hc hla hlb hlc hu
end Go.Proofs.Ytcfiiinlidicaaa
