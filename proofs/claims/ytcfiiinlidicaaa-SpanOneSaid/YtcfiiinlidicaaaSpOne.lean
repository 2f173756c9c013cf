/-
  The law 'SpanOne': the walk.
-/
import Derived.Test.YtcfiiinlidicaaaSpSets
namespace Go.Proofs.Ytcfiiinlidicaaa
set_option linter.unusedSimpArgs false
set_option linter.unusedVariables false
open Go.RowKit
open Go.Sort (grow size_grow)

set_option maxHeartbeats 1000000
set_option maxRecDepth 100000
theorem spone_yes (a b : List Spn) (A B : Option Addr) (c d : Nat) (w : World) (ha : SlSpn w A a) (hb : SlSpn w B b) (hu : use02 a b = true) :
    Calls Try.prog 5 #[.slice A a.length c, .slice B b.length d] w fun e w' => e = .returned (.bool true) ∧ Below w.heap.size w w' := by
  obtain ⟨h6, hva, hvb⟩ := use02_iff.1 hu
  have hla : a.length ≤ 140737488355328 := by omega
  have hlb : b.length ≤ 140737488355328 := by omega
  have hlen : 2 * (a.length + b.length) ≤ 1000 := by omega
  have hlen2 : 2 * (b.length + a.length) ≤ 1000 := by omega
  have hlen3 : 2 * (a.length + a.length) ≤ 1000 := by omega
  go_enter Try.func5, Try.ntmps5
  go_wp2_with fail
  refine (head02_any _).mono ?_
  rintro e w1 ⟨rfl, B1⟩
  go_wp2_with fail
  refine (usable_any a b A B c d _ (ha.up B1) (hb.up B1) hla hlb).mono ?_
  rintro e w2 ⟨rfl, b2⟩
  rw [hu]
  have B2 := below_up B1 B1.size b2
  go_wp2_with fail
  refine (less_ex a b A B c d _ (ha.up B2) (hb.up B2) hva hvb hlen).mono ?_
  rintro e w3 ⟨⟨x, A3, c3, rfl, s3, hx, lx⟩, b3⟩
  have B3 := below_up B2 B2.size b3
  go_wp2_with fail
  refine (less_ex b a B A d c _ (hb.up B3) (ha.up B3) hvb hva hlen2).mono ?_
  rintro e w4 ⟨⟨y, A4, c4, rfl, s4, hy, ly⟩, b4⟩
  have B4 := below_up B3 B3.size b4
  go_wp2_with fail
  refine (union_ex a b A B c d _ (ha.up B4) (hb.up B4) hva hvb hlen).mono ?_
  rintro e w5 ⟨⟨p, A5, c5, rfl, s5, hp, lp⟩, b5⟩
  have B5 := below_up B4 B4.size b5
  go_wp2_with fail
  refine (union_ex b a B A d c _ (hb.up B5) (ha.up B5) hvb hva hlen2).mono ?_
  rintro e w6 ⟨⟨q, A6, c6, rfl, s6, hq, lq⟩, b6⟩
  have B6 := below_up B5 B5.size b6
  go_wp2_with fail
  refine (meet_ex a b A B c d _ (ha.up B6) (hb.up B6) hva hvb hlen).mono ?_
  rintro e w7 ⟨⟨s, A7, c7, rfl, s7, hs, ls⟩, b7⟩
  have B7 := below_up B6 B6.size b7
  go_wp2_with fail
  refine (meet_ex b a B A d c _ (hb.up B7) (ha.up B7) hvb hva hlen2).mono ?_
  rintro e w8 ⟨⟨t, A8, c8, rfl, s8, ht, lt⟩, b8⟩
  have B8 := below_up B7 B7.size b8
  go_wp2_with fail
  refine (union_ex a a A A c c _ (ha.up B8) (ha.up B8) hva hva hlen3).mono ?_
  rintro e w9 ⟨⟨u, A9, c9, rfl, s9, hu', lu⟩, b9⟩
  have B9 := below_up B8 B8.size b9
  go_wp2_with fail
  refine (meet_ex a a A A c c _ (ha.up B9) (ha.up B9) hva hva hlen3).mono ?_
  rintro e w10 ⟨⟨v, A10, c10, rfl, s10, hv, lv⟩, b10⟩
  have B10 := below_up B9 B9.size b10
  have hab := one_less (setOk_norm hva) (setOk_norm hvb) hx hy
  obtain rfl := one_union hp hq
  obtain rfl := one_meet hs ht
  obtain rfl := one_uu (setOk_norm hva) hu'
  obtain rfl := one_mm (setOk_norm hva) hv
  have hw : IntKind.i64.wrap ((x.length : Int) + (y.length : Int)) = (x.length : Int) + (y.length : Int) := IntWalk.i64_in _ (by omega)
  have hz : ((x.length : Int) + (y.length : Int) == 0) = decide (v = b) := by
    rw [Bool.eq_iff_iff, beq_iff_eq, decide_eq_true_eq, ← hab]
    omega
  go_wp2_with fail
  refine (same_any v b A B c d _ (ha.up B10) (hb.up B10) hla hlb).mono ?_
  rintro e w11 ⟨rfl, b11⟩
  rw [← hz]
  have B11 := below_up B10 B10.size b11
  have k67 : Below w6.heap.size w6 w11 := below_up (below_up (below_up (below_up b7 b7.size b8) (by have := b7.size; have := b8.size; omega) b9) (by have := b7.size; have := b8.size; have := b9.size; omega) b10) (by have := b7.size; have := b8.size; have := b9.size; have := b10.size; omega) b11
  have k5 : Below w5.heap.size w5 w11 := below_up b6 b6.size k67
  have k8 : Below w8.heap.size w8 w11 := below_up (below_up b9 b9.size b10) (by have := b9.size; have := b10.size; omega) b11
  have k7 : Below w7.heap.size w7 w11 := below_up b8 b8.size k8
  have k9 : Below w9.heap.size w9 w11 := below_up b10 b10.size b11
  have lp' : p.length ≤ 140737488355328 := by omega
  have ls' : s.length ≤ 140737488355328 := by omega
  go_wp2_with fail
  refine (same_any p p _ _ _ _ _ (s5.up k5) (s6.up k67) lp' lp').mono ?_
  rintro e w12 ⟨rfl, b12⟩
  rw [decide_eq_true rfl]
  have B12 := below_up B11 B11.size b12
  go_wp2_with fail
  refine (same_any s s _ _ _ _ _ ((s7.up k7).up b12) ((s8.up k8).up b12) ls' ls').mono ?_
  rintro e w13 ⟨rfl, b13⟩
  rw [decide_eq_true rfl]
  have B13 := below_up B12 B12.size b13
  go_wp2_with fail
  refine (same_any v v _ _ _ _ _ (((s9.up k9).up b12).up b13) (ha.up B13) hla hla).mono ?_
  rintro e w14 ⟨rfl, b14⟩
  rw [decide_eq_true rfl]
  have B14 := below_up B13 B13.size b14
  go_wp2_with fail
  refine (same_any v v _ _ _ _ _ ((((s10.up b11).up b12).up b13).up b14) (ha.up B14) hla hla).mono ?_
  rintro e w15 ⟨rfl, b15⟩
  rw [decide_eq_true rfl]
  have B15 := below_up B14 B14.size b15
  go_wp2_with fail
  go_ret
  exact ⟨ret_bool (by simp), B15⟩
theorem spone_no (a b : List Spn) (A B : Option Addr) (c d : Nat) (w : World) (ha : SlSpn w A a) (hb : SlSpn w B b) (hla : a.length ≤ 140737488355328) (hlb : b.length ≤ 140737488355328) (hu : use02 a b = false) :
    Calls Try.prog 5 #[.slice A a.length c, .slice B b.length d] w fun e w' => e = .returned (.bool true) ∧ Below w.heap.size w w' := by
  go_enter Try.func5, Try.ntmps5
  go_wp2_with fail
  refine (head02_any _).mono ?_
  rintro e w1 ⟨rfl, hb1⟩; have hz1 := hb1.size; (try simp only [World.size_alloc, World.size_setCell, World.size_drew, size_drewN', size_grow, size_redrawn] at hz1); obtain ⟨hc1, hf1⟩ := bcellB (B := w.heap.size) hb1 (by first | omega | (simp only [World.size_alloc, World.size_setCell, World.size_drew, size_drewN', size_grow, size_redrawn]; omega))
  go_wp2_with fail
  refine (usable_any a b A B c d _ (ha.up hb1) (hb.up hb1) hla hlb).mono ?_
  rintro e w2 ⟨rfl, hb2⟩; have hz2 := hb2.size; (try simp only [World.size_alloc, World.size_setCell, World.size_drew, size_drewN', size_grow, size_redrawn] at hz2); obtain ⟨hc2, hf2⟩ := bcellB (B := w.heap.size) hb2 (by first | omega | (simp only [World.size_alloc, World.size_setCell, World.size_drew, size_drewN', size_grow, size_redrawn]; omega))
  rw [hu]
  go_wp2_with fail
  go_ret
  exact ⟨ret_bool (by simp), below_up hb1 hz1 hb2⟩
theorem law_spone (a b : List Spn) (A B : Option Addr) (c d : Nat) (w : World) (ha : SlSpn w A a) (hb : SlSpn w B b) (hla : a.length ≤ 140737488355328) (hlb : b.length ≤ 140737488355328) :
    Calls Try.prog 5 #[.slice A a.length c, .slice B b.length d] w fun e w' => e = .returned (.bool true) ∧ Below w.heap.size w w' := by
  cases hu : use02 a b
  · exact spone_no a b A B c d w ha hb hla hlb hu
  · exact spone_yes a b A B c d w ha hb hu
end Go.Proofs.Ytcfiiinlidicaaa
