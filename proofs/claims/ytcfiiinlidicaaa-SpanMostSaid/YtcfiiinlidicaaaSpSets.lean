/-
  The law 'SpanSets': the walk.
-/
import Derived.Test.YtcfiiinlidicaaaSpLaw
namespace Go.Proofs.Ytcfiiinlidicaaa
set_option linter.unusedSimpArgs false
set_option linter.unusedVariables false
open Go.RowKit
open Go.Sort (grow size_grow)

set_option maxHeartbeats 1000000
set_option maxRecDepth 100000
theorem union_ex (a b : List Spn) (A B : Option Addr) (c d : Nat) (w : World) (ha : SlSpn w A a) (hb : SlSpn w B b) (hva : setOk a = true) (hvb : setOk b = true) (hlen : 2 * (a.length + b.length) ≤ 1000) :
    Calls Try.prog 13 #[.slice A a.length c, .slice B b.length d] w fun e w' => (∃ r A' c', e = .returned (.tuple #[.slice A' r.length c', .int .i64 0]) ∧ SlSpn w' A' r ∧ IsComb fU a b r ∧ r.length ≤ 2 * (a.length + b.length)) ∧ Below w.heap.size w w' := by
  refine (union_any a b A B c d w ha hb (by omega) (by omega) (fun _ _ => hlen)).mono fun e w' ⟨h1, h2⟩ => ⟨?_, h2⟩
  unfold CombR at h1
  rw [hva, hvb, if_pos (by rfl)] at h1
  exact h1
theorem meet_ex (a b : List Spn) (A B : Option Addr) (c d : Nat) (w : World) (ha : SlSpn w A a) (hb : SlSpn w B b) (hva : setOk a = true) (hvb : setOk b = true) (hlen : 2 * (a.length + b.length) ≤ 1000) :
    Calls Try.prog 16 #[.slice A a.length c, .slice B b.length d] w fun e w' => (∃ r A' c', e = .returned (.tuple #[.slice A' r.length c', .int .i64 0]) ∧ SlSpn w' A' r ∧ IsComb fM a b r ∧ r.length ≤ 2 * (a.length + b.length)) ∧ Below w.heap.size w w' := by
  refine (meet_any a b A B c d w ha hb (by omega) (by omega) (fun _ _ => hlen)).mono fun e w' ⟨h1, h2⟩ => ⟨?_, h2⟩
  unfold CombR at h1
  rw [hva, hvb, if_pos (by rfl)] at h1
  exact h1
theorem less_ex (a b : List Spn) (A B : Option Addr) (c d : Nat) (w : World) (ha : SlSpn w A a) (hb : SlSpn w B b) (hva : setOk a = true) (hvb : setOk b = true) (hlen : 2 * (a.length + b.length) ≤ 1000) :
    Calls Try.prog 18 #[.slice A a.length c, .slice B b.length d] w fun e w' => (∃ r A' c', e = .returned (.tuple #[.slice A' r.length c', .int .i64 0]) ∧ SlSpn w' A' r ∧ IsComb fL a b r ∧ r.length ≤ 2 * (a.length + b.length)) ∧ Below w.heap.size w w' := by
  refine (less_any a b A B c d w ha hb (by omega) (by omega) (fun _ _ => hlen)).mono fun e w' ⟨h1, h2⟩ => ⟨?_, h2⟩
  unfold CombR at h1
  rw [hva, hvb, if_pos (by rfl)] at h1
  exact h1
theorem sets_no (a b : List Spn) (A B : Option Addr) (c d : Nat) (n : Int) (w : World) (ha : SlSpn w A a) (hb : SlSpn w B b) (hla : a.length ≤ 140737488355328) (hlb : b.length ≤ 140737488355328) (hu : use02 a b = false) :
    Calls Try.prog 4 #[.slice A a.length c, .slice B b.length d, .int .i64 n] w fun e w' => e = .returned (.bool true) ∧ Below w.heap.size w w' := by
  go_enter Try.func4, Try.ntmps4
  go_wp2_with fail
  refine (head02_any _).mono ?_
  rintro e w1 ⟨rfl, hb1⟩; have hz1 := hb1.size; (try simp only [World.size_alloc, World.size_setCell, World.size_drew, size_drewN', size_grow, size_redrawn] at hz1); obtain ⟨hc1, hf1⟩ := bcellB (B := w.heap.size) hb1 (by first | omega | (simp only [World.size_alloc, World.size_setCell, World.size_drew, size_drewN', size_grow, size_redrawn]; omega))
  go_wp2_with fail
  refine (usable_any a b A B c d _ (ha.up hb1) (hb.up hb1) hla hlb).mono ?_
  rintro e w2 ⟨rfl, hb2⟩; have hz2 := hb2.size; (try simp only [World.size_alloc, World.size_setCell, World.size_drew, size_drewN', size_grow, size_redrawn] at hz2); obtain ⟨hc2, hf2⟩ := bcellB (B := w.heap.size) hb2 (by first | omega | (simp only [World.size_alloc, World.size_setCell, World.size_drew, size_drewN', size_grow, size_redrawn]; omega))
  rw [hu]
  go_wp2_with fail
  go_ret
  exact ⟨ret_bool (by simp), below_up hb1 hz1 hb2⟩
theorem sets_yes (a b : List Spn) (A B : Option Addr) (c d : Nat) (n : Int) (w : World) (ha : SlSpn w A a) (hb : SlSpn w B b) (hu : use02 a b = true) :
    Calls Try.prog 4 #[.slice A a.length c, .slice B b.length d, .int .i64 n] w fun e w' => e = .returned (.bool true) ∧ Below w.heap.size w w' := by
  obtain ⟨h6, hva, hvb⟩ := use02_iff.1 hu
  have hla : a.length ≤ 140737488355328 := by omega
  have hlb : b.length ≤ 140737488355328 := by omega
  have hlen : 2 * (a.length + b.length) ≤ 1000 := by omega
  go_enter Try.func4, Try.ntmps4
  go_wp2_with fail
  refine (head02_any _).mono ?_
  rintro e w1 ⟨rfl, B1⟩
  go_wp2_with fail
  refine (usable_any a b A B c d _ (ha.up B1) (hb.up B1) hla hlb).mono ?_
  rintro e w2 ⟨rfl, b2⟩
  rw [hu]
  have B2 := below_up B1 B1.size b2
  go_wp2_with fail
  refine (union_ex a b A B c d _ (ha.up B2) (hb.up B2) hva hvb hlen).mono ?_
  rintro e w3 ⟨⟨x, A3, c3, rfl, s3, hx, lx⟩, b3⟩
  have B3 := below_up B2 B2.size b3
  go_wp2_with fail
  refine (meet_ex a b A B c d _ (ha.up B3) (hb.up B3) hva hvb hlen).mono ?_
  rintro e w4 ⟨⟨y, A4, c4, rfl, s4, hy, ly⟩, b4⟩
  have B4 := below_up B3 B3.size b4
  go_wp2_with fail
  refine (less_ex a b A B c d _ (ha.up B4) (hb.up B4) hva hvb hlen).mono ?_
  rintro e w5 ⟨⟨z, A5, c5, rfl, s5, hz, lz⟩, b5⟩
  have B5 := below_up B4 B4.size b5
  have vx := comb_set hx (by omega)
  have vy := comb_set hy (by omega)
  have vz := comb_set hz (by omega)
  have s35 := (s3.up b4).up b5
  have s45 := s4.up b5
  have ex := hx.2.2 n
  have ey := hy.2.2 n
  have ez := hz.2.2 n
  go_wp2_with fail
  refine (valid_any x A3 c3 _ s35 (by omega)).mono ?_
  rintro e w6 ⟨rfl, b6⟩
  rw [vx]
  have B6 := below_up B5 B5.size b6
  go_wp2_with fail
  refine (valid_any y A4 c4 _ (s45.up b6) (by omega)).mono ?_
  rintro e w7 ⟨rfl, b7⟩
  rw [vy]
  have B7 := below_up B6 B6.size b7
  go_wp2_with fail
  refine (valid_any z A5 c5 _ ((s5.up b6).up b7) (by omega)).mono ?_
  rintro e w8 ⟨rfl, b8⟩
  rw [vz]
  have B8 := below_up B7 B7.size b8
  have b58 : Below w5.heap.size w5 w8 := below_up (below_up b6 b6.size b7) (by have := b6.size; have := b7.size; omega) b8
  have hlx : x.length ≤ 140737488355328 := by omega
  have hly : y.length ≤ 140737488355328 := by omega
  have hlz : z.length ≤ 140737488355328 := by omega
  have HX := Lib.hid ex
  have HY := Lib.hid ey
  have HZ := Lib.hid ez
  clear ex ey ez
  cases hp : has a n <;> cases hq : has b n
  all_goals
    rw [hp, hq] at HX HY HZ
    go_wp2_with fail
    refine (has_any a _ _ n _ (ha.up B8) hla).mono ?_
    rintro e w9 ⟨rfl, b9⟩
    have B9 := below_up B8 B8.size b9
    rw [hp]
    go_wp2_with fail
    refine (has_any b _ _ n _ (hb.up B9) hlb).mono ?_
    rintro e w10 ⟨rfl, b10⟩
    have B10 := below_up B9 B9.size b10
    rw [hq]
    have b510 : Below w5.heap.size w5 w10 := below_up (below_up b58 b58.size b9) (by have := b58.size; have := b9.size; omega) b10
    go_wp2_with fail
    refine (has_any x _ _ n _ (s35.up b510) hlx).mono ?_
    rintro e w11 ⟨rfl, b11⟩
    have B11 := below_up B10 B10.size b11
    rw [HX.out]
    simp only [fU, Bool.or_false, Bool.or_true, Bool.false_or, Bool.true_or]
    have b511 := below_up b510 b510.size b11
    go_wp2_with fail
    refine (has_any y _ _ n _ (s45.up b511) hly).mono ?_
    rintro e w12 ⟨rfl, b12⟩
    have B12 := below_up B11 B11.size b12
    rw [HY.out]
    simp only [fM, Bool.and_false, Bool.and_true, Bool.false_and, Bool.true_and]
    have b512 := below_up b511 b511.size b12
    go_wp2_with fail
    refine (has_any z _ _ n _ (s5.up b512) hlz).mono ?_
    rintro e w13 ⟨rfl, b13⟩
    have B13 := below_up B12 B12.size b13
    rw [HZ.out]
    simp only [fL, Bool.not_false, Bool.not_true, Bool.and_false, Bool.and_true, Bool.false_and, Bool.true_and]
    go_wp2_with fail
    go_ret
    exact ⟨ret_bool (by simp), B13⟩
theorem law_sets (a b : List Spn) (A B : Option Addr) (c d : Nat) (n : Int) (w : World) (ha : SlSpn w A a) (hb : SlSpn w B b) (hla : a.length ≤ 140737488355328) (hlb : b.length ≤ 140737488355328) :
    Calls Try.prog 4 #[.slice A a.length c, .slice B b.length d, .int .i64 n] w fun e w' => e = .returned (.bool true) ∧ Below w.heap.size w w' := by
  cases hu : use02 a b
  · exact sets_no a b A B c d n w ha hb hla hlb hu
  · exact sets_yes a b A B c d n w ha hb hu
end Go.Proofs.Ytcfiiinlidicaaa
