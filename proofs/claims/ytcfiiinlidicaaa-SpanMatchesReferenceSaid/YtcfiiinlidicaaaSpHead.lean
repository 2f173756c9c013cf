/-
  Package span: the examples.
-/
import Derived.Test.YtcfiiinlidicaaaSpW12
namespace Go.Proofs.Ytcfiiinlidicaaa
set_option linter.unusedSimpArgs false
set_option linter.unusedVariables false
open Go.RowKit
open Go.Sort (grow size_grow)

set_option maxHeartbeats 1000000
set_option maxRecDepth 100000
theorem ex_u : IsComb fU [⟨1, 4⟩] [⟨4, 6⟩] [⟨1, 6⟩] := by
  refine ⟨⟨by simp, List.pairwise_singleton _ _⟩, by simp, fun n => ?_⟩
  rw [Bool.eq_iff_iff]
  simp [has, inS, fU]
  omega
theorem ex_m : IsComb fM [⟨1, 6⟩] [⟨3, 9⟩] [⟨3, 6⟩] := by
  refine ⟨⟨by simp, List.pairwise_singleton _ _⟩, by simp, fun n => ?_⟩
  rw [Bool.eq_iff_iff]
  simp [has, inS, fM]
  omega
theorem ex_l : IsComb fL [⟨1, 6⟩] [⟨3, 9⟩] [⟨1, 3⟩] := by
  refine ⟨⟨by simp, List.pairwise_singleton _ _⟩, by simp, fun n => ?_⟩
  rw [Bool.eq_iff_iff]
  simp [has, inS, fL]
  omega
theorem ex_most : IsMost [⟨1, 5⟩, ⟨3, 6⟩, ⟨4, 9⟩] 4 3 := by
  refine .inr ⟨by simp, by omega, by decide, fun n => ?_⟩
  rw [deep_cons, deep_cons, deep_cons]
  have e : deep [] n = 0 := rfl
  rw [e]
  simp only [inS_iff]
  (repeat' split) <;> omega
theorem union_lit {a b r : List Spn} (h : IsComb fU a b r) (A B : Option Addr) (c d : Nat) (w : World) (ha : SlSpn w A a) (hb : SlSpn w B b) (hva : setOk a = true) (hvb : setOk b = true) (hlen : 2 * (a.length + b.length) ≤ 1000) :
    Calls Try.prog 13 #[.slice A a.length c, .slice B b.length d] w fun e w' => (∃ A' c', e = .returned (.tuple #[.slice A' r.length c', .int .i64 0]) ∧ SlSpn w' A' r) ∧ Below w.heap.size w w' := by
  refine (union_any a b A B c d w ha hb (by omega) (by omega) (fun _ _ => hlen)).mono fun e w' ⟨h1, h2⟩ => ⟨?_, h2⟩
  unfold CombR at h1
  rw [hva, hvb, if_pos (by rfl)] at h1
  obtain ⟨r', A', c', e1, e2, e3, _⟩ := h1
  obtain rfl := e3.eq h
  exact ⟨A', c', e1, e2⟩
theorem meet_lit {a b r : List Spn} (h : IsComb fM a b r) (A B : Option Addr) (c d : Nat) (w : World) (ha : SlSpn w A a) (hb : SlSpn w B b) (hva : setOk a = true) (hvb : setOk b = true) (hlen : 2 * (a.length + b.length) ≤ 1000) :
    Calls Try.prog 16 #[.slice A a.length c, .slice B b.length d] w fun e w' => (∃ A' c', e = .returned (.tuple #[.slice A' r.length c', .int .i64 0]) ∧ SlSpn w' A' r) ∧ Below w.heap.size w w' := by
  refine (meet_any a b A B c d w ha hb (by omega) (by omega) (fun _ _ => hlen)).mono fun e w' ⟨h1, h2⟩ => ⟨?_, h2⟩
  unfold CombR at h1
  rw [hva, hvb, if_pos (by rfl)] at h1
  obtain ⟨r', A', c', e1, e2, e3, _⟩ := h1
  obtain rfl := e3.eq h
  exact ⟨A', c', e1, e2⟩
theorem less_lit {a b r : List Spn} (h : IsComb fL a b r) (A B : Option Addr) (c d : Nat) (w : World) (ha : SlSpn w A a) (hb : SlSpn w B b) (hva : setOk a = true) (hvb : setOk b = true) (hlen : 2 * (a.length + b.length) ≤ 1000) :
    Calls Try.prog 18 #[.slice A a.length c, .slice B b.length d] w fun e w' => (∃ A' c', e = .returned (.tuple #[.slice A' r.length c', .int .i64 0]) ∧ SlSpn w' A' r) ∧ Below w.heap.size w w' := by
  refine (less_any a b A B c d w ha hb (by omega) (by omega) (fun _ _ => hlen)).mono fun e w' ⟨h1, h2⟩ => ⟨?_, h2⟩
  unfold CombR at h1
  rw [hva, hvb, if_pos (by rfl)] at h1
  obtain ⟨r', A', c', e1, e2, e3, _⟩ := h1
  obtain rfl := e3.eq h
  exact ⟨A', c', e1, e2⟩
theorem one_any (x y : Int) (w : World) : Calls Try.prog 29 #[.int .i64 x, .int .i64 y] w fun e w' => (e = .returned (.slice (some ⟨w.heap.size, 0, none⟩) 1 1) ∧ SlSpn w' (some ⟨w.heap.size, 0, none⟩) [⟨x, y⟩]) ∧ Below w.heap.size w w' := by
  go_enter Try.func29, Try.ntmps29
  go_wp2
  go_ret
  exact ⟨⟨rfl, sl_of_box spn_len (fun o => World.cell?_alloc_new w _ _ o) (by simp) rfl⟩, (Below.refl _ _).alloc (Nat.le_refl _) _⟩
theorem head02_any (w : World) : Calls Try.prog 10 #[] w fun e w' => e = .returned (.bool true) ∧ Below w.heap.size w w' := by
  go_enter Try.func10, Try.ntmps10
  go_wp2_with fail
  refine (one_any 1 4 _).mono ?_
  rintro e w1 ⟨⟨rfl, s1⟩, b1⟩
  have B1 : Below w.heap.size w w1 := b1
  go_wp2_with fail
  refine (one_any 4 6 _).mono ?_
  rintro e w2 ⟨⟨rfl, s2⟩, b2⟩
  have B2 := below_up B1 B1.size b2
  go_wp2_with fail
  refine (union_lit ex_u _ _ 1 1 _ (s1.up b2) s2 (by decide) (by decide) (by decide)).mono ?_
  rintro e w3 ⟨⟨A3, c3, rfl, s3⟩, b3⟩
  have B3 := below_up B2 B2.size b3
  go_wp2_with fail
  refine (one_any 1 6 _).mono ?_
  rintro e w4 ⟨⟨rfl, s4⟩, b4⟩
  have B4 := below_up B3 B3.size b4
  go_wp2_with fail
  refine (one_any 3 9 _).mono ?_
  rintro e w5 ⟨⟨rfl, s5⟩, b5⟩
  have B5 := below_up B4 B4.size b5
  go_wp2_with fail
  refine (meet_lit ex_m _ _ 1 1 _ (s4.up b5) s5 (by decide) (by decide) (by decide)).mono ?_
  rintro e w6 ⟨⟨A6, c6, rfl, s6⟩, b6⟩
  have B6 := below_up B5 B5.size b6
  go_wp2_with fail
  refine (one_any 1 6 _).mono ?_
  rintro e w7 ⟨⟨rfl, s7⟩, b7⟩
  have B7 := below_up B6 B6.size b7
  go_wp2_with fail
  refine (one_any 3 9 _).mono ?_
  rintro e w8 ⟨⟨rfl, s8⟩, b8⟩
  have B8 := below_up B7 B7.size b8
  go_wp2_with fail
  refine (less_lit ex_l _ _ 1 1 _ (s7.up b8) s8 (by decide) (by decide) (by decide)).mono ?_
  rintro e w9 ⟨⟨A9, c9, rfl, s9⟩, b9⟩
  have B9 := below_up B8 B8.size b9
  go_wp2_with fail
  have sm : SlSpn (w9.alloc (.cells #[.int .i64 1, .int .i64 5, .int .i64 3, .int .i64 6, .int .i64 4, .int .i64 9] 42)) (some ⟨w9.heap.size, 0, none⟩) [⟨1, 5⟩, ⟨3, 6⟩, ⟨4, 9⟩] := sl_of_box spn_len (fun o => World.cell?_alloc_new w9 _ _ o) (by simp) rfl
  refine (most_any [⟨1, 5⟩, ⟨3, 6⟩, ⟨4, 9⟩] _ 3 _ sm (by decide) (by decide)).mono ?_
  rintro e w10 ⟨⟨a10, m10, rfl, h10⟩, b10⟩
  obtain ⟨rfl, rfl⟩ := h10.eq ex_most
  have b910 : Below w9.heap.size w9 w10 := below_up ((Below.refl _ _).alloc (Nat.le_refl _) _) (by simp) b10
  have B10 := below_up B9 B9.size b910
  go_wp2_with fail
  refine (wkday_any 10 _).mono ?_
  rw [show wkR 10 = (6, 0) by decide]
  rintro e w11 ⟨rfl, b11⟩
  have B11 := below_up B10 B10.size b11
  go_wp2_with fail
  refine (one_any 4 4 _).mono ?_
  rintro e w12 ⟨⟨rfl, s12⟩, b12⟩
  have B12 := below_up B11 B11.size b12
  go_wp2_with fail
  refine (count_any [⟨4, 4⟩] _ 1 _ s12 (by decide)).mono ?_
  rw [show cntR [⟨4, 4⟩] = (0, 1) by decide]
  rintro e w13 ⟨rfl, b13⟩
  have B13 := below_up B12 B12.size b13
  have c39 : Below w3.heap.size w3 w9 := below_up (below_up (below_up (below_up (below_up b4 b4.size b5) (by have := b4.size; have := b5.size; omega) b6) (by have := b4.size; have := b5.size; have := b6.size; omega) b7) (by have := b4.size; have := b5.size; have := b6.size; have := b7.size; omega) b8) (by have := b4.size; have := b5.size; have := b6.size; have := b7.size; have := b8.size; omega) b9
  have c69 : Below w6.heap.size w6 w9 := below_up (below_up b7 b7.size b8) (by have := b7.size; have := b8.size; omega) b9
  have c913 : Below w9.heap.size w9 w13 := below_up (below_up (below_up b910 b910.size b11) (by have := b910.size; have := b11.size; omega) b12) (by have := b910.size; have := b11.size; have := b12.size; omega) b13
  have t3 := s3.up (below_up c39 c39.size c913)
  have t6 := s6.up (below_up c69 c69.size c913)
  have t9 := s9.up c913
  go_wp2_with fail
  refine (one_any 1 6 _).mono ?_
  rintro e w14 ⟨⟨rfl, s14⟩, b14⟩
  have B14 := below_up B13 B13.size b14
  go_wp2_with fail
  refine (same_any [⟨1, 6⟩] [⟨1, 6⟩] _ _ _ 1 _ (t3.up b14) s14 (by decide) (by decide)).mono ?_
  rintro e w15 ⟨rfl, b15⟩
  rw [decide_eq_true rfl]
  have B15 := below_up B14 B14.size b15
  go_wp2_with fail
  refine (one_any 3 6 _).mono ?_
  rintro e w16 ⟨⟨rfl, s16⟩, b16⟩
  have B16 := below_up B15 B15.size b16
  go_wp2_with fail
  refine (same_any [⟨3, 6⟩] [⟨3, 6⟩] _ _ _ 1 _ (((t6.up b14).up b15).up b16) s16 (by decide) (by decide)).mono ?_
  rintro e w17 ⟨rfl, b17⟩
  rw [decide_eq_true rfl]
  have B17 := below_up B16 B16.size b17
  go_wp2_with fail
  refine (one_any 1 3 _).mono ?_
  rintro e w18 ⟨⟨rfl, s18⟩, b18⟩
  have B18 := below_up B17 B17.size b18
  go_wp2_with fail
  refine (same_any [⟨1, 3⟩] [⟨1, 3⟩] _ _ _ 1 _ (((((t9.up b14).up b15).up b16).up b17).up b18) s18 (by decide) (by decide)).mono ?_
  rintro e w19 ⟨rfl, b19⟩
  rw [decide_eq_true rfl]
  have B19 := below_up B18 B18.size b19
  go_wp2_with fail
  go_ret
  exact ⟨ret_bool (by simp), B19⟩
end Go.Proofs.Ytcfiiinlidicaaa
