/-
  The law 'SpanMatchesReference': the walk.
-/
import Derived.Test.YtcfiiinlidicaaaSpWeek
namespace Go.Proofs.Ytcfiiinlidicaaa
set_option linter.unusedSimpArgs false
set_option linter.unusedVariables false
open Go.RowKit
open Go.Sort (grow size_grow)

set_option maxHeartbeats 1000000
set_option maxRecDepth 100000
/-- What a combination hands back, told by the numbers alone. -/
def CombU (f : Bool → Bool → Bool) (a b r : List Spn) (er : Int) : Prop := if (setOk a && setOk b) = true then IsComb f a b r ∧ er = 0 else r = [] ∧ er = 1
theorem CombU.eq {f : Bool → Bool → Bool} {a b r r' : List Spn} {x x' : Int} (h : CombU f a b r x) (h' : CombU f a b r' x') : r' = r ∧ x' = x := by
  unfold CombU at h h'
  by_cases hv : (setOk a && setOk b) = true
  · rw [if_pos hv] at h h'
    exact ⟨h'.1.eq h.1, h'.2.trans h.2.symm⟩
  · rw [if_neg hv] at h h'
    exact ⟨h'.1.trans h.1.symm, h'.2.trans h.2.symm⟩
theorem union_u (a b : List Spn) (A B : Option Addr) (c d : Nat) (w : World) (ha : SlSpn w A a) (hb : SlSpn w B b) (hla : a.length ≤ 140737488355328) (hlb : b.length ≤ 140737488355328) (hlen : setOk a = true → setOk b = true → 2 * (a.length + b.length) ≤ 1000) :
    Calls Try.prog 13 #[.slice A a.length c, .slice B b.length d] w fun e w' => (∃ r A' c' er, e = .returned (.tuple #[.slice A' r.length c', .int .i64 er]) ∧ SlSpn w' A' r ∧ CombU fU a b r er ∧ r.length ≤ 140737488355328) ∧ Below w.heap.size w w' := by
  refine (union_any a b A B c d w ha hb hla hlb hlen).mono fun e w' ⟨h1, h2⟩ => ⟨?_, h2⟩
  unfold CombR at h1
  split at h1
  · rename_i hv
    obtain ⟨r, A', c', e1, e2, e3, e4⟩ := h1
    rw [Bool.and_eq_true] at hv
    have := hlen hv.1 hv.2
    refine ⟨r, A', c', 0, e1, e2, ?_, by omega⟩
    unfold CombU
    rw [hv.1, hv.2, if_pos (by rfl)]
    exact ⟨e3, rfl⟩
  · rename_i hv
    refine ⟨[], none, 0, 1, h1, fun h => absurd rfl h, ?_, by simp⟩
    unfold CombU
    rw [if_neg hv]
    exact ⟨rfl, rfl⟩
theorem meet_u (a b : List Spn) (A B : Option Addr) (c d : Nat) (w : World) (ha : SlSpn w A a) (hb : SlSpn w B b) (hla : a.length ≤ 140737488355328) (hlb : b.length ≤ 140737488355328) (hlen : setOk a = true → setOk b = true → 2 * (a.length + b.length) ≤ 1000) :
    Calls Try.prog 16 #[.slice A a.length c, .slice B b.length d] w fun e w' => (∃ r A' c' er, e = .returned (.tuple #[.slice A' r.length c', .int .i64 er]) ∧ SlSpn w' A' r ∧ CombU fM a b r er ∧ r.length ≤ 140737488355328) ∧ Below w.heap.size w w' := by
  refine (meet_any a b A B c d w ha hb hla hlb hlen).mono fun e w' ⟨h1, h2⟩ => ⟨?_, h2⟩
  unfold CombR at h1
  split at h1
  · rename_i hv
    obtain ⟨r, A', c', e1, e2, e3, e4⟩ := h1
    rw [Bool.and_eq_true] at hv
    have := hlen hv.1 hv.2
    refine ⟨r, A', c', 0, e1, e2, ?_, by omega⟩
    unfold CombU
    rw [hv.1, hv.2, if_pos (by rfl)]
    exact ⟨e3, rfl⟩
  · rename_i hv
    refine ⟨[], none, 0, 1, h1, fun h => absurd rfl h, ?_, by simp⟩
    unfold CombU
    rw [if_neg hv]
    exact ⟨rfl, rfl⟩
theorem less_u (a b : List Spn) (A B : Option Addr) (c d : Nat) (w : World) (ha : SlSpn w A a) (hb : SlSpn w B b) (hla : a.length ≤ 140737488355328) (hlb : b.length ≤ 140737488355328) (hlen : setOk a = true → setOk b = true → 2 * (a.length + b.length) ≤ 1000) :
    Calls Try.prog 18 #[.slice A a.length c, .slice B b.length d] w fun e w' => (∃ r A' c' er, e = .returned (.tuple #[.slice A' r.length c', .int .i64 er]) ∧ SlSpn w' A' r ∧ CombU fL a b r er ∧ r.length ≤ 140737488355328) ∧ Below w.heap.size w w' := by
  refine (less_any a b A B c d w ha hb hla hlb hlen).mono fun e w' ⟨h1, h2⟩ => ⟨?_, h2⟩
  unfold CombR at h1
  split at h1
  · rename_i hv
    obtain ⟨r, A', c', e1, e2, e3, e4⟩ := h1
    rw [Bool.and_eq_true] at hv
    have := hlen hv.1 hv.2
    refine ⟨r, A', c', 0, e1, e2, ?_, by omega⟩
    unfold CombU
    rw [hv.1, hv.2, if_pos (by rfl)]
    exact ⟨e3, rfl⟩
  · rename_i hv
    refine ⟨[], none, 0, 1, h1, fun h => absurd rfl h, ?_, by simp⟩
    unfold CombU
    rw [if_neg hv]
    exact ⟨rfl, rfl⟩
theorem runion_u (a b : List Spn) (A B : Option Addr) (c d : Nat) (w : World) (ha : SlSpn w A a) (hb : SlSpn w B b) (hla : a.length ≤ 140737488355328) (hlb : b.length ≤ 140737488355328) (hlen : setOk a = true → setOk b = true → 2 * (a.length + b.length) ≤ 1000) :
    Calls Try.prog 14 #[.slice A a.length c, .slice B b.length d] w fun e w' => (∃ r A' c' er, e = .returned (.tuple #[.slice A' r.length c', .int .i64 er]) ∧ SlSpn w' A' r ∧ CombU fU a b r er ∧ r.length ≤ 140737488355328) ∧ Below w.heap.size w w' := by
  refine (runion_any a b A B c d w ha hb hla hlb hlen).mono fun e w' ⟨h1, h2⟩ => ⟨?_, h2⟩
  unfold CombR at h1
  split at h1
  · rename_i hv
    obtain ⟨r, A', c', e1, e2, e3, e4⟩ := h1
    rw [Bool.and_eq_true] at hv
    have := hlen hv.1 hv.2
    refine ⟨r, A', c', 0, e1, e2, ?_, by omega⟩
    unfold CombU
    rw [hv.1, hv.2, if_pos (by rfl)]
    exact ⟨e3, rfl⟩
  · rename_i hv
    refine ⟨[], none, 0, 1, h1, fun h => absurd rfl h, ?_, by simp⟩
    unfold CombU
    rw [if_neg hv]
    exact ⟨rfl, rfl⟩
theorem rmeet_u (a b : List Spn) (A B : Option Addr) (c d : Nat) (w : World) (ha : SlSpn w A a) (hb : SlSpn w B b) (hla : a.length ≤ 140737488355328) (hlb : b.length ≤ 140737488355328) (hlen : setOk a = true → setOk b = true → 2 * (a.length + b.length) ≤ 1000) :
    Calls Try.prog 17 #[.slice A a.length c, .slice B b.length d] w fun e w' => (∃ r A' c' er, e = .returned (.tuple #[.slice A' r.length c', .int .i64 er]) ∧ SlSpn w' A' r ∧ CombU fM a b r er ∧ r.length ≤ 140737488355328) ∧ Below w.heap.size w w' := by
  refine (rmeet_any a b A B c d w ha hb hla hlb hlen).mono fun e w' ⟨h1, h2⟩ => ⟨?_, h2⟩
  unfold CombR at h1
  split at h1
  · rename_i hv
    obtain ⟨r, A', c', e1, e2, e3, e4⟩ := h1
    rw [Bool.and_eq_true] at hv
    have := hlen hv.1 hv.2
    refine ⟨r, A', c', 0, e1, e2, ?_, by omega⟩
    unfold CombU
    rw [hv.1, hv.2, if_pos (by rfl)]
    exact ⟨e3, rfl⟩
  · rename_i hv
    refine ⟨[], none, 0, 1, h1, fun h => absurd rfl h, ?_, by simp⟩
    unfold CombU
    rw [if_neg hv]
    exact ⟨rfl, rfl⟩
theorem rless_u (a b : List Spn) (A B : Option Addr) (c d : Nat) (w : World) (ha : SlSpn w A a) (hb : SlSpn w B b) (hla : a.length ≤ 140737488355328) (hlb : b.length ≤ 140737488355328) (hlen : setOk a = true → setOk b = true → 2 * (a.length + b.length) ≤ 1000) :
    Calls Try.prog 19 #[.slice A a.length c, .slice B b.length d] w fun e w' => (∃ r A' c' er, e = .returned (.tuple #[.slice A' r.length c', .int .i64 er]) ∧ SlSpn w' A' r ∧ CombU fL a b r er ∧ r.length ≤ 140737488355328) ∧ Below w.heap.size w w' := by
  refine (rless_any a b A B c d w ha hb hla hlb hlen).mono fun e w' ⟨h1, h2⟩ => ⟨?_, h2⟩
  unfold CombR at h1
  split at h1
  · rename_i hv
    obtain ⟨r, A', c', e1, e2, e3, e4⟩ := h1
    rw [Bool.and_eq_true] at hv
    have := hlen hv.1 hv.2
    refine ⟨r, A', c', 0, e1, e2, ?_, by omega⟩
    unfold CombU
    rw [hv.1, hv.2, if_pos (by rfl)]
    exact ⟨e3, rfl⟩
  · rename_i hv
    refine ⟨[], none, 0, 1, h1, fun h => absurd rfl h, ?_, by simp⟩
    unfold CombU
    rw [if_neg hv]
    exact ⟨rfl, rfl⟩
def MostU (l : List Spn) (a m er : Int) : Prop := if l.length ≤ 3000 ∧ l.all Spn.ok = true then IsMost l a m ∧ er = 0 else a = 0 ∧ m = 0 ∧ er = 1
theorem MostU.eq {l : List Spn} {a m x a' m' x' : Int} (h : MostU l a m x) (h' : MostU l a' m' x') : a' = a ∧ m' = m ∧ x' = x := by
  unfold MostU at h h'
  by_cases hv : l.length ≤ 3000 ∧ l.all Spn.ok = true
  · rw [if_pos hv] at h h'
    exact ⟨(h'.1.eq h.1).1, (h'.1.eq h.1).2, h'.2.trans h.2.symm⟩
  · rw [if_neg hv] at h h'
    exact ⟨h'.1.trans h.1.symm, h'.2.1.trans h.2.1.symm, h'.2.2.trans h.2.2.symm⟩
theorem most_u (l : List Spn) (A : Option Addr) (c : Nat) (w : World) (hs : SlSpn w A l) (hl0 : l.length ≤ 140737488355328) :
    Calls Try.prog 22 #[.slice A l.length c] w fun e w' => (∃ a m er : Int, e = .returned (.tuple #[.int .i64 a, .int .i64 m, .int .i64 er]) ∧ MostU l a m er) ∧ Below w.heap.size w w' := by
  by_cases h : l.length ≤ 3000 ∧ l.all Spn.ok = true
  · refine (most_any l A c w hs h.1 h.2).mono fun e w' ⟨⟨a, m, h1, h2⟩, h3⟩ => ⟨⟨a, m, 0, h1, ?_⟩, h3⟩
    unfold MostU
    rw [if_pos h]
    exact ⟨h2, rfl⟩
  · refine (most_bad l A c w hs hl0 h).mono fun e w' ⟨h1, h3⟩ => ⟨⟨0, 0, 1, h1, ?_⟩, h3⟩
    unfold MostU
    rw [if_neg h]
    exact ⟨rfl, rfl, rfl⟩
theorem rmost_u (l : List Spn) (A : Option Addr) (c : Nat) (w : World) (hs : SlSpn w A l) (hl0 : l.length ≤ 140737488355328) :
    Calls Try.prog 23 #[.slice A l.length c] w fun e w' => (∃ a m er : Int, e = .returned (.tuple #[.int .i64 a, .int .i64 m, .int .i64 er]) ∧ MostU l a m er) ∧ Below w.heap.size w w' := by
  by_cases h : l.length ≤ 3000 ∧ l.all Spn.ok = true
  · refine (rmost_any l A c w hs h.1 h.2).mono fun e w' ⟨⟨a, m, h1, h2⟩, h3⟩ => ⟨⟨a, m, 0, h1, ?_⟩, h3⟩
    unfold MostU
    rw [if_pos h]
    exact ⟨h2, rfl⟩
  · refine (rmost_bad l A c w hs hl0 h).mono fun e w' ⟨h1, h3⟩ => ⟨⟨0, 0, 1, h1, ?_⟩, h3⟩
    unfold MostU
    rw [if_neg h]
    exact ⟨rfl, rfl, rfl⟩
theorem matches_yes (a b : List Spn) (A B : Option Addr) (c d : Nat) (n : Int) (w : World) (ha : SlSpn w A a) (hb : SlSpn w B b) (hla : a.length ≤ 140737488355328) (hlb : b.length ≤ 140737488355328) (h1 : ¬ (60 < a.length ∧ a.length ≤ 1000)) (h2 : b.length ≤ 60) (h3 : ¬ (1200 < a.length ∧ a.length ≤ 3000)) :
    Calls Try.prog 3 #[.slice A a.length c, .slice B b.length d, .int .i64 n] w fun e w' => e = .returned (.bool true) ∧ Below w.heap.size w w' := by
  have hlen : setOk a = true → setOk b = true → 2 * (a.length + b.length) ≤ 1000 := fun h _ => by have := (setOk_iff.1 h).2.2; omega
  have HLEN := Lib.hid hlen
  clear hlen
  have g2 : decide ((60 : Int) < (b.length : Int)) = false := by simp; omega
  rcases (show a.length ≤ 60 ∨ (1000 < a.length ∧ a.length ≤ 1200) ∨ 3000 < a.length by omega) with hq | ⟨hq, hq'⟩ | hq
  all_goals
    go_enter Try.func3, Try.ntmps3
    go_wp2_with fail
    refine (head02_any _).mono ?_
    rintro e w1 ⟨rfl, B1⟩
    go_wp2_with fail
    refine (valid_any a A c _ (ha.up B1) hla).mono ?_
    rintro e w2 ⟨rfl, b2⟩
    have B2 := below_up B1 B1.size b2
    go_wp2_with fail
    refine (rvalid_any a A c _ (ha.up B2) hla).mono ?_
    rintro e w3 ⟨rfl, b3⟩
    have B3 := below_up B2 B2.size b3
    go_wp2_with fail
    refine (union_u a b A B c d _ (ha.up B3) (hb.up B3) hla hlb HLEN.out).mono ?_
    rintro e w4 ⟨⟨r4, A4, c4, e4, rfl, s4, u4, l4⟩, b4⟩
    have B4 := below_up B3 B3.size b4
    go_wp2_with fail
    refine (runion_u a b A B c d _ (ha.up B4) (hb.up B4) hla hlb HLEN.out).mono ?_
    rintro e w5 ⟨⟨r5, A5, c5, e5, rfl, s5, u5, l5⟩, b5⟩
    have B5 := below_up B4 B4.size b5
    obtain ⟨rfl, rfl⟩ := u4.eq u5
    go_wp2_with fail
    refine (same_any r5 r5 _ _ _ _ _ (s4.up b5) s5 l4 l4).mono ?_
    rintro e w6 ⟨rfl, b6⟩
    have B6 := below_up B5 B5.size b6
    rw [decide_eq_true rfl]
    go_wp2_with fail
    refine (meet_u a b A B c d _ (ha.up B6) (hb.up B6) hla hlb HLEN.out).mono ?_
    rintro e w7 ⟨⟨r7, A7, c7, e7, rfl, s7, u7, l7⟩, b7⟩
    have B7 := below_up B6 B6.size b7
    go_wp2_with fail
    refine (rmeet_u a b A B c d _ (ha.up B7) (hb.up B7) hla hlb HLEN.out).mono ?_
    rintro e w8 ⟨⟨r8, A8, c8, e8, rfl, s8, u8, l8⟩, b8⟩
    have B8 := below_up B7 B7.size b8
    obtain ⟨rfl, rfl⟩ := u7.eq u8
    go_wp2_with fail
    refine (same_any r8 r8 _ _ _ _ _ (s7.up b8) s8 l7 l7).mono ?_
    rintro e w9 ⟨rfl, b9⟩
    have B9 := below_up B8 B8.size b9
    rw [decide_eq_true rfl]
    go_wp2_with fail
    refine (less_u a b A B c d _ (ha.up B9) (hb.up B9) hla hlb HLEN.out).mono ?_
    rintro e w10 ⟨⟨r10, A10, c10, e10, rfl, s10, u10, l10⟩, b10⟩
    have B10 := below_up B9 B9.size b10
    go_wp2_with fail
    refine (rless_u a b A B c d _ (ha.up B10) (hb.up B10) hla hlb HLEN.out).mono ?_
    rintro e w11 ⟨⟨r11, A11, c11, e11, rfl, s11, u11, l11⟩, b11⟩
    have B11 := below_up B10 B10.size b11
    obtain ⟨rfl, rfl⟩ := u10.eq u11
    go_wp2_with fail
    refine (same_any r11 r11 _ _ _ _ _ (s10.up b11) s11 l10 l10).mono ?_
    rintro e w12 ⟨rfl, b12⟩
    have B12 := below_up B11 B11.size b12
    rw [decide_eq_true rfl]
    go_wp2_with fail
    refine (count_any a A c _ (ha.up B12) hla).mono ?_
    rintro e w13 ⟨rfl, b13⟩
    have B13 := below_up B12 B12.size b13
    go_wp2_with fail
    refine (rcount_any a A c _ (ha.up B13) hla).mono ?_
    rintro e w14 ⟨rfl, b14⟩
    have B14 := below_up B13 B13.size b14
    go_wp2_with fail
    refine (most_u a A c _ (ha.up B14) hla).mono ?_
    rintro e w15 ⟨⟨m15, k15, e15, rfl, u15⟩, b15⟩
    have B15 := below_up B14 B14.size b15
    go_wp2_with fail
    refine (rmost_u a A c _ (ha.up B15) hla).mono ?_
    rintro e w16 ⟨⟨m16, k16, e16, rfl, u16⟩, b16⟩
    have B16 := below_up B15 B15.size b16
    obtain ⟨rfl, rfl, rfl⟩ := u15.eq u16
    go_wp2_with fail
    refine (wkday_any n _).mono ?_
    rintro e w17 ⟨rfl, b17⟩
    have B17 := below_up B16 B16.size b17
    go_wp2_with fail
    refine (rwkday_any n _).mono ?_
    rintro e w18 ⟨rfl, b18⟩
    have B18 := below_up B17 B17.size b18
    go_wp2_with fail
    go_ret
    exact ⟨ret_bool (by simp), B18⟩
theorem matches_no (a b : List Spn) (A B : Option Addr) (c d : Nat) (n : Int) (w : World) (h : (60 < a.length ∧ a.length ≤ 1000) ∨ 60 < b.length ∨ (1200 < a.length ∧ a.length ≤ 3000)) :
    Calls Try.prog 3 #[.slice A a.length c, .slice B b.length d, .int .i64 n] w fun e w' => e = .returned (.bool true) ∧ Below w.heap.size w w' := by
  by_cases h1 : 60 < a.length ∧ a.length ≤ 1000
  · go_enter Try.func3, Try.ntmps3
    go_wp2_with fail
    refine (head02_any _).mono ?_
    rintro e w1 ⟨rfl, B1⟩
    go_wp2_with fail
    go_ret
    exact ⟨ret_bool (by simp), B1⟩
  · by_cases h2 : 60 < b.length
    · by_cases h4 : 60 < a.length
      all_goals
        go_enter Try.func3, Try.ntmps3
        go_wp2_with fail
        refine (head02_any _).mono ?_
        rintro e w1 ⟨rfl, B1⟩
        go_wp2_with fail
        go_ret
        exact ⟨ret_bool (by simp), B1⟩
    · have h3 : 1200 < a.length ∧ a.length ≤ 3000 := by omega
      go_enter Try.func3, Try.ntmps3
      go_wp2_with fail
      refine (head02_any _).mono ?_
      rintro e w1 ⟨rfl, B1⟩
      go_wp2_with fail
      go_ret
      exact ⟨ret_bool (by simp), B1⟩
theorem law_spmatches (a b : List Spn) (A B : Option Addr) (c d : Nat) (n : Int) (w : World) (ha : SlSpn w A a) (hb : SlSpn w B b) (hla : a.length ≤ 140737488355328) (hlb : b.length ≤ 140737488355328) :
    Calls Try.prog 3 #[.slice A a.length c, .slice B b.length d, .int .i64 n] w fun e w' => e = .returned (.bool true) ∧ Below w.heap.size w w' := by
  by_cases h : (60 < a.length ∧ a.length ≤ 1000) ∨ 60 < b.length ∨ (1200 < a.length ∧ a.length ≤ 3000)
  · exact matches_no a b A B c d n w h
  · exact matches_yes a b A B c d n w ha hb hla hlb (fun x => h (.inl x)) (by omega) (fun x => h (.inr (.inr x)))
end Go.Proofs.Ytcfiiinlidicaaa
