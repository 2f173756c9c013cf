/-
  Package span: Union, Meet, Less, and those of the reference.
-/
import Derived.Test.YtphapnooonjnmaaSpW7
namespace Go.Proofs.Ytphapnooonjnmaa
set_option linter.unusedSimpArgs false
set_option linter.unusedVariables false
open Go.RowKit
open Go.Sort (grow size_grow)

set_option maxHeartbeats 1000000
set_option maxRecDepth 100000
theorem comb_bad (g : Nat) (a b : List Spn) (A B : Option Addr) (c d : Nat) (w : World) (ha : SlSpn w A a) (hb : SlSpn w B b) (hla : a.length ≤ 140737488355328) (hlb : b.length ≤ 140737488355328) (h : (setOk a && setOk b) = false) :
    Calls Try.prog 47 #[.slice A a.length c, .slice B b.length d, .func (.func g) #[] #[]] w fun e w' => e = .returned (.tuple #[.slice none 0 0, .int .i64 1]) ∧ Below w.heap.size w w' := by
  have hB0 : Below w.heap.size w (w.alloc (.cells #[.func (.func g) #[] #[]] 67)) := (Below.refl _ _).alloc (Nat.le_refl _) _
  cases hva : setOk a <;> cases hvb : setOk b
  case true.true => rw [hva, hvb] at h; cases h
  all_goals
    clear h
    have HS1 : Hid True := Lib.hid trivial
    go_enter Try.func47, Try.ntmps47
    go_wp2_with (first | (have _ := HS1; clear HS1; go_at_call 43; refine (valid_any a A c _ (ha.up (by repeat' (first | (with_reducible exact Below.refl _ _) | (with_reducible assumption) | (with_reducible refine below_drewN ?_ _) | (with_reducible refine Below.drew ?_) | (with_reducible refine below_regrown_up _ _ ?_ ?_) | (with_reducible refine Below.alloc ?_ ?_ _) | (with_reducible refine Below.setCell ?_ ?_ _) | (with_reducible refine below_up ?_ ?_ (by assumption)) | (with_reducible exact Nat.le_refl _) | omega | (simp; done) | (simp; omega)))) hla).mono ?_; rintro e w1 ⟨rfl, hb1⟩; have hz1 := hb1.size; (try simp only [World.size_alloc, World.size_setCell, World.size_drew, size_drewN', size_grow, size_redrawn] at hz1); obtain ⟨hc1, hf1⟩ := bcellB (B := w.heap.size + 1) hb1 (by first | omega | (simp only [World.size_alloc, World.size_setCell, World.size_drew, size_drewN', size_grow, size_redrawn]; omega)); rw [hva]) | (go_at_call 43; refine (valid_any b B d _ (hb.up (below_up hB0 (by simp) hb1)) hlb).mono ?_; rintro e w2 ⟨rfl, hb2⟩; have hz2 := hb2.size; (try simp only [World.size_alloc, World.size_setCell, World.size_drew, size_drewN', size_grow, size_redrawn] at hz2); obtain ⟨hc2, hf2⟩ := bcellB (B := w.heap.size + 1) hb2 (by first | omega | (simp only [World.size_alloc, World.size_setCell, World.size_drew, size_drewN', size_grow, size_redrawn]; omega)); rw [hvb]))
    refine bodyPost_ret (v := .tuple #[.slice none 0 0, .int .i64 1]) ?_ rfl ⟨rfl, ?_⟩
    · simp [results, Try.results47, go_sem]
    · repeat' (first
        | (with_reducible exact Below.refl _ _)
        | (with_reducible assumption)
        | (with_reducible refine below_drewN ?_ _)
        | (with_reducible refine Below.drew ?_)
        | (with_reducible refine below_regrown_up _ _ ?_ ?_)
        | (with_reducible refine Below.alloc ?_ ?_ _)
        | (with_reducible refine Below.setCell ?_ ?_ _)
        | (with_reducible refine below_up ?_ ?_ (by assumption))
        | (with_reducible exact Nat.le_refl _)
        | omega
        | (simp; done)
        | (simp; omega))
/-- What the three hand back. -/
def CombR (f : Bool → Bool → Bool) (a b : List Spn) (e : Ending) (w' : World) : Prop :=
  if (setOk a && setOk b) = true then ∃ r A' c', e = .returned (.tuple #[.slice A' r.length c', .int .i64 0]) ∧ SlSpn w' A' r ∧ IsComb f a b r ∧ r.length ≤ 2 * (a.length + b.length)
  else e = .returned (.tuple #[.slice none 0 0, .int .i64 1])
theorem union_any (a b : List Spn) (A B : Option Addr) (c d : Nat) (w : World) (ha : SlSpn w A a) (hb : SlSpn w B b) (hla : a.length ≤ 140737488355328) (hlb : b.length ≤ 140737488355328) (hlen : setOk a = true → setOk b = true → 2 * (a.length + b.length) ≤ 1000) :
    Calls Try.prog 35 #[.slice A a.length c, .slice B b.length d] w fun e w' => CombR fU a b e w' ∧ Below w.heap.size w w' := by
  cases hv : (setOk a && setOk b)
  · have HR : Hid (∀ e w', CombR fU a b e w' = (e = .returned (.tuple #[.slice none 0 0, .int .i64 1]))) := Lib.hid fun e w' => by unfold CombR; rw [hv]; simp
    go_enter Try.func35, Try.ntmps35
    go_wp2_with (go_at_call 47; refine (comb_bad _ a b A B c d _ ha hb hla hlb hv).mono ?_; rintro e w1 ⟨rfl, hb1⟩)
    go_ret2
    rw [HR.out]
    exact ⟨rfl, hb1⟩
  · have HR : Hid (∀ e w', CombR fU a b e w' = ∃ r A' c', e = .returned (.tuple #[.slice A' r.length c', .int .i64 0]) ∧ SlSpn w' A' r ∧ IsComb fU a b r ∧ r.length ≤ 2 * (a.length + b.length)) := Lib.hid fun e w' => by unfold CombR; rw [if_pos hv]
    obtain ⟨hva, hvb⟩ : setOk a = true ∧ setOk b = true := by simpa using hv
    go_enter Try.func35, Try.ntmps35
    go_wp2_with (go_at_call 47; refine (comb_u a b A B c d _ ha hb hva hvb (hlen hva hvb)).mono ?_; rintro e w1 ⟨⟨r, A', c', rfl, hsr, hcr, hlr⟩, hb1⟩)
    go_ret2
    rw [HR.out]
    exact ⟨⟨r, A', c', rfl, hsr, hcr, hlr⟩, hb1⟩
theorem meet_any (a b : List Spn) (A B : Option Addr) (c d : Nat) (w : World) (ha : SlSpn w A a) (hb : SlSpn w B b) (hla : a.length ≤ 140737488355328) (hlb : b.length ≤ 140737488355328) (hlen : setOk a = true → setOk b = true → 2 * (a.length + b.length) ≤ 1000) :
    Calls Try.prog 45 #[.slice A a.length c, .slice B b.length d] w fun e w' => CombR fM a b e w' ∧ Below w.heap.size w w' := by
  cases hv : (setOk a && setOk b)
  · have HR : Hid (∀ e w', CombR fM a b e w' = (e = .returned (.tuple #[.slice none 0 0, .int .i64 1]))) := Lib.hid fun e w' => by unfold CombR; rw [hv]; simp
    go_enter Try.func45, Try.ntmps45
    go_wp2_with (go_at_call 47; refine (comb_bad _ a b A B c d _ ha hb hla hlb hv).mono ?_; rintro e w1 ⟨rfl, hb1⟩)
    go_ret2
    rw [HR.out]
    exact ⟨rfl, hb1⟩
  · have HR : Hid (∀ e w', CombR fM a b e w' = ∃ r A' c', e = .returned (.tuple #[.slice A' r.length c', .int .i64 0]) ∧ SlSpn w' A' r ∧ IsComb fM a b r ∧ r.length ≤ 2 * (a.length + b.length)) := Lib.hid fun e w' => by unfold CombR; rw [if_pos hv]
    obtain ⟨hva, hvb⟩ : setOk a = true ∧ setOk b = true := by simpa using hv
    go_enter Try.func45, Try.ntmps45
    go_wp2_with (go_at_call 47; refine (comb_m a b A B c d _ ha hb hva hvb (hlen hva hvb)).mono ?_; rintro e w1 ⟨⟨r, A', c', rfl, hsr, hcr, hlr⟩, hb1⟩)
    go_ret2
    rw [HR.out]
    exact ⟨⟨r, A', c', rfl, hsr, hcr, hlr⟩, hb1⟩
theorem runion_any (a b : List Spn) (A B : Option Addr) (c d : Nat) (w : World) (ha : SlSpn w A a) (hb : SlSpn w B b) (hla : a.length ≤ 140737488355328) (hlb : b.length ≤ 140737488355328) (hlen : setOk a = true → setOk b = true → 2 * (a.length + b.length) ≤ 1000) :
    Calls Try.prog 36 #[.slice A a.length c, .slice B b.length d] w fun e w' => CombR fU a b e w' ∧ Below w.heap.size w w' := by
  cases hv : (setOk a && setOk b)
  · have HR : Hid (∀ e w', CombR fU a b e w' = (e = .returned (.tuple #[.slice none 0 0, .int .i64 1]))) := Lib.hid fun e w' => by unfold CombR; rw [hv]; simp
    go_enter Try.func36, Try.ntmps36
    go_wp2_with (go_at_call 49; refine (rcomb_bad a b A B c d 1 _ ha hb hla hlb hv).mono ?_; rintro e w1 ⟨rfl, hb1⟩)
    go_ret2
    rw [HR.out]
    exact ⟨rfl, hb1⟩
  · have HR : Hid (∀ e w', CombR fU a b e w' = ∃ r A' c', e = .returned (.tuple #[.slice A' r.length c', .int .i64 0]) ∧ SlSpn w' A' r ∧ IsComb fU a b r ∧ r.length ≤ 2 * (a.length + b.length)) := Lib.hid fun e w' => by unfold CombR; rw [if_pos hv]
    obtain ⟨hva, hvb⟩ : setOk a = true ∧ setOk b = true := by simpa using hv
    go_enter Try.func36, Try.ntmps36
    go_wp2_with (go_at_call 49; refine (rcomb_u a b A B c d _ ha hb hva hvb (hlen hva hvb)).mono ?_; rintro e w1 ⟨⟨r, A', c', rfl, hsr, hcr, hlr⟩, hb1⟩)
    go_ret2
    rw [HR.out]
    exact ⟨⟨r, A', c', rfl, hsr, hcr, hlr⟩, hb1⟩
end Go.Proofs.Ytphapnooonjnmaa
