/-
  The law 'TaxExact': the walk.
-/
import Derived.Test.YtdbdjhgcmcbiaaaTaxArgs
namespace Go.Proofs.Ytdbdjhgcmcbiaaa
set_option linter.unusedSimpArgs false
set_option linter.unusedVariables false
open Go.RowKit Go.Maps
open Go.Sort (grow size_grow)

set_option maxHeartbeats 4000000
set_option maxRecDepth 100000

theorem ex1 (t : Tax) (b : Bill) (w : World) (h : one t b = (0, 1)) : Calls Try.prog 5 #[t.v, b.v] w fun e w' => e = .returned (.bool true) ∧ Below w.heap.size w w' := by
  go_enter Try.func5, Try.ntmps5
  go_wp2_with (first
    | (go_at_call 15; refine (head29_any _).mono ?_; rintro e w1 ⟨rfl, hb1⟩; have hz1 := hb1.size; (try simp only [World.size_alloc, World.size_setCell, World.size_drew, size_drewN', size_grow, size_redrawn] at hz1); obtain ⟨hc1, hf1⟩ := bcellB (B := w.heap.size + 1 + 1) hb1 (by first | omega | (simp only [World.size_alloc, World.size_setCell, World.size_drew, size_drewN', size_grow, size_redrawn]; omega)); have la11 : w.heap.size + 1 < w1.heap.size := (by omega); have lb11 : w.heap.size + 1 < w1.heap.size + 1 := (by omega); have lc11 : w.heap.size + 1 < w1.heap.size + 1 + 1 := (by omega); have ld11 : w.heap.size + 1 < w1.heap.size + 1 + 1 + 1 := (by omega); have le11 : w.heap.size + 1 < w1.heap.size + 1 + 1 + 1 + 1 := (by omega); have la10 : w.heap.size < w1.heap.size := (by omega); have lb10 : w.heap.size < w1.heap.size + 1 := (by omega); have lc10 : w.heap.size < w1.heap.size + 1 + 1 := (by omega); have ld10 : w.heap.size < w1.heap.size + 1 + 1 + 1 := (by omega); have le10 : w.heap.size < w1.heap.size + 1 + 1 + 1 + 1 := (by omega))
    | (go_at_call 18; refine (one_any' h _).mono ?_; rintro e w2 ⟨rfl, hb2⟩; have hz2 := hb2.size; (try simp only [World.size_alloc, World.size_setCell, World.size_drew, size_drewN', size_grow, size_redrawn] at hz2); obtain ⟨hc2, hf2⟩ := bcellB (B := w.heap.size + 1 + 1) hb2 (by first | omega | (simp only [World.size_alloc, World.size_setCell, World.size_drew, size_drewN', size_grow, size_redrawn]; omega)); have la21 : w.heap.size + 1 < w2.heap.size := (by omega); have lb21 : w.heap.size + 1 < w2.heap.size + 1 := (by omega); have lc21 : w.heap.size + 1 < w2.heap.size + 1 + 1 := (by omega); have ld21 : w.heap.size + 1 < w2.heap.size + 1 + 1 + 1 := (by omega); have le21 : w.heap.size + 1 < w2.heap.size + 1 + 1 + 1 + 1 := (by omega); have la20 : w.heap.size < w2.heap.size := (by omega); have lb20 : w.heap.size < w2.heap.size + 1 := (by omega); have lc20 : w.heap.size < w2.heap.size + 1 + 1 := (by omega); have ld20 : w.heap.size < w2.heap.size + 1 + 1 + 1 := (by omega); have le20 : w.heap.size < w2.heap.size + 1 + 1 + 1 + 1 := (by omega))
    | (go_at_call 23; refine (one_any' h _).mono ?_; rintro e w3 ⟨rfl, hb3⟩; have hz3 := hb3.size; (try simp only [World.size_alloc, World.size_setCell, World.size_drew, size_drewN', size_grow, size_redrawn] at hz3); obtain ⟨hc3, hf3⟩ := bcellB (B := w.heap.size + 1 + 1) hb3 (by first | omega | (simp only [World.size_alloc, World.size_setCell, World.size_drew, size_drewN', size_grow, size_redrawn]; omega)); skip))
  refine bodyPost_ret (v := .bool true) (by simp [results, Try.results5, go_sem]) rfl ⟨rfl, ?_⟩
  repeat' (first
    | (with_reducible exact Below.refl _ _)
    | (with_reducible assumption)
    | (with_reducible refine below_drewN ?_ _)
    | (with_reducible refine Below.drew ?_)
    | (with_reducible refine below_regrown_up _ _ ?_ ?_)
    | (with_reducible refine Below.alloc ?_ ?_ _)
    | (with_reducible refine Below.setCell ?_ ?_ _)
    | (with_reducible refine below_up ?_ ?_ (by assumption))
    | (with_reducible exact Nat.le_refl _)
    | omega
    | (simp; done)
    | (simp; omega))
theorem ex3 (t : Tax) (b : Bill) (w : World) (h : one t b = (0, 3)) : Calls Try.prog 5 #[t.v, b.v] w fun e w' => e = .returned (.bool true) ∧ Below w.heap.size w w' := by
  go_enter Try.func5, Try.ntmps5
  go_wp2_with (first
    | (go_at_call 15; refine (head29_any _).mono ?_; rintro e w1 ⟨rfl, hb1⟩; have hz1 := hb1.size; (try simp only [World.size_alloc, World.size_setCell, World.size_drew, size_drewN', size_grow, size_redrawn] at hz1); obtain ⟨hc1, hf1⟩ := bcellB (B := w.heap.size + 1 + 1) hb1 (by first | omega | (simp only [World.size_alloc, World.size_setCell, World.size_drew, size_drewN', size_grow, size_redrawn]; omega)); have la11 : w.heap.size + 1 < w1.heap.size := (by omega); have lb11 : w.heap.size + 1 < w1.heap.size + 1 := (by omega); have lc11 : w.heap.size + 1 < w1.heap.size + 1 + 1 := (by omega); have ld11 : w.heap.size + 1 < w1.heap.size + 1 + 1 + 1 := (by omega); have le11 : w.heap.size + 1 < w1.heap.size + 1 + 1 + 1 + 1 := (by omega); have la10 : w.heap.size < w1.heap.size := (by omega); have lb10 : w.heap.size < w1.heap.size + 1 := (by omega); have lc10 : w.heap.size < w1.heap.size + 1 + 1 := (by omega); have ld10 : w.heap.size < w1.heap.size + 1 + 1 + 1 := (by omega); have le10 : w.heap.size < w1.heap.size + 1 + 1 + 1 + 1 := (by omega))
    | (go_at_call 18; refine (one_any' h _).mono ?_; rintro e w2 ⟨rfl, hb2⟩; have hz2 := hb2.size; (try simp only [World.size_alloc, World.size_setCell, World.size_drew, size_drewN', size_grow, size_redrawn] at hz2); obtain ⟨hc2, hf2⟩ := bcellB (B := w.heap.size + 1 + 1) hb2 (by first | omega | (simp only [World.size_alloc, World.size_setCell, World.size_drew, size_drewN', size_grow, size_redrawn]; omega)); have la21 : w.heap.size + 1 < w2.heap.size := (by omega); have lb21 : w.heap.size + 1 < w2.heap.size + 1 := (by omega); have lc21 : w.heap.size + 1 < w2.heap.size + 1 + 1 := (by omega); have ld21 : w.heap.size + 1 < w2.heap.size + 1 + 1 + 1 := (by omega); have le21 : w.heap.size + 1 < w2.heap.size + 1 + 1 + 1 + 1 := (by omega); have la20 : w.heap.size < w2.heap.size := (by omega); have lb20 : w.heap.size < w2.heap.size + 1 := (by omega); have lc20 : w.heap.size < w2.heap.size + 1 + 1 := (by omega); have ld20 : w.heap.size < w2.heap.size + 1 + 1 + 1 := (by omega); have le20 : w.heap.size < w2.heap.size + 1 + 1 + 1 + 1 := (by omega))
    | (go_at_call 23; refine (one_any' h _).mono ?_; rintro e w3 ⟨rfl, hb3⟩; have hz3 := hb3.size; (try simp only [World.size_alloc, World.size_setCell, World.size_drew, size_drewN', size_grow, size_redrawn] at hz3); obtain ⟨hc3, hf3⟩ := bcellB (B := w.heap.size + 1 + 1) hb3 (by first | omega | (simp only [World.size_alloc, World.size_setCell, World.size_drew, size_drewN', size_grow, size_redrawn]; omega)); skip))
  refine bodyPost_ret (v := .bool true) (by simp [results, Try.results5, go_sem]) rfl ⟨rfl, ?_⟩
  repeat' (first
    | (with_reducible exact Below.refl _ _)
    | (with_reducible assumption)
    | (with_reducible refine below_drewN ?_ _)
    | (with_reducible refine Below.drew ?_)
    | (with_reducible refine below_regrown_up _ _ ?_ ?_)
    | (with_reducible refine Below.alloc ?_ ?_ _)
    | (with_reducible refine Below.setCell ?_ ?_ _)
    | (with_reducible refine below_up ?_ ?_ (by assumption))
    | (with_reducible exact Nat.le_refl _)
    | omega
    | (simp; done)
    | (simp; omega))
theorem exf1 (t : Tax) (b : Bill) (w : World) (h : one t b = (0, 0)) (hp' : (t.place != b.place) = true) (Hr : RowKit.Hid (t.round = 1)) : Calls Try.prog 5 #[t.v, b.v] w fun e w' => e = .returned (.bool true) ∧ Below w.heap.size w w' := by
  go_enter Try.func5, Try.ntmps5
  go_wp2_with (first
    | (go_at_call 15; refine (head29_any _).mono ?_; rintro e w1 ⟨rfl, hb1⟩; have hz1 := hb1.size; (try simp only [World.size_alloc, World.size_setCell, World.size_drew, size_drewN', size_grow, size_redrawn] at hz1); obtain ⟨hc1, hf1⟩ := bcellB (B := w.heap.size + 1 + 1) hb1 (by first | omega | (simp only [World.size_alloc, World.size_setCell, World.size_drew, size_drewN', size_grow, size_redrawn]; omega)); have la11 : w.heap.size + 1 < w1.heap.size := (by omega); have lb11 : w.heap.size + 1 < w1.heap.size + 1 := (by omega); have lc11 : w.heap.size + 1 < w1.heap.size + 1 + 1 := (by omega); have ld11 : w.heap.size + 1 < w1.heap.size + 1 + 1 + 1 := (by omega); have le11 : w.heap.size + 1 < w1.heap.size + 1 + 1 + 1 + 1 := (by omega); have la10 : w.heap.size < w1.heap.size := (by omega); have lb10 : w.heap.size < w1.heap.size + 1 := (by omega); have lc10 : w.heap.size < w1.heap.size + 1 + 1 := (by omega); have ld10 : w.heap.size < w1.heap.size + 1 + 1 + 1 := (by omega); have le10 : w.heap.size < w1.heap.size + 1 + 1 + 1 + 1 := (by omega))
    | (go_at_call 18; refine (one_any' h _).mono ?_; rintro e w2 ⟨rfl, hb2⟩; have hz2 := hb2.size; (try simp only [World.size_alloc, World.size_setCell, World.size_drew, size_drewN', size_grow, size_redrawn] at hz2); obtain ⟨hc2, hf2⟩ := bcellB (B := w.heap.size + 1 + 1) hb2 (by first | omega | (simp only [World.size_alloc, World.size_setCell, World.size_drew, size_drewN', size_grow, size_redrawn]; omega)); have la21 : w.heap.size + 1 < w2.heap.size := (by omega); have lb21 : w.heap.size + 1 < w2.heap.size + 1 := (by omega); have lc21 : w.heap.size + 1 < w2.heap.size + 1 + 1 := (by omega); have ld21 : w.heap.size + 1 < w2.heap.size + 1 + 1 + 1 := (by omega); have le21 : w.heap.size + 1 < w2.heap.size + 1 + 1 + 1 + 1 := (by omega); have la20 : w.heap.size < w2.heap.size := (by omega); have lb20 : w.heap.size < w2.heap.size + 1 := (by omega); have lc20 : w.heap.size < w2.heap.size + 1 + 1 := (by omega); have ld20 : w.heap.size < w2.heap.size + 1 + 1 + 1 := (by omega); have le20 : w.heap.size < w2.heap.size + 1 + 1 + 1 + 1 := (by omega))
    | (go_at_call 23; refine (rexact_far t b _ hp').mono ?_; rintro e w3 ⟨rfl, hb3⟩; have hz3 := hb3.size; (try simp only [World.size_alloc, World.size_setCell, World.size_drew, size_drewN', size_grow, size_redrawn] at hz3); obtain ⟨hc3, hf3⟩ := bcellB (B := w.heap.size + 1 + 1) hb3 (by first | omega | (simp only [World.size_alloc, World.size_setCell, World.size_drew, size_drewN', size_grow, size_redrawn]; omega)); have hr := Hr.out))
  refine bodyPost_ret (v := .bool true) (by simp [results, Try.results5, go_sem]) rfl ⟨rfl, ?_⟩
  repeat' (first
    | (with_reducible exact Below.refl _ _)
    | (with_reducible assumption)
    | (with_reducible refine below_drewN ?_ _)
    | (with_reducible refine Below.drew ?_)
    | (with_reducible refine below_regrown_up _ _ ?_ ?_)
    | (with_reducible refine Below.alloc ?_ ?_ _)
    | (with_reducible refine Below.setCell ?_ ?_ _)
    | (with_reducible refine below_up ?_ ?_ (by assumption))
    | (with_reducible exact Nat.le_refl _)
    | omega
    | (simp; done)
    | (simp; omega))
theorem exf2 (t : Tax) (b : Bill) (w : World) (h : one t b = (0, 0)) (hp' : (t.place != b.place) = true) (Hr : RowKit.Hid (t.round = 2)) : Calls Try.prog 5 #[t.v, b.v] w fun e w' => e = .returned (.bool true) ∧ Below w.heap.size w w' := by
  go_enter Try.func5, Try.ntmps5
  go_wp2_with (first
    | (go_at_call 15; refine (head29_any _).mono ?_; rintro e w1 ⟨rfl, hb1⟩; have hz1 := hb1.size; (try simp only [World.size_alloc, World.size_setCell, World.size_drew, size_drewN', size_grow, size_redrawn] at hz1); obtain ⟨hc1, hf1⟩ := bcellB (B := w.heap.size + 1 + 1) hb1 (by first | omega | (simp only [World.size_alloc, World.size_setCell, World.size_drew, size_drewN', size_grow, size_redrawn]; omega)); have la11 : w.heap.size + 1 < w1.heap.size := (by omega); have lb11 : w.heap.size + 1 < w1.heap.size + 1 := (by omega); have lc11 : w.heap.size + 1 < w1.heap.size + 1 + 1 := (by omega); have ld11 : w.heap.size + 1 < w1.heap.size + 1 + 1 + 1 := (by omega); have le11 : w.heap.size + 1 < w1.heap.size + 1 + 1 + 1 + 1 := (by omega); have la10 : w.heap.size < w1.heap.size := (by omega); have lb10 : w.heap.size < w1.heap.size + 1 := (by omega); have lc10 : w.heap.size < w1.heap.size + 1 + 1 := (by omega); have ld10 : w.heap.size < w1.heap.size + 1 + 1 + 1 := (by omega); have le10 : w.heap.size < w1.heap.size + 1 + 1 + 1 + 1 := (by omega))
    | (go_at_call 18; refine (one_any' h _).mono ?_; rintro e w2 ⟨rfl, hb2⟩; have hz2 := hb2.size; (try simp only [World.size_alloc, World.size_setCell, World.size_drew, size_drewN', size_grow, size_redrawn] at hz2); obtain ⟨hc2, hf2⟩ := bcellB (B := w.heap.size + 1 + 1) hb2 (by first | omega | (simp only [World.size_alloc, World.size_setCell, World.size_drew, size_drewN', size_grow, size_redrawn]; omega)); have la21 : w.heap.size + 1 < w2.heap.size := (by omega); have lb21 : w.heap.size + 1 < w2.heap.size + 1 := (by omega); have lc21 : w.heap.size + 1 < w2.heap.size + 1 + 1 := (by omega); have ld21 : w.heap.size + 1 < w2.heap.size + 1 + 1 + 1 := (by omega); have le21 : w.heap.size + 1 < w2.heap.size + 1 + 1 + 1 + 1 := (by omega); have la20 : w.heap.size < w2.heap.size := (by omega); have lb20 : w.heap.size < w2.heap.size + 1 := (by omega); have lc20 : w.heap.size < w2.heap.size + 1 + 1 := (by omega); have ld20 : w.heap.size < w2.heap.size + 1 + 1 + 1 := (by omega); have le20 : w.heap.size < w2.heap.size + 1 + 1 + 1 + 1 := (by omega))
    | (go_at_call 23; refine (rexact_far t b _ hp').mono ?_; rintro e w3 ⟨rfl, hb3⟩; have hz3 := hb3.size; (try simp only [World.size_alloc, World.size_setCell, World.size_drew, size_drewN', size_grow, size_redrawn] at hz3); obtain ⟨hc3, hf3⟩ := bcellB (B := w.heap.size + 1 + 1) hb3 (by first | omega | (simp only [World.size_alloc, World.size_setCell, World.size_drew, size_drewN', size_grow, size_redrawn]; omega)); have hr := Hr.out))
  refine bodyPost_ret (v := .bool true) (by simp [results, Try.results5, go_sem]) rfl ⟨rfl, ?_⟩
  repeat' (first
    | (with_reducible exact Below.refl _ _)
    | (with_reducible assumption)
    | (with_reducible refine below_drewN ?_ _)
    | (with_reducible refine Below.drew ?_)
    | (with_reducible refine below_regrown_up _ _ ?_ ?_)
    | (with_reducible refine Below.alloc ?_ ?_ _)
    | (with_reducible refine Below.setCell ?_ ?_ _)
    | (with_reducible refine below_up ?_ ?_ (by assumption))
    | (with_reducible exact Nat.le_refl _)
    | omega
    | (simp; done)
    | (simp; omega))
theorem exf3 (t : Tax) (b : Bill) (w : World) (h : one t b = (0, 0)) (hp' : (t.place != b.place) = true) (Hr : RowKit.Hid (t.round = 3)) : Calls Try.prog 5 #[t.v, b.v] w fun e w' => e = .returned (.bool true) ∧ Below w.heap.size w w' := by
  go_enter Try.func5, Try.ntmps5
  go_wp2_with (first
    | (go_at_call 15; refine (head29_any _).mono ?_; rintro e w1 ⟨rfl, hb1⟩; have hz1 := hb1.size; (try simp only [World.size_alloc, World.size_setCell, World.size_drew, size_drewN', size_grow, size_redrawn] at hz1); obtain ⟨hc1, hf1⟩ := bcellB (B := w.heap.size + 1 + 1) hb1 (by first | omega | (simp only [World.size_alloc, World.size_setCell, World.size_drew, size_drewN', size_grow, size_redrawn]; omega)); have la11 : w.heap.size + 1 < w1.heap.size := (by omega); have lb11 : w.heap.size + 1 < w1.heap.size + 1 := (by omega); have lc11 : w.heap.size + 1 < w1.heap.size + 1 + 1 := (by omega); have ld11 : w.heap.size + 1 < w1.heap.size + 1 + 1 + 1 := (by omega); have le11 : w.heap.size + 1 < w1.heap.size + 1 + 1 + 1 + 1 := (by omega); have la10 : w.heap.size < w1.heap.size := (by omega); have lb10 : w.heap.size < w1.heap.size + 1 := (by omega); have lc10 : w.heap.size < w1.heap.size + 1 + 1 := (by omega); have ld10 : w.heap.size < w1.heap.size + 1 + 1 + 1 := (by omega); have le10 : w.heap.size < w1.heap.size + 1 + 1 + 1 + 1 := (by omega))
    | (go_at_call 18; refine (one_any' h _).mono ?_; rintro e w2 ⟨rfl, hb2⟩; have hz2 := hb2.size; (try simp only [World.size_alloc, World.size_setCell, World.size_drew, size_drewN', size_grow, size_redrawn] at hz2); obtain ⟨hc2, hf2⟩ := bcellB (B := w.heap.size + 1 + 1) hb2 (by first | omega | (simp only [World.size_alloc, World.size_setCell, World.size_drew, size_drewN', size_grow, size_redrawn]; omega)); have la21 : w.heap.size + 1 < w2.heap.size := (by omega); have lb21 : w.heap.size + 1 < w2.heap.size + 1 := (by omega); have lc21 : w.heap.size + 1 < w2.heap.size + 1 + 1 := (by omega); have ld21 : w.heap.size + 1 < w2.heap.size + 1 + 1 + 1 := (by omega); have le21 : w.heap.size + 1 < w2.heap.size + 1 + 1 + 1 + 1 := (by omega); have la20 : w.heap.size < w2.heap.size := (by omega); have lb20 : w.heap.size < w2.heap.size + 1 := (by omega); have lc20 : w.heap.size < w2.heap.size + 1 + 1 := (by omega); have ld20 : w.heap.size < w2.heap.size + 1 + 1 + 1 := (by omega); have le20 : w.heap.size < w2.heap.size + 1 + 1 + 1 + 1 := (by omega))
    | (go_at_call 23; refine (rexact_far t b _ hp').mono ?_; rintro e w3 ⟨rfl, hb3⟩; have hz3 := hb3.size; (try simp only [World.size_alloc, World.size_setCell, World.size_drew, size_drewN', size_grow, size_redrawn] at hz3); obtain ⟨hc3, hf3⟩ := bcellB (B := w.heap.size + 1 + 1) hb3 (by first | omega | (simp only [World.size_alloc, World.size_setCell, World.size_drew, size_drewN', size_grow, size_redrawn]; omega)); have hr := Hr.out))
  refine bodyPost_ret (v := .bool true) (by simp [results, Try.results5, go_sem]) rfl ⟨rfl, ?_⟩
  repeat' (first
    | (with_reducible exact Below.refl _ _)
    | (with_reducible assumption)
    | (with_reducible refine below_drewN ?_ _)
    | (with_reducible refine Below.drew ?_)
    | (with_reducible refine below_regrown_up _ _ ?_ ?_)
    | (with_reducible refine Below.alloc ?_ ?_ _)
    | (with_reducible refine Below.setCell ?_ ?_ _)
    | (with_reducible refine below_up ?_ ?_ (by assumption))
    | (with_reducible exact Nat.le_refl _)
    | omega
    | (simp; done)
    | (simp; omega))
theorem exm1 (t : Tax) (b : Bill) (w : World) (m D N : Int) (hN0 : 0 ≤ N) (hN1 : N ≤ 70000000000000000) (hD0 : 1 ≤ D) (hD1 : D ≤ 60000000) (hv0 : 0 ≤ m) (hv1 : m ≤ 1000000000) (m0 : 0 ≤ m * D) (m1 : m * D ≤ 60000000000000000) (ho : ∀ w, Calls Try.prog 18 #[t.v, b.v] w fun x w' => x = .returned (.tuple #[.int .i64 m, .int .i64 0]) ∧ Below w.heap.size w w') (hX : ∀ w, Calls Try.prog 23 #[t.v, b.v] w fun x w' => x = .returned (.tuple #[.int .i64 N, .int .i64 D]) ∧ Below w.heap.size w w') (Hr : RowKit.Hid (t.round = 1)) (u1 : m * D - N ≤ 0) (u2 : -D < m * D - N) : Calls Try.prog 5 #[t.v, b.v] w fun e w' => e = .returned (.bool true) ∧ Below w.heap.size w w' := by
  go_enter Try.func5, Try.ntmps5
  go_wp2_with (first
    | (go_at_call 15; refine (head29_any _).mono ?_; rintro e w1 ⟨rfl, hb1⟩; have hz1 := hb1.size; (try simp only [World.size_alloc, World.size_setCell, World.size_drew, size_drewN', size_grow, size_redrawn] at hz1); obtain ⟨hc1, hf1⟩ := bcellB (B := w.heap.size + 1 + 1) hb1 (by first | omega | (simp only [World.size_alloc, World.size_setCell, World.size_drew, size_drewN', size_grow, size_redrawn]; omega)); have la11 : w.heap.size + 1 < w1.heap.size := (by omega); have lb11 : w.heap.size + 1 < w1.heap.size + 1 := (by omega); have lc11 : w.heap.size + 1 < w1.heap.size + 1 + 1 := (by omega); have ld11 : w.heap.size + 1 < w1.heap.size + 1 + 1 + 1 := (by omega); have le11 : w.heap.size + 1 < w1.heap.size + 1 + 1 + 1 + 1 := (by omega); have la10 : w.heap.size < w1.heap.size := (by omega); have lb10 : w.heap.size < w1.heap.size + 1 := (by omega); have lc10 : w.heap.size < w1.heap.size + 1 + 1 := (by omega); have ld10 : w.heap.size < w1.heap.size + 1 + 1 + 1 := (by omega); have le10 : w.heap.size < w1.heap.size + 1 + 1 + 1 + 1 := (by omega))
    | (go_at_call 18; refine (ho _).mono ?_; rintro e w2 ⟨rfl, hb2⟩; have hz2 := hb2.size; (try simp only [World.size_alloc, World.size_setCell, World.size_drew, size_drewN', size_grow, size_redrawn] at hz2); obtain ⟨hc2, hf2⟩ := bcellB (B := w.heap.size + 1 + 1) hb2 (by first | omega | (simp only [World.size_alloc, World.size_setCell, World.size_drew, size_drewN', size_grow, size_redrawn]; omega)); have la21 : w.heap.size + 1 < w2.heap.size := (by omega); have lb21 : w.heap.size + 1 < w2.heap.size + 1 := (by omega); have lc21 : w.heap.size + 1 < w2.heap.size + 1 + 1 := (by omega); have ld21 : w.heap.size + 1 < w2.heap.size + 1 + 1 + 1 := (by omega); have le21 : w.heap.size + 1 < w2.heap.size + 1 + 1 + 1 + 1 := (by omega); have la20 : w.heap.size < w2.heap.size := (by omega); have lb20 : w.heap.size < w2.heap.size + 1 := (by omega); have lc20 : w.heap.size < w2.heap.size + 1 + 1 := (by omega); have ld20 : w.heap.size < w2.heap.size + 1 + 1 + 1 := (by omega); have le20 : w.heap.size < w2.heap.size + 1 + 1 + 1 + 1 := (by omega))
    | (go_at_call 23; refine (hX _).mono ?_; rintro e w3 ⟨rfl, hb3⟩; have hz3 := hb3.size; (try simp only [World.size_alloc, World.size_setCell, World.size_drew, size_drewN', size_grow, size_redrawn] at hz3); obtain ⟨hc3, hf3⟩ := bcellB (B := w.heap.size + 1 + 1) hb3 (by first | omega | (simp only [World.size_alloc, World.size_setCell, World.size_drew, size_drewN', size_grow, size_redrawn]; omega)); have hr := Hr.out))
  refine bodyPost_ret (v := .bool true) (by simp [results, Try.results5, go_sem]) rfl ⟨rfl, ?_⟩
  repeat' (first
    | (with_reducible exact Below.refl _ _)
    | (with_reducible assumption)
    | (with_reducible refine below_drewN ?_ _)
    | (with_reducible refine Below.drew ?_)
    | (with_reducible refine below_regrown_up _ _ ?_ ?_)
    | (with_reducible refine Below.alloc ?_ ?_ _)
    | (with_reducible refine Below.setCell ?_ ?_ _)
    | (with_reducible refine below_up ?_ ?_ (by assumption))
    | (with_reducible exact Nat.le_refl _)
    | omega
    | (simp; done)
    | (simp; omega))
theorem exm2 (t : Tax) (b : Bill) (w : World) (m D N : Int) (hN0 : 0 ≤ N) (hN1 : N ≤ 70000000000000000) (hD0 : 1 ≤ D) (hD1 : D ≤ 60000000) (hv0 : 0 ≤ m) (hv1 : m ≤ 1000000000) (m0 : 0 ≤ m * D) (m1 : m * D ≤ 60000000000000000) (ho : ∀ w, Calls Try.prog 18 #[t.v, b.v] w fun x w' => x = .returned (.tuple #[.int .i64 m, .int .i64 0]) ∧ Below w.heap.size w w') (hX : ∀ w, Calls Try.prog 23 #[t.v, b.v] w fun x w' => x = .returned (.tuple #[.int .i64 N, .int .i64 D]) ∧ Below w.heap.size w w') (Hr : RowKit.Hid (t.round = 2)) (u1 : 0 ≤ m * D - N) (u2 : m * D - N < D) : Calls Try.prog 5 #[t.v, b.v] w fun e w' => e = .returned (.bool true) ∧ Below w.heap.size w w' := by
  go_enter Try.func5, Try.ntmps5
  go_wp2_with (first
    | (go_at_call 15; refine (head29_any _).mono ?_; rintro e w1 ⟨rfl, hb1⟩; have hz1 := hb1.size; (try simp only [World.size_alloc, World.size_setCell, World.size_drew, size_drewN', size_grow, size_redrawn] at hz1); obtain ⟨hc1, hf1⟩ := bcellB (B := w.heap.size + 1 + 1) hb1 (by first | omega | (simp only [World.size_alloc, World.size_setCell, World.size_drew, size_drewN', size_grow, size_redrawn]; omega)); have la11 : w.heap.size + 1 < w1.heap.size := (by omega); have lb11 : w.heap.size + 1 < w1.heap.size + 1 := (by omega); have lc11 : w.heap.size + 1 < w1.heap.size + 1 + 1 := (by omega); have ld11 : w.heap.size + 1 < w1.heap.size + 1 + 1 + 1 := (by omega); have le11 : w.heap.size + 1 < w1.heap.size + 1 + 1 + 1 + 1 := (by omega); have la10 : w.heap.size < w1.heap.size := (by omega); have lb10 : w.heap.size < w1.heap.size + 1 := (by omega); have lc10 : w.heap.size < w1.heap.size + 1 + 1 := (by omega); have ld10 : w.heap.size < w1.heap.size + 1 + 1 + 1 := (by omega); have le10 : w.heap.size < w1.heap.size + 1 + 1 + 1 + 1 := (by omega))
    | (go_at_call 18; refine (ho _).mono ?_; rintro e w2 ⟨rfl, hb2⟩; have hz2 := hb2.size; (try simp only [World.size_alloc, World.size_setCell, World.size_drew, size_drewN', size_grow, size_redrawn] at hz2); obtain ⟨hc2, hf2⟩ := bcellB (B := w.heap.size + 1 + 1) hb2 (by first | omega | (simp only [World.size_alloc, World.size_setCell, World.size_drew, size_drewN', size_grow, size_redrawn]; omega)); have la21 : w.heap.size + 1 < w2.heap.size := (by omega); have lb21 : w.heap.size + 1 < w2.heap.size + 1 := (by omega); have lc21 : w.heap.size + 1 < w2.heap.size + 1 + 1 := (by omega); have ld21 : w.heap.size + 1 < w2.heap.size + 1 + 1 + 1 := (by omega); have le21 : w.heap.size + 1 < w2.heap.size + 1 + 1 + 1 + 1 := (by omega); have la20 : w.heap.size < w2.heap.size := (by omega); have lb20 : w.heap.size < w2.heap.size + 1 := (by omega); have lc20 : w.heap.size < w2.heap.size + 1 + 1 := (by omega); have ld20 : w.heap.size < w2.heap.size + 1 + 1 + 1 := (by omega); have le20 : w.heap.size < w2.heap.size + 1 + 1 + 1 + 1 := (by omega))
    | (go_at_call 23; refine (hX _).mono ?_; rintro e w3 ⟨rfl, hb3⟩; have hz3 := hb3.size; (try simp only [World.size_alloc, World.size_setCell, World.size_drew, size_drewN', size_grow, size_redrawn] at hz3); obtain ⟨hc3, hf3⟩ := bcellB (B := w.heap.size + 1 + 1) hb3 (by first | omega | (simp only [World.size_alloc, World.size_setCell, World.size_drew, size_drewN', size_grow, size_redrawn]; omega)); have hr := Hr.out))
  refine bodyPost_ret (v := .bool true) (by simp [results, Try.results5, go_sem]) rfl ⟨rfl, ?_⟩
  repeat' (first
    | (with_reducible exact Below.refl _ _)
    | (with_reducible assumption)
    | (with_reducible refine below_drewN ?_ _)
    | (with_reducible refine Below.drew ?_)
    | (with_reducible refine below_regrown_up _ _ ?_ ?_)
    | (with_reducible refine Below.alloc ?_ ?_ _)
    | (with_reducible refine Below.setCell ?_ ?_ _)
    | (with_reducible refine below_up ?_ ?_ (by assumption))
    | (with_reducible exact Nat.le_refl _)
    | omega
    | (simp; done)
    | (simp; omega))
theorem exm3a (t : Tax) (b : Bill) (w : World) (m D N : Int) (hN0 : 0 ≤ N) (hN1 : N ≤ 70000000000000000) (hD0 : 1 ≤ D) (hD1 : D ≤ 60000000) (hv0 : 0 ≤ m) (hv1 : m ≤ 1000000000) (m0 : 0 ≤ m * D) (m1 : m * D ≤ 60000000000000000) (ho : ∀ w, Calls Try.prog 18 #[t.v, b.v] w fun x w' => x = .returned (.tuple #[.int .i64 m, .int .i64 0]) ∧ Below w.heap.size w w') (hX : ∀ w, Calls Try.prog 23 #[t.v, b.v] w fun x w' => x = .returned (.tuple #[.int .i64 N, .int .i64 D]) ∧ Below w.heap.size w w') (Hr : RowKit.Hid (t.round = 3)) (u1 : 2 * (m * D - N) ≤ D) (u2 : -D ≤ 2 * (m * D - N)) (u5 : m.tmod 2 = 0) (u6 : (2 * (m * D - N) != D) = false) : Calls Try.prog 5 #[t.v, b.v] w fun e w' => e = .returned (.bool true) ∧ Below w.heap.size w w' := by
  go_enter Try.func5, Try.ntmps5
  go_wp2_with (first
    | (go_at_call 15; refine (head29_any _).mono ?_; rintro e w1 ⟨rfl, hb1⟩; have hz1 := hb1.size; (try simp only [World.size_alloc, World.size_setCell, World.size_drew, size_drewN', size_grow, size_redrawn] at hz1); obtain ⟨hc1, hf1⟩ := bcellB (B := w.heap.size + 1 + 1) hb1 (by first | omega | (simp only [World.size_alloc, World.size_setCell, World.size_drew, size_drewN', size_grow, size_redrawn]; omega)); have la11 : w.heap.size + 1 < w1.heap.size := (by omega); have lb11 : w.heap.size + 1 < w1.heap.size + 1 := (by omega); have lc11 : w.heap.size + 1 < w1.heap.size + 1 + 1 := (by omega); have ld11 : w.heap.size + 1 < w1.heap.size + 1 + 1 + 1 := (by omega); have le11 : w.heap.size + 1 < w1.heap.size + 1 + 1 + 1 + 1 := (by omega); have la10 : w.heap.size < w1.heap.size := (by omega); have lb10 : w.heap.size < w1.heap.size + 1 := (by omega); have lc10 : w.heap.size < w1.heap.size + 1 + 1 := (by omega); have ld10 : w.heap.size < w1.heap.size + 1 + 1 + 1 := (by omega); have le10 : w.heap.size < w1.heap.size + 1 + 1 + 1 + 1 := (by omega))
    | (go_at_call 18; refine (ho _).mono ?_; rintro e w2 ⟨rfl, hb2⟩; have hz2 := hb2.size; (try simp only [World.size_alloc, World.size_setCell, World.size_drew, size_drewN', size_grow, size_redrawn] at hz2); obtain ⟨hc2, hf2⟩ := bcellB (B := w.heap.size + 1 + 1) hb2 (by first | omega | (simp only [World.size_alloc, World.size_setCell, World.size_drew, size_drewN', size_grow, size_redrawn]; omega)); have la21 : w.heap.size + 1 < w2.heap.size := (by omega); have lb21 : w.heap.size + 1 < w2.heap.size + 1 := (by omega); have lc21 : w.heap.size + 1 < w2.heap.size + 1 + 1 := (by omega); have ld21 : w.heap.size + 1 < w2.heap.size + 1 + 1 + 1 := (by omega); have le21 : w.heap.size + 1 < w2.heap.size + 1 + 1 + 1 + 1 := (by omega); have la20 : w.heap.size < w2.heap.size := (by omega); have lb20 : w.heap.size < w2.heap.size + 1 := (by omega); have lc20 : w.heap.size < w2.heap.size + 1 + 1 := (by omega); have ld20 : w.heap.size < w2.heap.size + 1 + 1 + 1 := (by omega); have le20 : w.heap.size < w2.heap.size + 1 + 1 + 1 + 1 := (by omega))
    | (go_at_call 23; refine (hX _).mono ?_; rintro e w3 ⟨rfl, hb3⟩; have hz3 := hb3.size; (try simp only [World.size_alloc, World.size_setCell, World.size_drew, size_drewN', size_grow, size_redrawn] at hz3); obtain ⟨hc3, hf3⟩ := bcellB (B := w.heap.size + 1 + 1) hb3 (by first | omega | (simp only [World.size_alloc, World.size_setCell, World.size_drew, size_drewN', size_grow, size_redrawn]; omega)); have hr := Hr.out))
  refine bodyPost_ret (v := .bool true) (by simp [results, Try.results5, go_sem]) rfl ⟨rfl, ?_⟩
  repeat' (first
    | (with_reducible exact Below.refl _ _)
    | (with_reducible assumption)
    | (with_reducible refine below_drewN ?_ _)
    | (with_reducible refine Below.drew ?_)
    | (with_reducible refine below_regrown_up _ _ ?_ ?_)
    | (with_reducible refine Below.alloc ?_ ?_ _)
    | (with_reducible refine Below.setCell ?_ ?_ _)
    | (with_reducible refine below_up ?_ ?_ (by assumption))
    | (with_reducible exact Nat.le_refl _)
    | omega
    | (simp; done)
    | (simp; omega))
theorem exm3b (t : Tax) (b : Bill) (w : World) (m D N : Int) (hN0 : 0 ≤ N) (hN1 : N ≤ 70000000000000000) (hD0 : 1 ≤ D) (hD1 : D ≤ 60000000) (hv0 : 0 ≤ m) (hv1 : m ≤ 1000000000) (m0 : 0 ≤ m * D) (m1 : m * D ≤ 60000000000000000) (ho : ∀ w, Calls Try.prog 18 #[t.v, b.v] w fun x w' => x = .returned (.tuple #[.int .i64 m, .int .i64 0]) ∧ Below w.heap.size w w') (hX : ∀ w, Calls Try.prog 23 #[t.v, b.v] w fun x w' => x = .returned (.tuple #[.int .i64 N, .int .i64 D]) ∧ Below w.heap.size w w') (Hr : RowKit.Hid (t.round = 3)) (u1 : 2 * (m * D - N) ≤ D) (u2 : -D ≤ 2 * (m * D - N)) (u5 : m.tmod 2 = 0) (u6 : (2 * (m * D - N) != D) = true) (u8 : (2 * (m * D - N) != -D) = false) : Calls Try.prog 5 #[t.v, b.v] w fun e w' => e = .returned (.bool true) ∧ Below w.heap.size w w' := by
  go_enter Try.func5, Try.ntmps5
  go_wp2_with (first
    | (go_at_call 15; refine (head29_any _).mono ?_; rintro e w1 ⟨rfl, hb1⟩; have hz1 := hb1.size; (try simp only [World.size_alloc, World.size_setCell, World.size_drew, size_drewN', size_grow, size_redrawn] at hz1); obtain ⟨hc1, hf1⟩ := bcellB (B := w.heap.size + 1 + 1) hb1 (by first | omega | (simp only [World.size_alloc, World.size_setCell, World.size_drew, size_drewN', size_grow, size_redrawn]; omega)); have la11 : w.heap.size + 1 < w1.heap.size := (by omega); have lb11 : w.heap.size + 1 < w1.heap.size + 1 := (by omega); have lc11 : w.heap.size + 1 < w1.heap.size + 1 + 1 := (by omega); have ld11 : w.heap.size + 1 < w1.heap.size + 1 + 1 + 1 := (by omega); have le11 : w.heap.size + 1 < w1.heap.size + 1 + 1 + 1 + 1 := (by omega); have la10 : w.heap.size < w1.heap.size := (by omega); have lb10 : w.heap.size < w1.heap.size + 1 := (by omega); have lc10 : w.heap.size < w1.heap.size + 1 + 1 := (by omega); have ld10 : w.heap.size < w1.heap.size + 1 + 1 + 1 := (by omega); have le10 : w.heap.size < w1.heap.size + 1 + 1 + 1 + 1 := (by omega))
    | (go_at_call 18; refine (ho _).mono ?_; rintro e w2 ⟨rfl, hb2⟩; have hz2 := hb2.size; (try simp only [World.size_alloc, World.size_setCell, World.size_drew, size_drewN', size_grow, size_redrawn] at hz2); obtain ⟨hc2, hf2⟩ := bcellB (B := w.heap.size + 1 + 1) hb2 (by first | omega | (simp only [World.size_alloc, World.size_setCell, World.size_drew, size_drewN', size_grow, size_redrawn]; omega)); have la21 : w.heap.size + 1 < w2.heap.size := (by omega); have lb21 : w.heap.size + 1 < w2.heap.size + 1 := (by omega); have lc21 : w.heap.size + 1 < w2.heap.size + 1 + 1 := (by omega); have ld21 : w.heap.size + 1 < w2.heap.size + 1 + 1 + 1 := (by omega); have le21 : w.heap.size + 1 < w2.heap.size + 1 + 1 + 1 + 1 := (by omega); have la20 : w.heap.size < w2.heap.size := (by omega); have lb20 : w.heap.size < w2.heap.size + 1 := (by omega); have lc20 : w.heap.size < w2.heap.size + 1 + 1 := (by omega); have ld20 : w.heap.size < w2.heap.size + 1 + 1 + 1 := (by omega); have le20 : w.heap.size < w2.heap.size + 1 + 1 + 1 + 1 := (by omega))
    | (go_at_call 23; refine (hX _).mono ?_; rintro e w3 ⟨rfl, hb3⟩; have hz3 := hb3.size; (try simp only [World.size_alloc, World.size_setCell, World.size_drew, size_drewN', size_grow, size_redrawn] at hz3); obtain ⟨hc3, hf3⟩ := bcellB (B := w.heap.size + 1 + 1) hb3 (by first | omega | (simp only [World.size_alloc, World.size_setCell, World.size_drew, size_drewN', size_grow, size_redrawn]; omega)); have hr := Hr.out))
  refine bodyPost_ret (v := .bool true) (by simp [results, Try.results5, go_sem]) rfl ⟨rfl, ?_⟩
  repeat' (first
    | (with_reducible exact Below.refl _ _)
    | (with_reducible assumption)
    | (with_reducible refine below_drewN ?_ _)
    | (with_reducible refine Below.drew ?_)
    | (with_reducible refine below_regrown_up _ _ ?_ ?_)
    | (with_reducible refine Below.alloc ?_ ?_ _)
    | (with_reducible refine Below.setCell ?_ ?_ _)
    | (with_reducible refine below_up ?_ ?_ (by assumption))
    | (with_reducible exact Nat.le_refl _)
    | omega
    | (simp; done)
    | (simp; omega))
theorem exm3c (t : Tax) (b : Bill) (w : World) (m D N : Int) (hN0 : 0 ≤ N) (hN1 : N ≤ 70000000000000000) (hD0 : 1 ≤ D) (hD1 : D ≤ 60000000) (hv0 : 0 ≤ m) (hv1 : m ≤ 1000000000) (m0 : 0 ≤ m * D) (m1 : m * D ≤ 60000000000000000) (ho : ∀ w, Calls Try.prog 18 #[t.v, b.v] w fun x w' => x = .returned (.tuple #[.int .i64 m, .int .i64 0]) ∧ Below w.heap.size w w') (hX : ∀ w, Calls Try.prog 23 #[t.v, b.v] w fun x w' => x = .returned (.tuple #[.int .i64 N, .int .i64 D]) ∧ Below w.heap.size w w') (Hr : RowKit.Hid (t.round = 3)) (u1 : 2 * (m * D - N) ≤ D) (u2 : -D ≤ 2 * (m * D - N)) (u6 : (2 * (m * D - N) != D) = true) (u8 : (2 * (m * D - N) != -D) = true) : Calls Try.prog 5 #[t.v, b.v] w fun e w' => e = .returned (.bool true) ∧ Below w.heap.size w w' := by
  go_enter Try.func5, Try.ntmps5
  go_wp2_with (first
    | (go_at_call 15; refine (head29_any _).mono ?_; rintro e w1 ⟨rfl, hb1⟩; have hz1 := hb1.size; (try simp only [World.size_alloc, World.size_setCell, World.size_drew, size_drewN', size_grow, size_redrawn] at hz1); obtain ⟨hc1, hf1⟩ := bcellB (B := w.heap.size + 1 + 1) hb1 (by first | omega | (simp only [World.size_alloc, World.size_setCell, World.size_drew, size_drewN', size_grow, size_redrawn]; omega)); have la11 : w.heap.size + 1 < w1.heap.size := (by omega); have lb11 : w.heap.size + 1 < w1.heap.size + 1 := (by omega); have lc11 : w.heap.size + 1 < w1.heap.size + 1 + 1 := (by omega); have ld11 : w.heap.size + 1 < w1.heap.size + 1 + 1 + 1 := (by omega); have le11 : w.heap.size + 1 < w1.heap.size + 1 + 1 + 1 + 1 := (by omega); have la10 : w.heap.size < w1.heap.size := (by omega); have lb10 : w.heap.size < w1.heap.size + 1 := (by omega); have lc10 : w.heap.size < w1.heap.size + 1 + 1 := (by omega); have ld10 : w.heap.size < w1.heap.size + 1 + 1 + 1 := (by omega); have le10 : w.heap.size < w1.heap.size + 1 + 1 + 1 + 1 := (by omega))
    | (go_at_call 18; refine (ho _).mono ?_; rintro e w2 ⟨rfl, hb2⟩; have hz2 := hb2.size; (try simp only [World.size_alloc, World.size_setCell, World.size_drew, size_drewN', size_grow, size_redrawn] at hz2); obtain ⟨hc2, hf2⟩ := bcellB (B := w.heap.size + 1 + 1) hb2 (by first | omega | (simp only [World.size_alloc, World.size_setCell, World.size_drew, size_drewN', size_grow, size_redrawn]; omega)); have la21 : w.heap.size + 1 < w2.heap.size := (by omega); have lb21 : w.heap.size + 1 < w2.heap.size + 1 := (by omega); have lc21 : w.heap.size + 1 < w2.heap.size + 1 + 1 := (by omega); have ld21 : w.heap.size + 1 < w2.heap.size + 1 + 1 + 1 := (by omega); have le21 : w.heap.size + 1 < w2.heap.size + 1 + 1 + 1 + 1 := (by omega); have la20 : w.heap.size < w2.heap.size := (by omega); have lb20 : w.heap.size < w2.heap.size + 1 := (by omega); have lc20 : w.heap.size < w2.heap.size + 1 + 1 := (by omega); have ld20 : w.heap.size < w2.heap.size + 1 + 1 + 1 := (by omega); have le20 : w.heap.size < w2.heap.size + 1 + 1 + 1 + 1 := (by omega))
    | (go_at_call 23; refine (hX _).mono ?_; rintro e w3 ⟨rfl, hb3⟩; have hz3 := hb3.size; (try simp only [World.size_alloc, World.size_setCell, World.size_drew, size_drewN', size_grow, size_redrawn] at hz3); obtain ⟨hc3, hf3⟩ := bcellB (B := w.heap.size + 1 + 1) hb3 (by first | omega | (simp only [World.size_alloc, World.size_setCell, World.size_drew, size_drewN', size_grow, size_redrawn]; omega)); have hr := Hr.out))
  refine bodyPost_ret (v := .bool true) (by simp [results, Try.results5, go_sem]) rfl ⟨rfl, ?_⟩
  repeat' (first
    | (with_reducible exact Below.refl _ _)
    | (with_reducible assumption)
    | (with_reducible refine below_drewN ?_ _)
    | (with_reducible refine Below.drew ?_)
    | (with_reducible refine below_regrown_up _ _ ?_ ?_)
    | (with_reducible refine Below.alloc ?_ ?_ _)
    | (with_reducible refine Below.setCell ?_ ?_ _)
    | (with_reducible refine below_up ?_ ?_ (by assumption))
    | (with_reducible exact Nat.le_refl _)
    | omega
    | (simp; done)
    | (simp; omega))
theorem law_exact (t : Tax) (b : Bill) (w : World) : Calls Try.prog 5 #[t.v, b.v] w fun e w' => e = .returned (.bool true) ∧ Below w.heap.size w w' := by
  rcases one_cases t b with h | ⟨ht, hb, hp, h⟩ | h | ⟨ht, hb, hp, h, hv0, hv1⟩
  · exact ex1 t b w h
  · have hr := (Tax.ok_iff.1 ht).2.2.2.2.2.2
    have hp' : (t.place != b.place) = true := by simpa using hp
    obtain hr | hr | hr : t.round = 1 ∨ t.round = 2 ∨ t.round = 3 := by omega
    · exact exf1 t b w h hp' (Lib.hid hr)
    · exact exf2 t b w h hp' (Lib.hid hr)
    · exact exf3 t b w h hp' (Lib.hid hr)
  · exact ex3 t b w h
  · have hr := (Tax.ok_iff.1 ht).2.2.2.2.2.2
    have hp' : (t.place != b.place) = false := by simpa using hp
    obtain ⟨n1, n2, f0, f1, d0, d1, x0, x1, a0, a1, c0, c1, e0, e1, p0, p1, q0, q1⟩ := exB ht hb
    have hN : exN t b = t.night * firstN t b * b.persons * ((b.til - b.frm) * t.d) + t.n * b.price * firstN t b := rfl
    have hD : exD t b = (b.til - b.frm) * t.d := rfl
    have hN0 : 0 ≤ exN t b := by omega
    have hN1 : exN t b ≤ 70000000000000000 := by omega
    have hD0 : 1 ≤ exD t b := by omega
    have hD1 : exD t b ≤ 60000000 := by omega
    have hs := rnd_spec (exN t b) t.round hD0
    have hm := mul_bd hv0 hv1 (show 0 ≤ exD t b by omega) hD1
    have hV : oneV t b = rnd (exN t b) (exD t b) t.round := rfl
    rw [← hV] at hs
    obtain ⟨⟨s1, s2⟩, s3⟩ := hs
    obtain ⟨m0, m1⟩ := hm
    have ho := fun w => one_any' h w
    have hX := fun w => rexact_any t b w ht hb hp'
    obtain hr | hr | hr : t.round = 1 ∨ t.round = 2 ∨ t.round = 3 := by omega
    · obtain ⟨u1, u2⟩ := s1 hr
      exact exm1 t b w _ _ _ hN0 hN1 hD0 hD1 hv0 hv1 m0 m1 ho hX (Lib.hid hr) u1 u2
    · obtain ⟨u1, u2⟩ := s2 hr
      exact exm2 t b w _ _ _ hN0 hN1 hD0 hD1 hv0 hv1 m0 m1 ho hX (Lib.hid hr) u1 u2
    · obtain ⟨u1, u2, u3⟩ := s3 hr
      by_cases u4 : 2 * (oneV t b * exD t b - exN t b) = exD t b
      · exact exm3a t b w _ _ _ hN0 hN1 hD0 hD1 hv0 hv1 m0 m1 ho hX (Lib.hid hr) u1 u2 (by rw [tmod_nn hv0]; omega) (by simpa using u4)
      · by_cases u5 : 2 * (oneV t b * exD t b - exN t b) = -exD t b
        · exact exm3b t b w _ _ _ hN0 hN1 hD0 hD1 hv0 hv1 m0 m1 ho hX (Lib.hid hr) u1 u2 (by rw [tmod_nn hv0]; omega) (by simpa using u4) (by simpa using u5)
        · exact exm3c t b w _ _ _ hN0 hN1 hD0 hD1 hv0 hv1 m0 m1 ho hX (Lib.hid hr) u1 u2 (by simpa using u4) (by simpa using u5)
end Go.Proofs.Ytdbdjhgcmcbiaaa
