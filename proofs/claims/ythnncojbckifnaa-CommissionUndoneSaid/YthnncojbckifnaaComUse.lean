/-
  The laws of package commission: what they ask of their arguments.
-/
import Derived.Test.YthnncojbckifnaaHead30
namespace Go.Proofs.Ythnncojbckifnaa
set_option linter.unusedSimpArgs false
set_option linter.unusedVariables false
open Go.RowKit
open Go.Sort (grow size_grow)

set_option maxHeartbeats 4000000
set_option maxRecDepth 100000
def use30 (p d : Int) (l : List Bill) (ch : Int) : Bool := partOk p d && decide (l.length ≤ 60) && billsOk l && inB ch 0 29
theorem use30_iff {p d ch : Int} {l : List Bill} : use30 p d l ch = true ↔ partOk p d = true ∧ l.length ≤ 60 ∧ billsOk l = true ∧ inB ch 0 29 = true := by
  unfold use30
  rw [Bool.and_eq_true, Bool.and_eq_true, Bool.and_eq_true, decide_eq_true_eq, and_assoc, and_assoc]
theorem usable30_any (p d : Int) (l : List Bill) (A : Option Addr) (c : Nat) (ch : Int) (w : World) (hs : SlBill w A l) (hl0 : l.length ≤ maxLen) :
    Calls Try.prog 32 #[.agg #[.int .i64 p, .int .i64 d], .slice A l.length c, .int .i64 ch] w fun e w' => e = .returned (.bool (use30 p d l ch)) ∧ Below w.heap.size w w' := by
  have HU : Hid (use30 p d l ch = (partOk p d && decide (l.length ≤ 60) && billsOk l && inB ch 0 29)) := Lib.hid rfl
  cases h1 : partOk p d
  all_goals
    by_cases h0 : l.length ≤ 60
    all_goals
      cases h2 : billsOk l
      all_goals
        have h0' : (l.length : Int) ≤ 60 ∨ ¬ (l.length : Int) ≤ 60 := by omega
        go_enter Try.func32, Try.ntmps32
        go_wp2_with (first
          | (go_at_call 31; refine (r30part_any p d _).mono ?_; rintro e w1 ⟨rfl, hb1⟩; have hz1 := hb1.size; (try simp only [World.size_alloc, World.size_setCell, World.size_drew, size_drewN', size_grow, size_redrawn] at hz1); obtain ⟨hc1, hf1⟩ := bcellB (B := w.heap.size + 1) hb1 (by first | omega | (simp only [World.size_alloc, World.size_setCell, World.size_drew, size_drewN', size_grow, size_redrawn]; omega)); rw [h1])
          | (go_at_call 55; refine (rBills_any l A c _ (hs.up (by repeat' (first | (with_reducible exact Below.refl _ _) | (with_reducible assumption) | (with_reducible refine below_drewN ?_ _) | (with_reducible refine Below.drew ?_) | (with_reducible refine below_regrown_up _ _ ?_ ?_) | (with_reducible refine Below.alloc ?_ ?_ _) | (with_reducible refine Below.setCell ?_ ?_ _) | (with_reducible refine below_up ?_ ?_ (by assumption)) | (with_reducible exact Nat.le_refl _) | omega | (simp; done) | (simp; omega)))) (by omega)).mono ?_; rintro e w2 ⟨rfl, hb2⟩; have hz2 := hb2.size; (try simp only [World.size_alloc, World.size_setCell, World.size_drew, size_drewN', size_grow, size_redrawn] at hz2); obtain ⟨hc2, hf2⟩ := bcellB (B := w.heap.size + 1) hb2 (by first | omega | (simp only [World.size_alloc, World.size_setCell, World.size_drew, size_drewN', size_grow, size_redrawn]; omega)); rw [h2]))
        all_goals
          go_ret
          refine ⟨ret_bool ?_, ?_⟩
          · rw [HU.out, h1, h2]
            unfold inB
            first | (simp; done) | (simp [h0]; done) | (simp; omega) | (simp [h0]; omega) | (rw [Bool.eq_iff_iff]; simp; omega)
          · repeat' (first
              | (with_reducible exact Below.refl _ _)
              | (with_reducible assumption)
              | (with_reducible refine below_drewN ?_ _)
              | (with_reducible refine Below.drew ?_)
              | (with_reducible refine below_regrown_up _ _ ?_ ?_)
              | (with_reducible refine Below.alloc ?_ ?_ _)
              | (with_reducible refine Below.setCell ?_ ?_ _)
              | (with_reducible refine below_up ?_ ?_ (by assumption))
              | (with_reducible exact Nat.le_refl _)
              | omega
              | (simp; done)
              | (simp; omega))
end Go.Proofs.Ythnncojbckifnaa
