/-
  Package commission: the statement of a channel: the ways out ahead of the loop.
-/
import Derived.Test.YthnncojbckifnaaCom5
import Derived.Test.YthnncojbckifnaaRound
namespace Go.Proofs.Ythnncojbckifnaa
set_option linter.unusedSimpArgs false
set_option linter.unusedVariables false
open Go.RowKit Go.Maps Go.Shelf
open Go.Sort (grow size_grow)

set_option maxHeartbeats 4000000
set_option maxRecDepth 100000
abbrev stW0 (w : World) (p d : Int) : World := (((w.alloc (.cells #[.int .i64 p, .int .i64 d] 43)).alloc (.cells #[.slice none 0 0] 45)).alloc (.cells #[.int .i64 0] 3)).alloc (.cells #[.int .i64 0] 27)
theorem cstmt_no (p d : Int) (l : List Bill) (A : Option Addr) (c : Nat) (ch : Int) (w : World) (hs : SlBill w A l) (hl0 : l.length ≤ maxLen)
    (h : ¬ (l.length ≤ 3000 ∧ partOk p d = true ∧ billsOk l = true ∧ inB ch 0 29 = true)) :
    Calls Try.prog 26 #[.agg #[.int .i64 p, .int .i64 d], .slice A l.length c, .int .i64 ch] w fun e w' => OutI3 (stmtR p d l ch) e w' ∧ Below w.heap.size w w' := by
  by_cases h0 : 3000 < l.length
  · have h0' : (3000 : Int) < (l.length : Int) := by omega
    rw [stmtR_many h0]
    go_enter Try.func26, Try.ntmps26
    go_wp2_with fail
    refine bodyPost_ret (v := .tuple #[.slice none 0 0, .int .i64 0, .int .i64 2]) ?_ rfl ⟨outI3_nil, ?_⟩
    · have d0 : (((((((w.alloc (.cells #[.int .i64 p, .int .i64 d] 43)).alloc (.cells #[.slice none 0 0] 45)).alloc (.cells #[.int .i64 0] 3)).alloc (.cells #[.int .i64 0] 27)).setCell ⟨w.heap.size + 1, 0, none⟩ (.slice none 0 0)).setCell ⟨w.heap.size + 1 + 1, 0, none⟩ (.int .i64 0)).setCell ⟨w.heap.size + 1 + 1 + 1, 0, none⟩ (.int .i64 2)).cell? ⟨w.heap.size + 1, 0, none⟩ = some (.slice none 0 0) := by go_simp
      have d1 : (((((((w.alloc (.cells #[.int .i64 p, .int .i64 d] 43)).alloc (.cells #[.slice none 0 0] 45)).alloc (.cells #[.int .i64 0] 3)).alloc (.cells #[.int .i64 0] 27)).setCell ⟨w.heap.size + 1, 0, none⟩ (.slice none 0 0)).setCell ⟨w.heap.size + 1 + 1, 0, none⟩ (.int .i64 0)).setCell ⟨w.heap.size + 1 + 1 + 1, 0, none⟩ (.int .i64 2)).cell? ⟨w.heap.size + 1 + 1, 0, none⟩ = some (.int .i64 0) := by go_simp
      have d2 : (((((((w.alloc (.cells #[.int .i64 p, .int .i64 d] 43)).alloc (.cells #[.slice none 0 0] 45)).alloc (.cells #[.int .i64 0] 3)).alloc (.cells #[.int .i64 0] 27)).setCell ⟨w.heap.size + 1, 0, none⟩ (.slice none 0 0)).setCell ⟨w.heap.size + 1 + 1, 0, none⟩ (.int .i64 0)).setCell ⟨w.heap.size + 1 + 1 + 1, 0, none⟩ (.int .i64 2)).cell? ⟨w.heap.size + 1 + 1 + 1, 0, none⟩ = some (.int .i64 2) := by go_simp
      simp [results, Try.results26, go_sem, d0, d1, d2]
    · repeat' (first
        | (with_reducible exact Below.refl _ _)
        | (with_reducible assumption)
        | (with_reducible refine below_drewN ?_ _)
        | (with_reducible refine Below.drew ?_)
        | (with_reducible refine below_regrown_up _ _ ?_ ?_)
        | (with_reducible refine Below.alloc ?_ ?_ _)
        | (with_reducible refine Below.setCell ?_ ?_ _)
        | (with_reducible refine below_up ?_ ?_ (by assumption))
        | (with_reducible exact Nat.le_refl _)
        | omega
        | (simp; done)
        | (simp; omega))
  · have h0' : ¬ (3000 : Int) < (l.length : Int) := by omega
    cases h1 : partOk p d
    · rw [stmtR_no (by omega) (by rw [h1]; rfl)]
      go_enter Try.func26, Try.ntmps26
      go_wp2_with (first | (go_at_call 49; refine (isPart_any p d _).mono ?_; rintro e w1 ⟨rfl, hb1⟩; have hz1 := hb1.size; (try simp only [World.size_alloc, World.size_setCell, World.size_drew, size_drewN', size_grow, size_redrawn] at hz1); obtain ⟨hc1, hf1⟩ := bcellB (B := w.heap.size + 4) hb1 (by first | omega | (simp only [World.size_alloc, World.size_setCell, World.size_drew, size_drewN', size_grow, size_redrawn]; omega)); rw [h1]) | (go_at_call 53; refine (areBills_any l A c _ (hs.up (by repeat' (first | (with_reducible exact Below.refl _ _) | (with_reducible assumption) | (with_reducible refine below_drewN ?_ _) | (with_reducible refine Below.drew ?_) | (with_reducible refine below_regrown_up _ _ ?_ ?_) | (with_reducible refine Below.alloc ?_ ?_ _) | (with_reducible refine Below.setCell ?_ ?_ _) | (with_reducible refine below_up ?_ ?_ (by assumption)) | (with_reducible exact Nat.le_refl _) | omega | (simp; done) | (simp; omega)))) (by omega)).mono ?_; rintro e w2 ⟨rfl, hb2⟩; have hz2 := hb2.size; (try simp only [World.size_alloc, World.size_setCell, World.size_drew, size_drewN', size_grow, size_redrawn] at hz2); obtain ⟨hc2, hf2⟩ := bcellB (B := w.heap.size + 4) hb2 (by first | omega | (simp only [World.size_alloc, World.size_setCell, World.size_drew, size_drewN', size_grow, size_redrawn]; omega)); rw [h2]))
      refine bodyPost_ret (v := .tuple #[.slice none 0 0, .int .i64 0, .int .i64 1]) ?_ rfl ⟨outI3_nil, ?_⟩
      · have d0 : (((w1.setCell ⟨w.heap.size + 1, 0, none⟩ (.slice none 0 0)).setCell ⟨w.heap.size + 1 + 1, 0, none⟩ (.int .i64 0)).setCell ⟨w.heap.size + 1 + 1 + 1, 0, none⟩ (.int .i64 1)).cell? ⟨w.heap.size + 1, 0, none⟩ = some (.slice none 0 0) := by go_simp
        have d1 : (((w1.setCell ⟨w.heap.size + 1, 0, none⟩ (.slice none 0 0)).setCell ⟨w.heap.size + 1 + 1, 0, none⟩ (.int .i64 0)).setCell ⟨w.heap.size + 1 + 1 + 1, 0, none⟩ (.int .i64 1)).cell? ⟨w.heap.size + 1 + 1, 0, none⟩ = some (.int .i64 0) := by go_simp
        have d2 : (((w1.setCell ⟨w.heap.size + 1, 0, none⟩ (.slice none 0 0)).setCell ⟨w.heap.size + 1 + 1, 0, none⟩ (.int .i64 0)).setCell ⟨w.heap.size + 1 + 1 + 1, 0, none⟩ (.int .i64 1)).cell? ⟨w.heap.size + 1 + 1 + 1, 0, none⟩ = some (.int .i64 1) := by go_simp
        simp [results, Try.results26, go_sem, d0, d1, d2]
      · repeat' (first
          | (with_reducible exact Below.refl _ _)
          | (with_reducible assumption)
          | (with_reducible refine below_drewN ?_ _)
          | (with_reducible refine Below.drew ?_)
          | (with_reducible refine below_regrown_up _ _ ?_ ?_)
          | (with_reducible refine Below.alloc ?_ ?_ _)
          | (with_reducible refine Below.setCell ?_ ?_ _)
          | (with_reducible refine below_up ?_ ?_ (by assumption))
          | (with_reducible exact Nat.le_refl _)
          | omega
          | (simp; done)
          | (simp; omega))
    · cases h3 : inB ch 0 29
      · rw [stmtR_no (by omega) (by rw [h1, h3]; simp)]
        have h4 : ch < 0 ∨ 30 ≤ ch := by
          have := mt inB_iff.2 (by rw [h3]; simp)
          omega
        rcases h4 with h4 | h4
        all_goals
          go_enter Try.func26, Try.ntmps26
          go_wp2_with (first | (go_at_call 49; refine (isPart_any p d _).mono ?_; rintro e w1 ⟨rfl, hb1⟩; have hz1 := hb1.size; (try simp only [World.size_alloc, World.size_setCell, World.size_drew, size_drewN', size_grow, size_redrawn] at hz1); obtain ⟨hc1, hf1⟩ := bcellB (B := w.heap.size + 4) hb1 (by first | omega | (simp only [World.size_alloc, World.size_setCell, World.size_drew, size_drewN', size_grow, size_redrawn]; omega)); rw [h1]) | (go_at_call 53; refine (areBills_any l A c _ (hs.up (by repeat' (first | (with_reducible exact Below.refl _ _) | (with_reducible assumption) | (with_reducible refine below_drewN ?_ _) | (with_reducible refine Below.drew ?_) | (with_reducible refine below_regrown_up _ _ ?_ ?_) | (with_reducible refine Below.alloc ?_ ?_ _) | (with_reducible refine Below.setCell ?_ ?_ _) | (with_reducible refine below_up ?_ ?_ (by assumption)) | (with_reducible exact Nat.le_refl _) | omega | (simp; done) | (simp; omega)))) (by omega)).mono ?_; rintro e w2 ⟨rfl, hb2⟩; have hz2 := hb2.size; (try simp only [World.size_alloc, World.size_setCell, World.size_drew, size_drewN', size_grow, size_redrawn] at hz2); obtain ⟨hc2, hf2⟩ := bcellB (B := w.heap.size + 4) hb2 (by first | omega | (simp only [World.size_alloc, World.size_setCell, World.size_drew, size_drewN', size_grow, size_redrawn]; omega)); rw [h2]))
          refine bodyPost_ret (v := .tuple #[.slice none 0 0, .int .i64 0, .int .i64 1]) ?_ rfl ⟨outI3_nil, ?_⟩
          · have d0 : (((w1.setCell ⟨w.heap.size + 1, 0, none⟩ (.slice none 0 0)).setCell ⟨w.heap.size + 1 + 1, 0, none⟩ (.int .i64 0)).setCell ⟨w.heap.size + 1 + 1 + 1, 0, none⟩ (.int .i64 1)).cell? ⟨w.heap.size + 1, 0, none⟩ = some (.slice none 0 0) := by go_simp
            have d1 : (((w1.setCell ⟨w.heap.size + 1, 0, none⟩ (.slice none 0 0)).setCell ⟨w.heap.size + 1 + 1, 0, none⟩ (.int .i64 0)).setCell ⟨w.heap.size + 1 + 1 + 1, 0, none⟩ (.int .i64 1)).cell? ⟨w.heap.size + 1 + 1, 0, none⟩ = some (.int .i64 0) := by go_simp
            have d2 : (((w1.setCell ⟨w.heap.size + 1, 0, none⟩ (.slice none 0 0)).setCell ⟨w.heap.size + 1 + 1, 0, none⟩ (.int .i64 0)).setCell ⟨w.heap.size + 1 + 1 + 1, 0, none⟩ (.int .i64 1)).cell? ⟨w.heap.size + 1 + 1 + 1, 0, none⟩ = some (.int .i64 1) := by go_simp
            simp [results, Try.results26, go_sem, d0, d1, d2]
          · repeat' (first
              | (with_reducible exact Below.refl _ _)
              | (with_reducible assumption)
              | (with_reducible refine below_drewN ?_ _)
              | (with_reducible refine Below.drew ?_)
              | (with_reducible refine below_regrown_up _ _ ?_ ?_)
              | (with_reducible refine Below.alloc ?_ ?_ _)
              | (with_reducible refine Below.setCell ?_ ?_ _)
              | (with_reducible refine below_up ?_ ?_ (by assumption))
              | (with_reducible exact Nat.le_refl _)
              | omega
              | (simp; done)
              | (simp; omega))
      · obtain ⟨g0, g1⟩ := inB_iff.1 h3
        cases h2 : billsOk l
        · rw [stmtR_no (by omega) (by rw [h1, h2]; rfl)]
          go_enter Try.func26, Try.ntmps26
          go_wp2_with (first | (go_at_call 49; refine (isPart_any p d _).mono ?_; rintro e w1 ⟨rfl, hb1⟩; have hz1 := hb1.size; (try simp only [World.size_alloc, World.size_setCell, World.size_drew, size_drewN', size_grow, size_redrawn] at hz1); obtain ⟨hc1, hf1⟩ := bcellB (B := w.heap.size + 4) hb1 (by first | omega | (simp only [World.size_alloc, World.size_setCell, World.size_drew, size_drewN', size_grow, size_redrawn]; omega)); rw [h1]) | (go_at_call 53; refine (areBills_any l A c _ (hs.up (by repeat' (first | (with_reducible exact Below.refl _ _) | (with_reducible assumption) | (with_reducible refine below_drewN ?_ _) | (with_reducible refine Below.drew ?_) | (with_reducible refine below_regrown_up _ _ ?_ ?_) | (with_reducible refine Below.alloc ?_ ?_ _) | (with_reducible refine Below.setCell ?_ ?_ _) | (with_reducible refine below_up ?_ ?_ (by assumption)) | (with_reducible exact Nat.le_refl _) | omega | (simp; done) | (simp; omega)))) (by omega)).mono ?_; rintro e w2 ⟨rfl, hb2⟩; have hz2 := hb2.size; (try simp only [World.size_alloc, World.size_setCell, World.size_drew, size_drewN', size_grow, size_redrawn] at hz2); obtain ⟨hc2, hf2⟩ := bcellB (B := w.heap.size + 4) hb2 (by first | omega | (simp only [World.size_alloc, World.size_setCell, World.size_drew, size_drewN', size_grow, size_redrawn]; omega)); rw [h2]))
          refine bodyPost_ret (v := .tuple #[.slice none 0 0, .int .i64 0, .int .i64 1]) ?_ rfl ⟨outI3_nil, ?_⟩
          · have d0 : (((w2.setCell ⟨w.heap.size + 1, 0, none⟩ (.slice none 0 0)).setCell ⟨w.heap.size + 1 + 1, 0, none⟩ (.int .i64 0)).setCell ⟨w.heap.size + 1 + 1 + 1, 0, none⟩ (.int .i64 1)).cell? ⟨w.heap.size + 1, 0, none⟩ = some (.slice none 0 0) := by go_simp
            have d1 : (((w2.setCell ⟨w.heap.size + 1, 0, none⟩ (.slice none 0 0)).setCell ⟨w.heap.size + 1 + 1, 0, none⟩ (.int .i64 0)).setCell ⟨w.heap.size + 1 + 1 + 1, 0, none⟩ (.int .i64 1)).cell? ⟨w.heap.size + 1 + 1, 0, none⟩ = some (.int .i64 0) := by go_simp
            have d2 : (((w2.setCell ⟨w.heap.size + 1, 0, none⟩ (.slice none 0 0)).setCell ⟨w.heap.size + 1 + 1, 0, none⟩ (.int .i64 0)).setCell ⟨w.heap.size + 1 + 1 + 1, 0, none⟩ (.int .i64 1)).cell? ⟨w.heap.size + 1 + 1 + 1, 0, none⟩ = some (.int .i64 1) := by go_simp
            simp [results, Try.results26, go_sem, d0, d1, d2]
          · repeat' (first
              | (with_reducible exact Below.refl _ _)
              | (with_reducible assumption)
              | (with_reducible refine below_drewN ?_ _)
              | (with_reducible refine Below.drew ?_)
              | (with_reducible refine below_regrown_up _ _ ?_ ?_)
              | (with_reducible refine Below.alloc ?_ ?_ _)
              | (with_reducible refine Below.setCell ?_ ?_ _)
              | (with_reducible refine below_up ?_ ?_ (by assumption))
              | (with_reducible exact Nat.le_refl _)
              | omega
              | (simp; done)
              | (simp; omega))
        · exact absurd ⟨by omega, h1, h2, h3⟩ h
end Go.Proofs.Ythnncojbckifnaa
