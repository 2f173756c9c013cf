/-
  The law 'TaxMatchesReference': the walk.
-/
import Derived.Test.YtdbdjhgcmcbiaaaTaxArgs
namespace Go.Proofs.Ytdbdjhgcmcbiaaa
set_option linter.unusedSimpArgs false
set_option linter.unusedVariables false
open Go.RowKit Go.Maps
open Go.Sort (grow size_grow)

set_option maxHeartbeats 4000000
set_option maxRecDepth 100000
theorem allT_len (l : List Tax) (b : Bill) : (allT l b).1.length ≤ l.length := by
  unfold allT
  split
  · simp
  · split
    · simp
    · split
      · simp
      · simp
theorem law_matches (l : List Tax) (b : Bill) (A : Option Addr) (c : Nat) (w : World) (hs : SlTax w A l) (hl0 : l.length ≤ maxLen) :
    Calls Try.prog 3 #[.slice A l.length c, b.v] w fun e w' => e = .returned (.bool true) ∧ Below w.heap.size w w' := by
  by_cases h60 : l.length ≤ 60
  · have hl : l.length ≤ 1000000000000 := by omega
    clear hl0
    have h6 : (l.length : Int) ≤ 60 := by omega
    go_enter Try.func3, Try.ntmps3
    go_wp2_with (go_at_call 15; refine (head29_any _).mono ?_; rintro e w1 ⟨rfl, hb1⟩; have hz1 := hb1.size; (try simp only [World.size_alloc, World.size_setCell, World.size_drew, size_drewN', size_grow, size_redrawn] at hz1); obtain ⟨hc1, hf1⟩ := bcellB (B := w.heap.size + 1) hb1 (by first | omega | (simp only [World.size_alloc, World.size_setCell, World.size_drew, size_drewN', size_grow, size_redrawn]; omega)); have la10 : w.heap.size < w1.heap.size := (by omega); have lb10 : w.heap.size < w1.heap.size + 1 := (by omega); have lc10 : w.heap.size < w1.heap.size + 1 + 1 := (by omega); have ld10 : w.heap.size < w1.heap.size + 1 + 1 + 1 := (by omega); have le10 : w.heap.size < w1.heap.size + 1 + 1 + 1 + 1 := (by omega))
    have hb0 : Below w.heap.size w w1 := by
      repeat' (first
        | (with_reducible exact Below.refl _ _)
        | (with_reducible assumption)
        | (with_reducible refine below_drewN ?_ _)
        | (with_reducible refine Below.drew ?_)
        | (with_reducible refine below_regrown_up _ _ ?_ ?_)
        | (with_reducible refine Below.alloc ?_ ?_ _)
        | (with_reducible refine Below.setCell ?_ ?_ _)
        | (with_reducible refine below_up ?_ ?_ (by assumption))
        | (with_reducible exact Nat.le_refl _)
        | omega
        | (simp; done)
        | (simp; omega))
    refine (tvalid_any l A c _ ((hs.below hb0).more hb0.size) hl).mono ?_
    rintro e w2 ⟨rfl, hb2⟩; have hz2 := hb2.size; (try simp only [World.size_alloc, World.size_setCell, World.size_drew, size_drewN', size_grow, size_redrawn] at hz2); obtain ⟨hc2, hf2⟩ := bcellB (B := w.heap.size + 1) hb2 (by first | omega | (simp only [World.size_alloc, World.size_setCell, World.size_drew, size_drewN', size_grow, size_redrawn]; omega))
    have hb02 := below_up hb0 (by omega) hb2
    go_wp2_with fail
    refine (rtvalid_any l A c _ ((hs.below hb02).more hb02.size) hl).mono ?_
    rintro e w3 ⟨rfl, hb3⟩; have hz3 := hb3.size; (try simp only [World.size_alloc, World.size_setCell, World.size_drew, size_drewN', size_grow, size_redrawn] at hz3); obtain ⟨hc3, hf3⟩ := bcellB (B := w.heap.size + 1) hb3 (by first | omega | (simp only [World.size_alloc, World.size_setCell, World.size_drew, size_drewN', size_grow, size_redrawn]; omega))
    have hb03 := below_up hb02 (by omega) hb3
    go_wp2_with fail
    go_loopw [5, 6] (fun up i wr => ∃ m : Nat, m ≤ l.length ∧ i = .int .i64 m ∧ up = .bool true ∧ Below w3.heap.size w3 wr) (fun _ i _ => l.length - (intOf i).toNat)
    case atStart => exact ⟨0, by omega, rfl, by simp, Below.refl _ _⟩
    case round =>
      obtain ⟨m, hm, rfl, rfl, hbw⟩ := hrel
      have hbz := hbw.size
      have hb0w := below_up hb03 (by omega) hbw
      obtain ⟨hcw, hfw⟩ := bcellB (B := w.heap.size + 1) hbw (by omega)
      by_cases hlt : m < l.length
      · obtain ⟨bk, off, rfl, hbl, hcell⟩ := hs.at_ hlt
        have q0 := hcell 0 _ rfl
        have q1 := hcell 1 _ rfl
        have q2 := hcell 2 _ rfl
        have q3 := hcell 3 _ rfl
        have q4 := hcell 4 _ rfl
        have q5 := hcell 5 _ rfl
        have q6 := hcell 6 _ rfl
        rw [Nat.add_zero] at q0
        clear hcell
        have hbl2 : bk < w.heap.size + 1 := by omega
        have hx1 : (m : Int) < (l.length : Int) := by omega
        have hx4 : (0 : Int) ≤ (m : Int) := by omega
        go_wp2_with fail
        have hgr := regrown_cells wr (B := w.heap.size + 1) (by omega)
        refine wp_region_quiet_below (by kernel_rfl) (by kernel_rfl) ?_
        repeat (quiet_step ((go_at_call 18; exact quiet_b (one_any l[m] b _))))
        refine wpQuiet_nil ?_
        intro _ hw'
        obtain ⟨⟨dq, osq⟩, hw''⟩ := hw'
        subst hw''
        have hb4 := below_regrown wr dq osq
        clear hgr
        generalize grow (redrawn wr dq) osq = w4 at hb4 ⊢
        have hz4 := hb4.size
        (try simp only [World.size_alloc, World.size_setCell, World.size_drew, size_drewN', size_grow, size_redrawn] at hz4)
        obtain ⟨hc4, hf4⟩ := bcellB (B := w.heap.size + 1) hb4 (by first | omega | (simp only [World.size_alloc, World.size_setCell, World.size_drew, size_drewN', size_grow, size_redrawn]; omega))
        go_wp2_with fail
        have hgr := regrown_cells w4 (B := w.heap.size + 1) (by omega)
        refine wp_region_quiet_below (by kernel_rfl) (by kernel_rfl) ?_
        repeat (quiet_step ((go_at_call 19; exact quiet_b (rone_any l[m] b _))))
        refine wpQuiet_nil ?_
        intro _ hw'
        obtain ⟨⟨dq, osq⟩, hw''⟩ := hw'
        subst hw''
        have hb5 := below_regrown w4 dq osq
        clear hgr
        generalize grow (redrawn w4 dq) osq = w5 at hb5 ⊢
        have hz5 := hb5.size
        (try simp only [World.size_alloc, World.size_setCell, World.size_drew, size_drewN', size_grow, size_redrawn] at hz5)
        obtain ⟨hc5, hf5⟩ := bcellB (B := w.heap.size + 1) hb5 (by first | omega | (simp only [World.size_alloc, World.size_setCell, World.size_drew, size_drewN', size_grow, size_redrawn]; omega))
        go_wp2_with fail
        go_roundw
        case rel =>
          refine ⟨m + 1, by omega, by go_num, by simp, ?_⟩
          repeat' (first
            | (with_reducible exact Below.refl _ _)
            | (with_reducible assumption)
            | (with_reducible refine below_drewN ?_ _)
            | (with_reducible refine Below.drew ?_)
            | (with_reducible refine below_regrown_up _ _ ?_ ?_)
            | (with_reducible refine Below.alloc ?_ ?_ _)
            | (with_reducible refine Below.setCell ?_ ?_ _)
            | (with_reducible refine below_up ?_ ?_ (by assumption))
            | (with_reducible exact Nat.le_refl _)
            | omega
            | (simp; done)
            | (simp; omega))
        case measure => simp [intOf]; omega
      · obtain rfl : m = l.length := by omega
        go_wp2_with fail
        refine (tall_any l b A c _ ((hs.below hb0w).more hb0w.size) hl).mono ?_
        rintro e w4 ⟨⟨A4, c4, rfl, hsl4⟩, hb4⟩
        have hz4 := hb4.size
        have hb04 := below_up hb0w (by omega) hb4
        obtain ⟨hc4, hf4⟩ := bcellB (B := w.heap.size + 1) hb4 (by omega)
        go_wp2_with fail
        refine (rall_any l b A c _ ((hs.below hb04).more hb04.size) hl).mono ?_
        rintro e w5 ⟨⟨A5, c5, rfl, hsl5⟩, hb5⟩
        have hz5 := hb5.size
        have hb05 := below_up hb04 (by omega) hb5
        have hn : (allT l b).1.length ≤ 1000000000000 := by have := allT_len l b; omega
        go_wp2_with fail
        refine (same_ints_any (allT l b).1 (allT l b).1 _ _ _ _ _ ((hsl4.below hb5).more hb5.size) hsl5 hn hn).mono ?_
        rintro e w6 ⟨rfl, hb6⟩
        rw [decide_eq_true rfl]
        go_wp2_with fail
        go_ret
        refine ⟨ret_bool (by simp), ?_⟩
        repeat' (first
          | (with_reducible exact Below.refl _ _)
          | (with_reducible assumption)
          | (with_reducible refine below_drewN ?_ _)
          | (with_reducible refine Below.drew ?_)
          | (with_reducible refine below_regrown_up _ _ ?_ ?_)
          | (with_reducible refine Below.alloc ?_ ?_ _)
          | (with_reducible refine Below.setCell ?_ ?_ _)
          | (with_reducible refine below_up ?_ ?_ (by assumption))
          | (with_reducible exact Nat.le_refl _)
          | omega
          | (simp; done)
          | (simp; omega))
  · have h6 : 60 < (l.length : Int) := by omega
    unfold maxLen at hl0
    go_enter Try.func3, Try.ntmps3
    go_wp2_with (go_at_call 15; refine (head29_any _).mono ?_; rintro e w1 ⟨rfl, hb1⟩; have hz1 := hb1.size; (try simp only [World.size_alloc, World.size_setCell, World.size_drew, size_drewN', size_grow, size_redrawn] at hz1); obtain ⟨hc1, hf1⟩ := bcellB (B := w.heap.size + 1) hb1 (by first | omega | (simp only [World.size_alloc, World.size_setCell, World.size_drew, size_drewN', size_grow, size_redrawn]; omega)); have la10 : w.heap.size < w1.heap.size := (by omega); have lb10 : w.heap.size < w1.heap.size + 1 := (by omega); have lc10 : w.heap.size < w1.heap.size + 1 + 1 := (by omega); have ld10 : w.heap.size < w1.heap.size + 1 + 1 + 1 := (by omega); have le10 : w.heap.size < w1.heap.size + 1 + 1 + 1 + 1 := (by omega))
    go_ret
    refine ⟨rfl, ?_⟩
    repeat' (first
      | (with_reducible exact Below.refl _ _)
      | (with_reducible assumption)
      | (with_reducible refine below_drewN ?_ _)
      | (with_reducible refine Below.drew ?_)
      | (with_reducible refine below_regrown_up _ _ ?_ ?_)
      | (with_reducible refine Below.alloc ?_ ?_ _)
      | (with_reducible refine Below.setCell ?_ ?_ _)
      | (with_reducible refine below_up ?_ ?_ (by assumption))
      | (with_reducible exact Nat.le_refl _)
      | omega
      | (simp; done)
      | (simp; omega))
end Go.Proofs.Ytdbdjhgcmcbiaaa
