/-
  The law 'CommissionMatchesReference': the walk.
-/
import Derived.Test.YthnncojbckifnaaHead30
namespace Go.Proofs.Ythnncojbckifnaa
set_option linter.unusedSimpArgs false
set_option linter.unusedVariables false
open Go.RowKit
open Go.Sort (grow size_grow)

set_option maxHeartbeats 4000000
set_option maxRecDepth 100000
theorem cmatches_no (p d : Int) (l : List Bill) (A : Option Addr) (c : Nat) (ch : Int) (st : List Int) (B : Option Addr) (cB : Nat) (es : List Entry) (E : Option Addr) (cE : Nat) (w : World)
    (h : (60 < l.length ∧ l.length ≤ 3000) ∨ 100 < st.length ∨ (60 < es.length ∧ es.length ≤ 5000)) :
    Calls Try.prog 7 #[.agg #[.int .i64 p, .int .i64 d], .slice A l.length c, .int .i64 ch, .slice B st.length cB, .slice E es.length cE] w fun e w' => e = .returned (.bool true) ∧ Below w.heap.size w w' := by
  by_cases h1 : (60 : Int) < (l.length : Int) ∧ (l.length : Int) ≤ 3000
  · obtain ⟨a1, a2⟩ := h1
    go_enter Try.func7, Try.ntmps7
    go_wp2_with (go_at_call 23; refine (head30_any _).mono ?_; rintro e w1 ⟨rfl, hb1⟩; have hz1 := hb1.size; (try simp only [World.size_alloc, World.size_setCell, World.size_drew, size_drewN', size_grow, size_redrawn] at hz1); obtain ⟨hc1, hf1⟩ := bcellB (B := w.heap.size + 1) hb1 (by first | omega | (simp only [World.size_alloc, World.size_setCell, World.size_drew, size_drewN', size_grow, size_redrawn]; omega)))
    go_ret
    refine ⟨ret_bool (by simp), ?_⟩
    repeat' (first
      | (with_reducible exact Below.refl _ _)
      | (with_reducible assumption)
      | (with_reducible refine below_drewN ?_ _)
      | (with_reducible refine Below.drew ?_)
      | (with_reducible refine below_regrown_up _ _ ?_ ?_)
      | (with_reducible refine Below.alloc ?_ ?_ _)
      | (with_reducible refine Below.setCell ?_ ?_ _)
      | (with_reducible refine below_up ?_ ?_ (by assumption))
      | (with_reducible exact Nat.le_refl _)
      | omega
      | (simp; done)
      | (simp; omega))
  · by_cases h2 : (100 : Int) < (st.length : Int)
    · rcases (show ¬ (60 : Int) < (l.length : Int) ∨ ((60 : Int) < (l.length : Int) ∧ ¬ (l.length : Int) ≤ 3000) by omega) with a1 | ⟨a1, a2⟩
      all_goals
        go_enter Try.func7, Try.ntmps7
        go_wp2_with (go_at_call 23; refine (head30_any _).mono ?_; rintro e w1 ⟨rfl, hb1⟩; have hz1 := hb1.size; (try simp only [World.size_alloc, World.size_setCell, World.size_drew, size_drewN', size_grow, size_redrawn] at hz1); obtain ⟨hc1, hf1⟩ := bcellB (B := w.heap.size + 1) hb1 (by first | omega | (simp only [World.size_alloc, World.size_setCell, World.size_drew, size_drewN', size_grow, size_redrawn]; omega)))
        go_ret
        refine ⟨ret_bool (by simp), ?_⟩
        repeat' (first
          | (with_reducible exact Below.refl _ _)
          | (with_reducible assumption)
          | (with_reducible refine below_drewN ?_ _)
          | (with_reducible refine Below.drew ?_)
          | (with_reducible refine below_regrown_up _ _ ?_ ?_)
          | (with_reducible refine Below.alloc ?_ ?_ _)
          | (with_reducible refine Below.setCell ?_ ?_ _)
          | (with_reducible refine below_up ?_ ?_ (by assumption))
          | (with_reducible exact Nat.le_refl _)
          | omega
          | (simp; done)
          | (simp; omega))
    · have h3 : (60 : Int) < (es.length : Int) := by omega
      have h4 : (es.length : Int) ≤ 5000 := by omega
      rcases (show ¬ (60 : Int) < (l.length : Int) ∨ ((60 : Int) < (l.length : Int) ∧ ¬ (l.length : Int) ≤ 3000) by omega) with a1 | ⟨a1, a2⟩
      all_goals
        go_enter Try.func7, Try.ntmps7
        go_wp2_with (go_at_call 23; refine (head30_any _).mono ?_; rintro e w1 ⟨rfl, hb1⟩; have hz1 := hb1.size; (try simp only [World.size_alloc, World.size_setCell, World.size_drew, size_drewN', size_grow, size_redrawn] at hz1); obtain ⟨hc1, hf1⟩ := bcellB (B := w.heap.size + 1) hb1 (by first | omega | (simp only [World.size_alloc, World.size_setCell, World.size_drew, size_drewN', size_grow, size_redrawn]; omega)))
        go_ret
        refine ⟨ret_bool (by simp), ?_⟩
        repeat' (first
          | (with_reducible exact Below.refl _ _)
          | (with_reducible assumption)
          | (with_reducible refine below_drewN ?_ _)
          | (with_reducible refine Below.drew ?_)
          | (with_reducible refine below_regrown_up _ _ ?_ ?_)
          | (with_reducible refine Below.alloc ?_ ?_ _)
          | (with_reducible refine Below.setCell ?_ ?_ _)
          | (with_reducible refine below_up ?_ ?_ (by assumption))
          | (with_reducible exact Nat.le_refl _)
          | omega
          | (simp; done)
          | (simp; omega))
theorem cmatches_yes (p d : Int) (l : List Bill) (A : Option Addr) (c : Nat) (ch : Int) (st : List Int) (B : Option Addr) (cB : Nat) (es : List Entry) (E : Option Addr) (cE : Nat) (w : World)
    (hs : SlBill w A l) (hl0 : l.length ≤ maxLen) (c0 : -9223372036854775808 ≤ ch) (c1 : ch ≤ 9223372036854775807) (hst : SlInt w B st) (hst0 : st.length ≤ maxLen) (hse : SlEnt w E es) (hse0 : es.length ≤ 140737488355328)
    (a1 : ¬ ((60 : Int) < (l.length : Int) ∧ (l.length : Int) ≤ 3000)) (a2 : ¬ (100 : Int) < (st.length : Int)) (a3 : ¬ ((60 : Int) < (es.length : Int) ∧ (es.length : Int) ≤ 5000))
    (r : List Int) (s er : Int) (hr : stmtR p d l ch = (r, s, er)) (hrl : r.length ≤ 1000000000000) (x : Bool) (ea : Int) (hg : agreesR p d l ch st es = (x, ea)) :
    Calls Try.prog 7 #[.agg #[.int .i64 p, .int .i64 d], .slice A l.length c, .int .i64 ch, .slice B st.length cB, .slice E es.length cE] w fun e w' => e = .returned (.bool true) ∧ Below w.heap.size w w' := by
  have HS := Lib.hid hr
  have HG := Lib.hid hg
  clear hr hg
  have b1 : ((¬ (60 : Int) < (l.length : Int)) ∨ ((60 : Int) < (l.length : Int) ∧ ¬ (l.length : Int) ≤ 3000)) := by omega
  have b3 : ((¬ (60 : Int) < (es.length : Int)) ∨ ((60 : Int) < (es.length : Int) ∧ ¬ (es.length : Int) ≤ 5000)) := by omega
  clear a1 a3
  by_cases hn : 0 < l.length
  · obtain ⟨y, ey, hone⟩ : ∃ y ey, oneR p d l[0] = (y, ey) := ⟨_, _, rfl⟩
    have H1 := Lib.hid hone
    clear hone
    have hn1 : (0 : Int) < (l.length : Int) := by omega
    have hs' := hs
    obtain ⟨bk, off, hA, hbl, hcell⟩ := hs.at_ hn
    subst hA
    have q0 := hcell 0 _ rfl
    have q1 := hcell 1 _ rfl
    have q2 := hcell 2 _ rfl
    have q3 := hcell 3 _ rfl
    have q4 := hcell 4 _ rfl
    have q5 := hcell 5 _ rfl
    have q6 := hcell 6 _ rfl
    have q7 := hcell 7 _ rfl
    have q8 := hcell 8 _ rfl
    rw [Nat.add_zero] at q0
    clear hcell
    simp only [Nat.zero_mul, Nat.add_zero] at q0 q1 q2 q3 q4 q5 q6 q7 q8
    rcases b1 with a1 | ⟨a1, a1'⟩ <;> rcases b3 with a3 | ⟨a3, a3'⟩
    all_goals
      go_enter Try.func7, Try.ntmps7
      go_wp2_with (go_at_call 23; refine (head30_any _).mono ?_; rintro e w1 ⟨rfl, hb1⟩; have hz1 := hb1.size; (try simp only [World.size_alloc, World.size_setCell, World.size_drew, size_drewN', size_grow, size_redrawn] at hz1); obtain ⟨hc1, hf1⟩ := bcellB (B := w.heap.size + 1) hb1 (by first | omega | (simp only [World.size_alloc, World.size_setCell, World.size_drew, size_drewN', size_grow, size_redrawn]; omega)))
      have hB1 : Below w.heap.size w w1 := (by repeat' (first | (with_reducible exact Below.refl _ _) | (with_reducible assumption) | (with_reducible refine below_drewN ?_ _) | (with_reducible refine Below.drew ?_) | (with_reducible refine below_regrown_up _ _ ?_ ?_) | (with_reducible refine Below.alloc ?_ ?_ _) | (with_reducible refine Below.setCell ?_ ?_ _) | (with_reducible refine below_up ?_ ?_ (by assumption)) | (with_reducible exact Nat.le_refl _) | omega | (simp; done) | (simp; omega)))
      have lt1 : w.heap.size < w1.heap.size := by omega
      have lt2 : bk < w1.heap.size := by omega
      have hgr := regrown_cells w1 (B := w.heap.size + 1) (by omega)
      refine wp_region_quiet_below (by kernel_rfl) (by kernel_rfl) ?_
      repeat (quiet_step ((go_at_call 24; exact quiet_b (cone_any H1.out _))))
      refine wpQuiet_nil ?_
      intro _ hw'
      obtain ⟨⟨dq, osq⟩, hw''⟩ := hw'
      subst hw''
      have hb2 := below_regrown w1 dq osq
      clear hgr
      generalize grow (redrawn w1 dq) osq = w2 at hb2 ⊢
      have hz2 := hb2.size
      (try simp only [World.size_alloc, World.size_setCell, World.size_drew, size_drewN', size_grow, size_redrawn] at hz2)
      obtain ⟨hc2, hf2⟩ := bcellB (B := w.heap.size + 1) hb2 (by first | omega | (simp only [World.size_alloc, World.size_setCell, World.size_drew, size_drewN', size_grow, size_redrawn]; omega))
      go_wp2_with fail
      have lt3 : w.heap.size < w2.heap.size := by omega
      have lt4 : bk < w2.heap.size := by omega
      have hgr := regrown_cells w2 (B := w.heap.size + 1) (by omega)
      refine wp_region_quiet_below (by kernel_rfl) (by kernel_rfl) ?_
      repeat (quiet_step ((go_at_call 25; exact quiet_b (rcone_any H1.out _))))
      refine wpQuiet_nil ?_
      intro _ hw'
      obtain ⟨⟨dq, osq⟩, hw''⟩ := hw'
      subst hw''
      have hb3 := below_regrown w2 dq osq
      clear hgr
      generalize grow (redrawn w2 dq) osq = w3 at hb3 ⊢
      have hz3 := hb3.size
      (try simp only [World.size_alloc, World.size_setCell, World.size_drew, size_drewN', size_grow, size_redrawn] at hz3)
      obtain ⟨hc3, hf3⟩ := bcellB (B := w.heap.size + 1) hb3 (by first | omega | (simp only [World.size_alloc, World.size_setCell, World.size_drew, size_drewN', size_grow, size_redrawn]; omega))
      go_wp2_with fail
      have hB3 := below_up (below_up hB1 (by omega) hb2) (by omega) hb3
      have hz3' := hb3.size
      refine (cstmt_lit HS.out _ c _ (hs.up hB3) hl0).mono ?_
      rintro e w4 ⟨⟨A4, c4, rfl, hs4⟩, hb4⟩
      have hz4 := hb4.size
      obtain ⟨hc4, hf4⟩ := bcellB (B := w.heap.size + 1) hb4 (by omega)
      have hB4 := below_up hB3 (by omega) hb4
      go_wp2_with fail
      refine (rstmt_lit HS.out _ c _ (hs.up hB4) hl0 c0 c1).mono ?_
      rintro e w5 ⟨⟨A5, c5, rfl, hs5⟩, hb5⟩
      have hz5 := hb5.size
      obtain ⟨hc5, hf5⟩ := bcellB (B := w.heap.size + 1) hb5 (by omega)
      have hB5 := below_up hB4 (by omega) hb5
      go_wp2_with fail
      refine (same30_any r r A4 A5 c4 c5 _ (hs4.up hb5) hs5 hrl hrl).mono ?_
      rintro e w6 ⟨rfl, hb6⟩; have hz6 := hb6.size; (try simp only [World.size_alloc, World.size_setCell, World.size_drew, size_drewN', size_grow, size_redrawn] at hz6); obtain ⟨hc6, hf6⟩ := bcellB (B := w.heap.size + 1) hb6 (by first | omega | (simp only [World.size_alloc, World.size_setCell, World.size_drew, size_drewN', size_grow, size_redrawn]; omega))
      rw [decide_eq_true rfl]
      have hB6 := below_up hB5 (by omega) hb6
      go_wp2_with fail
      refine (cagrees_lit HG.out _ c _ cB _ cE _ (hs.up hB6) hl0 (hst.up hB6) hst0 (hse.up hB6) hse0).mono ?_
      rintro e w7 ⟨rfl, hb7⟩; have hz7 := hb7.size; (try simp only [World.size_alloc, World.size_setCell, World.size_drew, size_drewN', size_grow, size_redrawn] at hz7); obtain ⟨hc7, hf7⟩ := bcellB (B := w.heap.size + 1) hb7 (by first | omega | (simp only [World.size_alloc, World.size_setCell, World.size_drew, size_drewN', size_grow, size_redrawn]; omega))
      have hB7 := below_up hB6 (by omega) hb7
      go_wp2_with fail
      refine (ragrees_lit HG.out _ c _ cB _ cE _ (hs.up hB7) hl0 c0 c1 (hst.up hB7) hst0 (hse.up hB7) hse0).mono ?_
      rintro e w8 ⟨rfl, hb8⟩; have hz8 := hb8.size; (try simp only [World.size_alloc, World.size_setCell, World.size_drew, size_drewN', size_grow, size_redrawn] at hz8); obtain ⟨hc8, hf8⟩ := bcellB (B := w.heap.size + 1) hb8 (by first | omega | (simp only [World.size_alloc, World.size_setCell, World.size_drew, size_drewN', size_grow, size_redrawn]; omega))
      go_wp2_with fail
      go_ret
      refine ⟨ret_bool (by simp), below_up hB7 (by omega) hb8⟩
  · have hn1 : ¬ (0 : Int) < (l.length : Int) := by omega
    have a1 : ¬ (60 : Int) < (l.length : Int) := by omega
    clear b1
    rcases b3 with a3 | ⟨a3, a3'⟩
    all_goals
      go_enter Try.func7, Try.ntmps7
      go_wp2_with (go_at_call 23; refine (head30_any _).mono ?_; rintro e w1 ⟨rfl, hb1⟩; have hz1 := hb1.size; (try simp only [World.size_alloc, World.size_setCell, World.size_drew, size_drewN', size_grow, size_redrawn] at hz1); obtain ⟨hc1, hf1⟩ := bcellB (B := w.heap.size + 1) hb1 (by first | omega | (simp only [World.size_alloc, World.size_setCell, World.size_drew, size_drewN', size_grow, size_redrawn]; omega)))
      have hB1 : Below w.heap.size w w1 := (by repeat' (first | (with_reducible exact Below.refl _ _) | (with_reducible assumption) | (with_reducible refine below_drewN ?_ _) | (with_reducible refine Below.drew ?_) | (with_reducible refine below_regrown_up _ _ ?_ ?_) | (with_reducible refine Below.alloc ?_ ?_ _) | (with_reducible refine Below.setCell ?_ ?_ _) | (with_reducible refine below_up ?_ ?_ (by assumption)) | (with_reducible exact Nat.le_refl _) | omega | (simp; done) | (simp; omega)))
      have lt1 : w.heap.size < w1.heap.size := by omega
      refine (cstmt_lit HS.out _ c _ (hs.up hB1) hl0).mono ?_
      rintro e w4 ⟨⟨A4, c4, rfl, hs4⟩, hb4⟩
      have hz4 := hb4.size
      obtain ⟨hc4, hf4⟩ := bcellB (B := w.heap.size + 1) hb4 (by omega)
      have hB4 := below_up hB1 (by omega) hb4
      go_wp2_with fail
      refine (rstmt_lit HS.out _ c _ (hs.up hB4) hl0 c0 c1).mono ?_
      rintro e w5 ⟨⟨A5, c5, rfl, hs5⟩, hb5⟩
      have hz5 := hb5.size
      obtain ⟨hc5, hf5⟩ := bcellB (B := w.heap.size + 1) hb5 (by omega)
      have hB5 := below_up hB4 (by omega) hb5
      go_wp2_with fail
      refine (same30_any r r A4 A5 c4 c5 _ (hs4.up hb5) hs5 hrl hrl).mono ?_
      rintro e w6 ⟨rfl, hb6⟩; have hz6 := hb6.size; (try simp only [World.size_alloc, World.size_setCell, World.size_drew, size_drewN', size_grow, size_redrawn] at hz6); obtain ⟨hc6, hf6⟩ := bcellB (B := w.heap.size + 1) hb6 (by first | omega | (simp only [World.size_alloc, World.size_setCell, World.size_drew, size_drewN', size_grow, size_redrawn]; omega))
      rw [decide_eq_true rfl]
      have hB6 := below_up hB5 (by omega) hb6
      go_wp2_with fail
      refine (cagrees_lit HG.out _ c _ cB _ cE _ (hs.up hB6) hl0 (hst.up hB6) hst0 (hse.up hB6) hse0).mono ?_
      rintro e w7 ⟨rfl, hb7⟩; have hz7 := hb7.size; (try simp only [World.size_alloc, World.size_setCell, World.size_drew, size_drewN', size_grow, size_redrawn] at hz7); obtain ⟨hc7, hf7⟩ := bcellB (B := w.heap.size + 1) hb7 (by first | omega | (simp only [World.size_alloc, World.size_setCell, World.size_drew, size_drewN', size_grow, size_redrawn]; omega))
      have hB7 := below_up hB6 (by omega) hb7
      go_wp2_with fail
      refine (ragrees_lit HG.out _ c _ cB _ cE _ (hs.up hB7) hl0 c0 c1 (hst.up hB7) hst0 (hse.up hB7) hse0).mono ?_
      rintro e w8 ⟨rfl, hb8⟩; have hz8 := hb8.size; (try simp only [World.size_alloc, World.size_setCell, World.size_drew, size_drewN', size_grow, size_redrawn] at hz8); obtain ⟨hc8, hf8⟩ := bcellB (B := w.heap.size + 1) hb8 (by first | omega | (simp only [World.size_alloc, World.size_setCell, World.size_drew, size_drewN', size_grow, size_redrawn]; omega))
      go_wp2_with fail
      go_ret
      refine ⟨ret_bool (by simp), below_up hB7 (by omega) hb8⟩
theorem law_cmatches (p d : Int) (l : List Bill) (A : Option Addr) (c : Nat) (ch : Int) (st : List Int) (B : Option Addr) (cB : Nat) (es : List Entry) (E : Option Addr) (cE : Nat) (w : World)
    (hs : SlBill w A l) (hl0 : l.length ≤ maxLen) (c0 : -9223372036854775808 ≤ ch) (c1 : ch ≤ 9223372036854775807) (hst : SlInt w B st) (hst0 : st.length ≤ maxLen) (hse : SlEnt w E es) (hse0 : es.length ≤ 140737488355328) :
    Calls Try.prog 7 #[.agg #[.int .i64 p, .int .i64 d], .slice A l.length c, .int .i64 ch, .slice B st.length cB, .slice E es.length cE] w fun e w' => e = .returned (.bool true) ∧ Below w.heap.size w w' := by
  by_cases h : (60 < l.length ∧ l.length ≤ 3000) ∨ 100 < st.length ∨ (60 < es.length ∧ es.length ≤ 5000)
  · exact cmatches_no p d l A c ch st B cB es E cE w h
  · refine cmatches_yes p d l A c ch st B cB es E cE w hs hl0 c0 c1 hst hst0 hse hse0 (by omega) (by omega) (by omega) (stmtR p d l ch).1 (stmtR p d l ch).2.1 (stmtR p d l ch).2.2 rfl ?_ (agreesR p d l ch st es).1 (agreesR p d l ch st es).2 rfl
    rcases stmtR_cases p d l ch with ⟨er, hr, _⟩ | ⟨h0, _, _, _, _, hr⟩
    · rw [hr]; simp
    · rw [hr]
      have := ofCh_len l ch
      show (comms p d (ofCh l ch)).length ≤ _
      unfold comms
      rw [List.length_map]
      omega
end Go.Proofs.Ythnncojbckifnaa
