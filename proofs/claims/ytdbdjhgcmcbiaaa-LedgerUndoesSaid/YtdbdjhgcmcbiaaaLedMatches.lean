/-
  The law 'LedgerMatchesReference': the walk.
-/
import Derived.Test.YtdbdjhgcmcbiaaaLedHead
namespace Go.Proofs.Ytdbdjhgcmcbiaaa
set_option linter.unusedSimpArgs false
set_option linter.unusedVariables false
open Go.RowKit
open Go.Sort (grow size_grow)

set_option maxHeartbeats 4000000
set_option maxRecDepth 100000

theorem few_any (n : Nat) (A : Option Addr) (c : Nat) (w : World) (hn : n ≤ maxLen) : Calls Try.prog 25 #[.slice A n c] w fun e w' => e = .returned (.bool (decide ((n : Int) ≤ 60))) ∧ w = w' := by
  unfold maxLen at hn
  go_enter Try.func25, Try.ntmps25
  go_wp2
  go_ret
  exact ⟨rfl, rfl⟩
theorem postR_len (l : List Entry) (x : Entry) : (postR l x).1.length ≤ l.length + 1 := by
  rcases postR_cases l x with ⟨_, h⟩ | ⟨_, _, _, h⟩ | ⟨_, _, _, _, h⟩ | ⟨_, _, _, _, h⟩ <;> rw [h] <;> simp
theorem undoR_len (l : List Entry) (ref day : Int) : (undoR l ref day).1.length ≤ l.length + l.length := by
  have := openE_le l ref
  rcases undoR_cases l ref day with ⟨_, h⟩ | ⟨_, _, _, ⟨_, h⟩ | ⟨_, _, h⟩ | ⟨_, _, _, h⟩ | ⟨_, _, _, h⟩⟩ <;> rw [h] <;> simp
  omega
theorem law_lmatches (l : List Entry) (x : Entry) (a k ref day : Int) (A : Option Addr) (c : Nat) (w : World) (hs : SlEnt w A l) (hl0 : l.length ≤ maxLen) :
    Calls Try.prog 10 #[.slice A l.length c, x.v, .int .i64 a, .int .i64 k, .int .i64 ref, .int .i64 day] w fun e w' => e = .returned (.bool true) ∧ Below w.heap.size w w' := by
  by_cases h60 : l.length ≤ 60
  · have hl : l.length ≤ 140737488355328 := by omega
    have h6 : (l.length : Int) ≤ 60 := by omega
    go_enter Try.func10, Try.ntmps10
    go_wp2_with (first
      | (go_at_call 24; refine (head28_any _).mono ?_; rintro e w1 ⟨rfl, hb1⟩; have hz1 := hb1.size; (try simp only [World.size_alloc, World.size_setCell, World.size_drew, size_drewN', size_grow, size_redrawn] at hz1); obtain ⟨hc1, hf1⟩ := bcellB (B := w.heap.size + 1) hb1 (by first | omega | (simp only [World.size_alloc, World.size_setCell, World.size_drew, size_drewN', size_grow, size_redrawn]; omega)))
      | (go_at_call 25; refine (few_any _ _ _ _ hl0).mono ?_; rintro e w' ⟨rfl, rfl⟩; rw [decide_eq_true h6]))
    have hB1 : Below w.heap.size w w1 := by
      repeat' (first
        | (with_reducible exact Below.refl _ _)
        | (with_reducible assumption)
        | (with_reducible refine below_drewN ?_ _)
        | (with_reducible refine Below.drew ?_)
        | (with_reducible refine below_regrown_up _ _ ?_ ?_)
        | (with_reducible refine Below.alloc ?_ ?_ _)
        | (with_reducible refine Below.setCell ?_ ?_ _)
        | (with_reducible refine below_up ?_ ?_ (by assumption))
        | (with_reducible exact Nat.le_refl _)
        | omega
        | (simp; done)
        | (simp; omega))
    refine (post_any l x A c _ (hs.up hB1) hl).mono ?_
    rintro e w2 ⟨⟨A2, c2, rfl, _, hs2⟩, hb2⟩
    have hz2 := hb2.size
    obtain ⟨hc2, hf2⟩ := bcellB (B := w.heap.size + 1) hb2 (by omega)
    have hB2 := below_up hB1 hB1.size hb2
    go_wp2_with fail
    refine (rpost_any l x A c _ (hs.up hB2) hl).mono ?_
    rintro e w3 ⟨⟨A3, c3, rfl, _, hs3⟩, hb3⟩
    have hz3 := hb3.size
    obtain ⟨hc3, hf3⟩ := bcellB (B := w.heap.size + 1) hb3 (by omega)
    have hB3 := below_up hB2 hB2.size hb3
    have hn1 : (postR l x).1.length ≤ 140737488355328 := by have := postR_len l x; omega
    have hn2 : (undoR l ref day).1.length ≤ 140737488355328 := by have := undoR_len l ref day; omega
    go_wp2_with fail
    refine (lvalid_any l A c _ (hs.up hB3) hl).mono ?_
    rintro e w4 ⟨rfl, hb4⟩
    have hz4 := hb4.size
    obtain ⟨hc4, hf4⟩ := bcellB (B := w.heap.size + 1) hb4 (by omega)
    have hB4 := below_up hB3 hB3.size hb4
    go_wp2_with fail
    refine (rlvalid_any l A c _ (hs.up hB4) hl).mono ?_
    rintro e w5 ⟨rfl, hb5⟩
    have hz5 := hb5.size
    obtain ⟨hc5, hf5⟩ := bcellB (B := w.heap.size + 1) hb5 (by omega)
    have hB5 := below_up hB4 hB4.size hb5
    have hb35 := below_up hb4 hz4 hb5
    have hb25 := below_up hb3 hz3 hb35
    go_wp2_with fail
    refine (rsame_any (postR l x).1 (postR l x).1 A2 A3 c2 c3 _ (hs2.up hb25) (hs3.up hb35) hn1 hn1).mono ?_
    rintro e w6 ⟨rfl, hb6⟩
    rw [decide_eq_true rfl]
    have hz6 := hb6.size
    obtain ⟨hc6, hf6⟩ := bcellB (B := w.heap.size + 1) hb6 (by omega)
    have hB6 := below_up hB5 hB5.size hb6
    go_wp2_with fail
    refine (lbalance_any l A c a day _ (hs.up hB6) hl).mono ?_
    rintro e w7 ⟨rfl, hb7⟩
    have hz7 := hb7.size
    obtain ⟨hc7, hf7⟩ := bcellB (B := w.heap.size + 1) hb7 (by omega)
    have hB7 := below_up hB6 hB6.size hb7
    go_wp2_with fail
    refine (rbalance_any l A c a day _ (hs.up hB7) hl).mono ?_
    rintro e w8 ⟨rfl, hb8⟩
    have hz8 := hb8.size
    obtain ⟨hc8, hf8⟩ := bcellB (B := w.heap.size + 1) hb8 (by omega)
    have hB8 := below_up hB7 hB7.size hb8
    go_wp2_with fail
    refine (lkind_any l A c k day _ (hs.up hB8) hl).mono ?_
    rintro e w9 ⟨rfl, hb9⟩
    have hz9 := hb9.size
    obtain ⟨hc9, hf9⟩ := bcellB (B := w.heap.size + 1) hb9 (by omega)
    have hB9 := below_up hB8 hB8.size hb9
    go_wp2_with fail
    refine (rkind_any l A c k day _ (hs.up hB9) hl).mono ?_
    rintro e w10 ⟨rfl, hb10⟩
    have hz10 := hb10.size
    obtain ⟨hc10, hf10⟩ := bcellB (B := w.heap.size + 1) hb10 (by omega)
    have hB10 := below_up hB9 hB9.size hb10
    go_wp2_with fail
    refine (undo_any l A c ref day _ (hs.up hB10) hl).mono ?_
    rintro e w11 ⟨⟨A11, c11, rfl, _, hs11⟩, hb11⟩
    have hz11 := hb11.size
    obtain ⟨hc11, hf11⟩ := bcellB (B := w.heap.size + 1) hb11 (by omega)
    have hB11 := below_up hB10 hB10.size hb11
    go_wp2_with fail
    refine (rundo_any l A c ref day _ (hs.up hB11) hl).mono ?_
    rintro e w12 ⟨⟨A12, c12, rfl, _, hs12⟩, hb12⟩
    have hz12 := hb12.size
    obtain ⟨hc12, hf12⟩ := bcellB (B := w.heap.size + 1) hb12 (by omega)
    have hB12 := below_up hB11 hB11.size hb12
    go_wp2_with fail
    refine (rsame_any (undoR l ref day).1 (undoR l ref day).1 A11 A12 c11 c12 _ (hs11.up hb12) hs12 hn2 hn2).mono ?_
    rintro e w13 ⟨rfl, hb13⟩
    rw [decide_eq_true rfl]
    go_wp2_with fail
    go_ret
    exact ⟨ret_bool (by simp), below_up hB12 hB12.size hb13⟩
  · have h6 : ¬ (l.length : Int) ≤ 60 := by omega
    go_enter Try.func10, Try.ntmps10
    go_wp2_with (first
      | (go_at_call 24; refine (head28_any _).mono ?_; rintro e w1 ⟨rfl, hb1⟩; have hz1 := hb1.size; (try simp only [World.size_alloc, World.size_setCell, World.size_drew, size_drewN', size_grow, size_redrawn] at hz1); obtain ⟨hc1, hf1⟩ := bcellB (B := w.heap.size + 1) hb1 (by first | omega | (simp only [World.size_alloc, World.size_setCell, World.size_drew, size_drewN', size_grow, size_redrawn]; omega)))
      | (go_at_call 25; refine (few_any _ _ _ _ hl0).mono ?_; rintro e w' ⟨rfl, rfl⟩; rw [show decide ((l.length : Int) ≤ 60) = false from decide_eq_false (by omega)]))
    go_ret
    refine ⟨rfl, ?_⟩
    repeat' (first
      | (with_reducible exact Below.refl _ _)
      | (with_reducible assumption)
      | (with_reducible refine below_drewN ?_ _)
      | (with_reducible refine Below.drew ?_)
      | (with_reducible refine below_regrown_up _ _ ?_ ?_)
      | (with_reducible refine Below.alloc ?_ ?_ _)
      | (with_reducible refine Below.setCell ?_ ?_ _)
      | (with_reducible refine below_up ?_ ?_ (by assumption))
      | (with_reducible exact Nat.le_refl _)
      | omega
      | (simp; done)
      | (simp; omega))
end Go.Proofs.Ytdbdjhgcmcbiaaa
