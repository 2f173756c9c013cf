/-
  Laws of package deposit: matches, refunds, more, vouchers.
-/
import Derived.Test.YthnncojbckifnaaDep4
namespace Go.Proofs.Ythnncojbckifnaa
set_option linter.unusedSimpArgs false
set_option linter.unusedVariables false
open Go.RowKit
open Go.Sort (grow size_grow)

set_option maxHeartbeats 4000000
set_option maxRecDepth 100000
theorem entriesR_len (b : Bill) (paid day : Int) : (entriesR b paid day).1.length ≤ 2 := by
  unfold entriesR
  split
  · simp
  · unfold entriesL
    simp only [List.length_append]
    split <;> split <;> simp
theorem law_dmatch (b : Bill) (paid day due worth : Int) (w : World) :
    Calls Try.prog 3 #[b.v, .int .i64 paid, .int .i64 day, .int .i64 due, .int .i64 worth] w fun e w' => e = .returned (.bool true) ∧ Below w.heap.size w w' := by
  have hlen := entriesR_len b paid day
  obtain ⟨x, y, z, h1⟩ : ∃ x y z, refundR b paid = (x, y, z) := ⟨_, _, _, rfl⟩
  obtain ⟨p, q, r, h2⟩ : ∃ x y z, voucherR due worth = (x, y, z) := ⟨_, _, _, rfl⟩
  obtain ⟨l, er, h3⟩ : ∃ l er, entriesR b paid day = (l, er) := ⟨_, _, rfl⟩
  rw [h3] at hlen
  have hl : l.length ≤ 140737488355328 := by have : l.length ≤ 2 := hlen; omega
  have H1 := Lib.hid h1
  have H2 := Lib.hid h2
  have H3 := Lib.hid h3
  clear h1 h2 h3 hlen
  go_enter Try.func3, Try.ntmps3
  go_wp2_with (first
    | (go_at_call 13; refine (head31_any _).mono ?_; rintro e w1 ⟨rfl, hb1⟩; have hz1 := hb1.size; (try simp only [World.size_alloc, World.size_setCell, World.size_drew, size_drewN', size_grow, size_redrawn] at hz1); obtain ⟨hc1, hf1⟩ := bcellB (B := w.heap.size + 1) hb1 (by first | omega | (simp only [World.size_alloc, World.size_setCell, World.size_drew, size_drewN', size_grow, size_redrawn]; omega)))
    | (go_at_call 14; refine (refund_lit H1.out _).mono ?_; rintro e w2 ⟨rfl, hb2⟩; have hz2 := hb2.size; (try simp only [World.size_alloc, World.size_setCell, World.size_drew, size_drewN', size_grow, size_redrawn] at hz2); obtain ⟨hc2, hf2⟩ := bcellB (B := w.heap.size + 1) hb2 (by first | omega | (simp only [World.size_alloc, World.size_setCell, World.size_drew, size_drewN', size_grow, size_redrawn]; omega)))
    | (go_at_call 15; refine (rrefund_lit H1.out _).mono ?_; rintro e w3 ⟨rfl, hb3⟩; have hz3 := hb3.size; (try simp only [World.size_alloc, World.size_setCell, World.size_drew, size_drewN', size_grow, size_redrawn] at hz3); obtain ⟨hc3, hf3⟩ := bcellB (B := w.heap.size + 1) hb3 (by first | omega | (simp only [World.size_alloc, World.size_setCell, World.size_drew, size_drewN', size_grow, size_redrawn]; omega)))
    | (go_at_call 16; refine (voucher_lit H2.out _).mono ?_; rintro e w' ⟨rfl, rfl⟩)
    | (go_at_call 17; refine (rvoucher_lit H2.out _).mono ?_; rintro e w' ⟨rfl, rfl⟩)
    | (go_at_call 18; refine (entries_lit H3.out _).mono ?_; rintro e w4 ⟨⟨A4, c4, rfl, hc4', hs4⟩, hb4⟩; have hz4 := hb4.size; obtain ⟨hc4, hf4⟩ := bcellB (B := w.heap.size + 1) hb4 (by omega))
    | (go_at_call 19; refine (rentries_lit H3.out _).mono ?_; rintro e w5 ⟨⟨A5, c5, rfl, hc5', hs5⟩, hb5⟩; have hz5 := hb5.size; obtain ⟨hc5, hf5⟩ := bcellB (B := w.heap.size + 1) hb5 (by omega))
    | (go_at_call 20; refine (rsame_any l l A4 A5 c4 c5 _ (hs4.up hb5) hs5 hl hl).mono ?_; rintro e w6 ⟨rfl, hb6⟩; have hz6 := hb6.size; (try simp only [World.size_alloc, World.size_setCell, World.size_drew, size_drewN', size_grow, size_redrawn] at hz6); obtain ⟨hc6, hf6⟩ := bcellB (B := w.heap.size + 1) hb6 (by first | omega | (simp only [World.size_alloc, World.size_setCell, World.size_drew, size_drewN', size_grow, size_redrawn]; omega)); rw [decide_eq_true rfl]))
  go_ret
  refine ⟨ret_bool (by simp), ?_⟩
  repeat' (first
    | (with_reducible exact Below.refl _ _)
    | (with_reducible assumption)
    | (with_reducible refine below_drewN ?_ _)
    | (with_reducible refine Below.drew ?_)
    | (with_reducible refine below_regrown_up _ _ ?_ ?_)
    | (with_reducible refine Below.alloc ?_ ?_ _)
    | (with_reducible refine Below.setCell ?_ ?_ _)
    | (with_reducible refine below_up ?_ ?_ (by assumption))
    | (with_reducible exact Nat.le_refl _)
    | omega
    | (simp; done)
    | (simp; omega))
theorem refundR_facts {b : Bill} {paid : Int} (h1 : b.ok = true) (h2 : amt paid = true) : ∃ x y, refundR b paid = (x, y, 0) ∧ x + y = paid ∧ 0 ≤ x ∧ 0 ≤ y ∧ y ≤ b.keep ∧ (paid < b.keep ∨ y = b.keep) ∧ x ≤ paid := by
  have g1 := inB_iff.1 h2
  have g2 := Bill.ok_iff.1 h1
  refine ⟨_, _, refundR_ok h1 h2, ?_, ?_, ?_, ?_, ?_, ?_⟩ <;> omega
theorem keep_ok {b : Bill} {k : Int} (h : b.ok = true) (h1 : 0 ≤ k) (h2 : k ≤ b.price) : (⟨b.stay, b.channel, b.place, b.kind, b.frm, b.til, b.persons, b.price, k⟩ : Bill).ok = true := by
  obtain ⟨a1, a2, a3, a4, a5, a6, a7, a8⟩ := Bill.ok_iff.1 h
  exact Bill.ok_iff.2 ⟨a1, a2, a3, a4, a5, a6, a7, h1, h2⟩
end Go.Proofs.Ythnncojbckifnaa
