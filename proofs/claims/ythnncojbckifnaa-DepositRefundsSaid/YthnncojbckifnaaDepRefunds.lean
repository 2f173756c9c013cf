/-
  A law of package deposit.
-/
import Derived.Test.YthnncojbckifnaaDep5
namespace Go.Proofs.Ythnncojbckifnaa
set_option linter.unusedSimpArgs false
set_option linter.unusedVariables false
open Go.RowKit
open Go.Sort (grow size_grow)

set_option maxHeartbeats 4000000
set_option maxRecDepth 100000
theorem law_drefunds (b : Bill) (paid : Int) (w : World) :
    Calls Try.prog 4 #[b.v, .int .i64 paid] w fun e w' => e = .returned (.bool true) ∧ Below w.heap.size w w' := by
  cases h1 : b.ok
  · go_enter Try.func4, Try.ntmps4
    go_wp2_with (first | (go_at_call 13; refine (head31_any _).mono ?_; rintro e w1 ⟨rfl, hb1⟩; have hz1 := hb1.size; (try simp only [World.size_alloc, World.size_setCell, World.size_drew, size_drewN', size_grow, size_redrawn] at hz1); obtain ⟨hc1, hf1⟩ := bcellB (B := w.heap.size + 1) hb1 (by first | omega | (simp only [World.size_alloc, World.size_setCell, World.size_drew, size_drewN', size_grow, size_redrawn]; omega))) | (go_at_call 21; refine (rbill_any b _).mono ?_; rintro e w2 ⟨rfl, hb2⟩; have hz2 := hb2.size; (try simp only [World.size_alloc, World.size_setCell, World.size_drew, size_drewN', size_grow, size_redrawn] at hz2); obtain ⟨hc2, hf2⟩ := bcellB (B := w.heap.size + 1) hb2 (by first | omega | (simp only [World.size_alloc, World.size_setCell, World.size_drew, size_drewN', size_grow, size_redrawn]; omega))); rw [h1] | (go_at_call 22; refine (ramount_any _ _).mono ?_; rintro e w' ⟨rfl, rfl⟩))
    go_ret
    refine ⟨ret_bool (by simp), ?_⟩
    repeat' (first
      | (with_reducible exact Below.refl _ _)
      | (with_reducible assumption)
      | (with_reducible refine below_drewN ?_ _)
      | (with_reducible refine Below.drew ?_)
      | (with_reducible refine below_regrown_up _ _ ?_ ?_)
      | (with_reducible refine Below.alloc ?_ ?_ _)
      | (with_reducible refine Below.setCell ?_ ?_ _)
      | (with_reducible refine below_up ?_ ?_ (by assumption))
      | (with_reducible exact Nat.le_refl _)
      | omega
      | (simp; done)
      | (simp; omega))
  · cases h2 : amt paid
    · go_enter Try.func4, Try.ntmps4
      go_wp2_with (first | (go_at_call 13; refine (head31_any _).mono ?_; rintro e w1 ⟨rfl, hb1⟩; have hz1 := hb1.size; (try simp only [World.size_alloc, World.size_setCell, World.size_drew, size_drewN', size_grow, size_redrawn] at hz1); obtain ⟨hc1, hf1⟩ := bcellB (B := w.heap.size + 1) hb1 (by first | omega | (simp only [World.size_alloc, World.size_setCell, World.size_drew, size_drewN', size_grow, size_redrawn]; omega))) | (go_at_call 21; refine (rbill_any b _).mono ?_; rintro e w2 ⟨rfl, hb2⟩; have hz2 := hb2.size; (try simp only [World.size_alloc, World.size_setCell, World.size_drew, size_drewN', size_grow, size_redrawn] at hz2); obtain ⟨hc2, hf2⟩ := bcellB (B := w.heap.size + 1) hb2 (by first | omega | (simp only [World.size_alloc, World.size_setCell, World.size_drew, size_drewN', size_grow, size_redrawn]; omega))); rw [h1] | (go_at_call 22; refine (ramount_any _ _).mono ?_; rintro e w' ⟨rfl, rfl⟩); rw [h2])
      go_ret
      refine ⟨ret_bool (by simp), ?_⟩
      repeat' (first
        | (with_reducible exact Below.refl _ _)
        | (with_reducible assumption)
        | (with_reducible refine below_drewN ?_ _)
        | (with_reducible refine Below.drew ?_)
        | (with_reducible refine below_regrown_up _ _ ?_ ?_)
        | (with_reducible refine Below.alloc ?_ ?_ _)
        | (with_reducible refine Below.setCell ?_ ?_ _)
        | (with_reducible refine below_up ?_ ?_ (by assumption))
        | (with_reducible exact Nat.le_refl _)
        | omega
        | (simp; done)
        | (simp; omega))
    · obtain ⟨x, y, e1, f1, f2, f3, f4, f5, f6⟩ := refundR_facts h1 h2
      have g := (Bill.ok_iff.1 h1).2.2.2.2.2.2
      obtain ⟨⟨g1, g2⟩, g3, g4⟩ := g
      have ga := inB_iff.1 h2
      obtain ⟨x1, y1, e2, k1, k2, k3, k4, k5, k6⟩ := refundR_facts (keep_ok (k := b.price) h1 (by omega) (by omega)) h2
      obtain ⟨x2, y2, e3, m1, m2, m3, m4, m5, m6⟩ := refundR_facts (keep_ok (k := 0) h1 (by omega) (by omega)) h2
      simp only at k4 k5 m4 m5
      have n1 : y2 = 0 := by omega
      have n2 : x2 = paid := by omega
      subst n1 n2
      have w1 : IntKind.i64.wrap (x + y) = x + y := IntWalk.i64_in _ (by omega)
      have w2 : IntKind.i64.wrap (x1 + y1) = x1 + y1 := IntWalk.i64_in _ (by omega)
      have b1 : (x + y == x2) = true := by rw [beq_iff_eq]; exact f1
      have b2 : (x1 + y1 == x2) = true := by rw [beq_iff_eq]; exact k1
      have E1 := Lib.hid e1
      have E2 := Lib.hid e2
      have E3 := Lib.hid e3
      clear e1 e2 e3 f1 k1 m1 m2 m3 m4 m5 m6
      by_cases hp : x2 < b.keep
      · clear f5
        go_enter Try.func4, Try.ntmps4
        go_wp2_with (first
          | (go_at_call 13; refine (head31_any _).mono ?_; rintro e w1 ⟨rfl, hb1⟩; have hz1 := hb1.size; (try simp only [World.size_alloc, World.size_setCell, World.size_drew, size_drewN', size_grow, size_redrawn] at hz1); obtain ⟨hc1, hf1⟩ := bcellB (B := w.heap.size + 1) hb1 (by first | omega | (simp only [World.size_alloc, World.size_setCell, World.size_drew, size_drewN', size_grow, size_redrawn]; omega)))
          | (go_at_call 21; refine (rbill_any b _).mono ?_; rintro e w2 ⟨rfl, hb2⟩; have hz2 := hb2.size; (try simp only [World.size_alloc, World.size_setCell, World.size_drew, size_drewN', size_grow, size_redrawn] at hz2); obtain ⟨hc2, hf2⟩ := bcellB (B := w.heap.size + 1) hb2 (by first | omega | (simp only [World.size_alloc, World.size_setCell, World.size_drew, size_drewN', size_grow, size_redrawn]; omega))); rw [h1]
          | (go_at_call 22; refine (ramount_any _ _).mono ?_; rintro e w' ⟨rfl, rfl⟩); rw [h2])
        refine (refund_lit E1.out _).mono ?_
        rintro e w3 ⟨rfl, hb3⟩; have hz3 := hb3.size; (try simp only [World.size_alloc, World.size_setCell, World.size_drew, size_drewN', size_grow, size_redrawn] at hz3); obtain ⟨hc3, hf3⟩ := bcellB (B := w.heap.size + 1) hb3 (by first | omega | (simp only [World.size_alloc, World.size_setCell, World.size_drew, size_drewN', size_grow, size_redrawn]; omega))
        have la3a : w.heap.size < w3.heap.size := (by omega); have lb3a : w.heap.size < w3.heap.size + 1 := (by omega); have lc3a : w.heap.size < w3.heap.size + 1 + 1 := (by omega); have ld3a : w.heap.size < w3.heap.size + 1 + 1 + 1 := (by omega); have le3a : w.heap.size < w3.heap.size + 1 + 1 + 1 + 1 := (by omega)
        go_wp2_with fail
        refine (refund_lit E2.out _).mono ?_
        rintro e w4 ⟨rfl, hb4⟩; have hz4 := hb4.size; (try simp only [World.size_alloc, World.size_setCell, World.size_drew, size_drewN', size_grow, size_redrawn] at hz4); obtain ⟨hc4, hf4⟩ := bcellB (B := w3.heap.size + 1 + 1) hb4 (by first | omega | (simp only [World.size_alloc, World.size_setCell, World.size_drew, size_drewN', size_grow, size_redrawn]; omega))
        go_wp2_with fail
        refine (refund_lit E3.out _).mono ?_
        rintro e w5 ⟨rfl, hb5⟩; have hz5 := hb5.size; (try simp only [World.size_alloc, World.size_setCell, World.size_drew, size_drewN', size_grow, size_redrawn] at hz5); obtain ⟨hc5, hf5⟩ := bcellB (B := w3.heap.size + 1 + 1) hb5 (by first | omega | (simp only [World.size_alloc, World.size_setCell, World.size_drew, size_drewN', size_grow, size_redrawn]; omega))
        go_wp2_with fail
        go_ret
        refine ⟨ret_bool (by simp), ?_⟩
        repeat' (first
          | (with_reducible exact Below.refl _ _)
          | (with_reducible assumption)
          | (with_reducible refine below_drewN ?_ _)
          | (with_reducible refine Below.drew ?_)
          | (with_reducible refine below_regrown_up _ _ ?_ ?_)
          | (with_reducible refine Below.alloc ?_ ?_ _)
          | (with_reducible refine Below.setCell ?_ ?_ _)
          | (with_reducible refine below_up ?_ ?_ (by assumption))
          | (with_reducible exact Nat.le_refl _)
          | omega
          | (simp; done)
          | (simp; omega))
      · have f7 : (y == b.keep) = true := by rw [beq_iff_eq]; omega
        have f8 : b.keep ≤ x2 := by omega
        clear f5
        go_enter Try.func4, Try.ntmps4
        go_wp2_with (first
          | (go_at_call 13; refine (head31_any _).mono ?_; rintro e w1 ⟨rfl, hb1⟩; have hz1 := hb1.size; (try simp only [World.size_alloc, World.size_setCell, World.size_drew, size_drewN', size_grow, size_redrawn] at hz1); obtain ⟨hc1, hf1⟩ := bcellB (B := w.heap.size + 1) hb1 (by first | omega | (simp only [World.size_alloc, World.size_setCell, World.size_drew, size_drewN', size_grow, size_redrawn]; omega)))
          | (go_at_call 21; refine (rbill_any b _).mono ?_; rintro e w2 ⟨rfl, hb2⟩; have hz2 := hb2.size; (try simp only [World.size_alloc, World.size_setCell, World.size_drew, size_drewN', size_grow, size_redrawn] at hz2); obtain ⟨hc2, hf2⟩ := bcellB (B := w.heap.size + 1) hb2 (by first | omega | (simp only [World.size_alloc, World.size_setCell, World.size_drew, size_drewN', size_grow, size_redrawn]; omega))); rw [h1]
          | (go_at_call 22; refine (ramount_any _ _).mono ?_; rintro e w' ⟨rfl, rfl⟩); rw [h2])
        refine (refund_lit E1.out _).mono ?_
        rintro e w3 ⟨rfl, hb3⟩; have hz3 := hb3.size; (try simp only [World.size_alloc, World.size_setCell, World.size_drew, size_drewN', size_grow, size_redrawn] at hz3); obtain ⟨hc3, hf3⟩ := bcellB (B := w.heap.size + 1) hb3 (by first | omega | (simp only [World.size_alloc, World.size_setCell, World.size_drew, size_drewN', size_grow, size_redrawn]; omega))
        have la3a : w.heap.size < w3.heap.size := (by omega); have lb3a : w.heap.size < w3.heap.size + 1 := (by omega); have lc3a : w.heap.size < w3.heap.size + 1 + 1 := (by omega); have ld3a : w.heap.size < w3.heap.size + 1 + 1 + 1 := (by omega); have le3a : w.heap.size < w3.heap.size + 1 + 1 + 1 + 1 := (by omega)
        go_wp2_with fail
        refine (refund_lit E2.out _).mono ?_
        rintro e w4 ⟨rfl, hb4⟩; have hz4 := hb4.size; (try simp only [World.size_alloc, World.size_setCell, World.size_drew, size_drewN', size_grow, size_redrawn] at hz4); obtain ⟨hc4, hf4⟩ := bcellB (B := w3.heap.size + 1 + 1) hb4 (by first | omega | (simp only [World.size_alloc, World.size_setCell, World.size_drew, size_drewN', size_grow, size_redrawn]; omega))
        go_wp2_with fail
        refine (refund_lit E3.out _).mono ?_
        rintro e w5 ⟨rfl, hb5⟩; have hz5 := hb5.size; (try simp only [World.size_alloc, World.size_setCell, World.size_drew, size_drewN', size_grow, size_redrawn] at hz5); obtain ⟨hc5, hf5⟩ := bcellB (B := w3.heap.size + 1 + 1) hb5 (by first | omega | (simp only [World.size_alloc, World.size_setCell, World.size_drew, size_drewN', size_grow, size_redrawn]; omega))
        go_wp2_with fail
        go_ret
        refine ⟨ret_bool (by simp), ?_⟩
        repeat' (first
          | (with_reducible exact Below.refl _ _)
          | (with_reducible assumption)
          | (with_reducible refine below_drewN ?_ _)
          | (with_reducible refine Below.drew ?_)
          | (with_reducible refine below_regrown_up _ _ ?_ ?_)
          | (with_reducible refine Below.alloc ?_ ?_ _)
          | (with_reducible refine Below.setCell ?_ ?_ _)
          | (with_reducible refine below_up ?_ ?_ (by assumption))
          | (with_reducible exact Nat.le_refl _)
          | omega
          | (simp; done)
          | (simp; omega))

end Go.Proofs.Ythnncojbckifnaa
