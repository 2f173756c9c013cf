/-
  A law of package deposit: who has paid more.
-/
import Derived.Test.YthnncojbckifnaaDep5
namespace Go.Proofs.Ythnncojbckifnaa
set_option linter.unusedSimpArgs false
set_option linter.unusedVariables false
open Go.RowKit
open Go.Sort (grow size_grow)

set_option maxHeartbeats 4000000
set_option maxRecDepth 100000
theorem law_dmore (b : Bill) (paid u v : Int) (w : World) (u0 : 0 ≤ u) (u1 : u ≤ 65535) (v0 : 0 ≤ v) (v1 : v ≤ 65535) :
    Calls Try.prog 5 #[b.v, .int .i64 paid, .int .u16 u, .int .u16 v] w fun e w' => e = .returned (.bool true) ∧ Below w.heap.size w w' := by
  cases h1 : b.ok
  · go_enter Try.func5, Try.ntmps5
    go_wp2_with (first
      | (go_at_call 13; refine (head31_any _).mono ?_; rintro e w1 ⟨rfl, hb1⟩; have hz1 := hb1.size; (try simp only [World.size_alloc, World.size_setCell, World.size_drew, size_drewN', size_grow, size_redrawn] at hz1); obtain ⟨hc1, hf1⟩ := bcellB (B := w.heap.size + 1) hb1 (by first | omega | (simp only [World.size_alloc, World.size_setCell, World.size_drew, size_drewN', size_grow, size_redrawn]; omega)))
      | (go_at_call 21; refine (rbill_any b _).mono ?_; rintro e w2 ⟨rfl, hb2⟩; have hz2 := hb2.size; (try simp only [World.size_alloc, World.size_setCell, World.size_drew, size_drewN', size_grow, size_redrawn] at hz2); obtain ⟨hc2, hf2⟩ := bcellB (B := w.heap.size + 1) hb2 (by first | omega | (simp only [World.size_alloc, World.size_setCell, World.size_drew, size_drewN', size_grow, size_redrawn]; omega))); rw [h1]
      | (go_at_call 22; refine (ramount_any _ _).mono ?_; rintro e w' ⟨rfl, rfl⟩); first | rw [h2] | rw [h3])
    go_ret
    refine ⟨ret_bool (by simp), ?_⟩
    repeat' (first
      | (with_reducible exact Below.refl _ _)
      | (with_reducible assumption)
      | (with_reducible refine below_drewN ?_ _)
      | (with_reducible refine Below.drew ?_)
      | (with_reducible refine below_regrown_up _ _ ?_ ?_)
      | (with_reducible refine Below.alloc ?_ ?_ _)
      | (with_reducible refine Below.setCell ?_ ?_ _)
      | (with_reducible refine below_up ?_ ?_ (by assumption))
      | (with_reducible exact Nat.le_refl _)
      | omega
      | (simp; done)
      | (simp; omega))
  · cases h2 : amt paid
    · go_enter Try.func5, Try.ntmps5
      go_wp2_with (first
        | (go_at_call 13; refine (head31_any _).mono ?_; rintro e w1 ⟨rfl, hb1⟩; have hz1 := hb1.size; (try simp only [World.size_alloc, World.size_setCell, World.size_drew, size_drewN', size_grow, size_redrawn] at hz1); obtain ⟨hc1, hf1⟩ := bcellB (B := w.heap.size + 1) hb1 (by first | omega | (simp only [World.size_alloc, World.size_setCell, World.size_drew, size_drewN', size_grow, size_redrawn]; omega)))
        | (go_at_call 21; refine (rbill_any b _).mono ?_; rintro e w2 ⟨rfl, hb2⟩; have hz2 := hb2.size; (try simp only [World.size_alloc, World.size_setCell, World.size_drew, size_drewN', size_grow, size_redrawn] at hz2); obtain ⟨hc2, hf2⟩ := bcellB (B := w.heap.size + 1) hb2 (by first | omega | (simp only [World.size_alloc, World.size_setCell, World.size_drew, size_drewN', size_grow, size_redrawn]; omega))); rw [h1]
        | (go_at_call 22; refine (ramount_any _ _).mono ?_; rintro e w' ⟨rfl, rfl⟩); first | rw [h2] | rw [h3])
      go_ret
      refine ⟨ret_bool (by simp), ?_⟩
      repeat' (first
        | (with_reducible exact Below.refl _ _)
        | (with_reducible assumption)
        | (with_reducible refine below_drewN ?_ _)
        | (with_reducible refine Below.drew ?_)
        | (with_reducible refine below_regrown_up _ _ ?_ ?_)
        | (with_reducible refine Below.alloc ?_ ?_ _)
        | (with_reducible refine Below.setCell ?_ ?_ _)
        | (with_reducible refine below_up ?_ ?_ (by assumption))
        | (with_reducible exact Nat.le_refl _)
        | omega
        | (simp; done)
        | (simp; omega))
    · have ga := inB_iff.1 h2
      have hw1 : IntKind.i64.wrap (paid + u) = paid + u := IntWalk.i64_in _ (by omega)
      obtain ⟨⟨g1, g2⟩, g3, g4⟩ := (Bill.ok_iff.1 h1).2.2.2.2.2.2
      have hw2 : IntKind.i64.wrap (b.keep + v) = b.keep + v := IntWalk.i64_in _ (by omega)
      cases h3 : amt (paid + u)
      · go_enter Try.func5, Try.ntmps5
        go_wp2_with (first
          | (go_at_call 13; refine (head31_any _).mono ?_; rintro e w1 ⟨rfl, hb1⟩; have hz1 := hb1.size; (try simp only [World.size_alloc, World.size_setCell, World.size_drew, size_drewN', size_grow, size_redrawn] at hz1); obtain ⟨hc1, hf1⟩ := bcellB (B := w.heap.size + 1) hb1 (by first | omega | (simp only [World.size_alloc, World.size_setCell, World.size_drew, size_drewN', size_grow, size_redrawn]; omega)))
          | (go_at_call 21; refine (rbill_any b _).mono ?_; rintro e w2 ⟨rfl, hb2⟩; have hz2 := hb2.size; (try simp only [World.size_alloc, World.size_setCell, World.size_drew, size_drewN', size_grow, size_redrawn] at hz2); obtain ⟨hc2, hf2⟩ := bcellB (B := w.heap.size + 1) hb2 (by first | omega | (simp only [World.size_alloc, World.size_setCell, World.size_drew, size_drewN', size_grow, size_redrawn]; omega))); rw [h1]
          | (go_at_call 22; refine (ramount_any _ _).mono ?_; rintro e w' ⟨rfl, rfl⟩); first | rw [h2] | rw [h3])
        go_ret
        refine ⟨ret_bool (by simp), ?_⟩
        repeat' (first
          | (with_reducible exact Below.refl _ _)
          | (with_reducible assumption)
          | (with_reducible refine below_drewN ?_ _)
          | (with_reducible refine Below.drew ?_)
          | (with_reducible refine below_regrown_up _ _ ?_ ?_)
          | (with_reducible refine Below.alloc ?_ ?_ _)
          | (with_reducible refine Below.setCell ?_ ?_ _)
          | (with_reducible refine below_up ?_ ?_ (by assumption))
          | (with_reducible exact Nat.le_refl _)
          | omega
          | (simp; done)
          | (simp; omega))
      · by_cases h4 : b.price < b.keep + v
        · go_enter Try.func5, Try.ntmps5
          go_wp2_with (first
            | (go_at_call 13; refine (head31_any _).mono ?_; rintro e w1 ⟨rfl, hb1⟩; have hz1 := hb1.size; (try simp only [World.size_alloc, World.size_setCell, World.size_drew, size_drewN', size_grow, size_redrawn] at hz1); obtain ⟨hc1, hf1⟩ := bcellB (B := w.heap.size + 1) hb1 (by first | omega | (simp only [World.size_alloc, World.size_setCell, World.size_drew, size_drewN', size_grow, size_redrawn]; omega)))
            | (go_at_call 21; refine (rbill_any b _).mono ?_; rintro e w2 ⟨rfl, hb2⟩; have hz2 := hb2.size; (try simp only [World.size_alloc, World.size_setCell, World.size_drew, size_drewN', size_grow, size_redrawn] at hz2); obtain ⟨hc2, hf2⟩ := bcellB (B := w.heap.size + 1) hb2 (by first | omega | (simp only [World.size_alloc, World.size_setCell, World.size_drew, size_drewN', size_grow, size_redrawn]; omega))); rw [h1]
            | (go_at_call 22; refine (ramount_any _ _).mono ?_; rintro e w' ⟨rfl, rfl⟩); first | rw [h2] | rw [h3])
          go_ret
          refine ⟨ret_bool (by simp), ?_⟩
          repeat' (first
            | (with_reducible exact Below.refl _ _)
            | (with_reducible assumption)
            | (with_reducible refine below_drewN ?_ _)
            | (with_reducible refine Below.drew ?_)
            | (with_reducible refine below_regrown_up _ _ ?_ ?_)
            | (with_reducible refine Below.alloc ?_ ?_ _)
            | (with_reducible refine Below.setCell ?_ ?_ _)
            | (with_reducible refine below_up ?_ ?_ (by assumption))
            | (with_reducible exact Nat.le_refl _)
            | omega
            | (simp; done)
            | (simp; omega))
        · have h5 : b.keep + v ≤ b.price := by omega
          have e1 := refundR_ok h1 h2
          have e2 := refundR_ok h1 h3
          have e3 := refundR_ok (keep_ok (k := b.keep + v) h1 (by omega) h5) h2
          simp only at e3
          obtain ⟨x, hx⟩ : ∃ x, paid - min paid b.keep = x := ⟨_, rfl⟩
          obtain ⟨x', hx'⟩ : ∃ x, min paid b.keep = x := ⟨_, rfl⟩
          obtain ⟨y, hy⟩ : ∃ x, paid + u - min (paid + u) b.keep = x := ⟨_, rfl⟩
          obtain ⟨y', hy'⟩ : ∃ x, min (paid + u) b.keep = x := ⟨_, rfl⟩
          obtain ⟨z, hz⟩ : ∃ x, paid - min paid (b.keep + v) = x := ⟨_, rfl⟩
          obtain ⟨z', hz'⟩ : ∃ x, min paid (b.keep + v) = x := ⟨_, rfl⟩
          rw [hx, hx'] at e1
          rw [hy, hy'] at e2
          rw [hz, hz'] at e3
          have gb := inB_iff.1 h3
          have c1 : x ≤ y := by omega
          have c2 : y - x ≤ u := by omega
          have c3 : z ≤ x := by omega
          have c4 : x - z ≤ v := by omega
          have d1 : IntKind.i64.wrap (y - x) = y - x := IntWalk.i64_in _ (by omega)
          have d2 : IntKind.i64.wrap (x - z) = x - z := IntWalk.i64_in _ (by omega)
          have f2 : 0 ≤ x ∧ x ≤ 1000000000 ∧ 0 ≤ y ∧ y ≤ 1000000000 ∧ 0 ≤ z ∧ z ≤ 1000000000 := by omega
          have E1 := Lib.hid e1
          have E2 := Lib.hid e2
          have E3 := Lib.hid e3
          clear e1 e2 e3 hx hx' hy hy' hz hz' h4
          go_enter Try.func5, Try.ntmps5
          go_wp2_with (first
            | (go_at_call 13; refine (head31_any _).mono ?_; rintro e w1 ⟨rfl, hb1⟩; have hz1 := hb1.size; (try simp only [World.size_alloc, World.size_setCell, World.size_drew, size_drewN', size_grow, size_redrawn] at hz1); obtain ⟨hc1, hf1⟩ := bcellB (B := w.heap.size + 1) hb1 (by first | omega | (simp only [World.size_alloc, World.size_setCell, World.size_drew, size_drewN', size_grow, size_redrawn]; omega)))
            | (go_at_call 21; refine (rbill_any b _).mono ?_; rintro e w2 ⟨rfl, hb2⟩; have hz2 := hb2.size; (try simp only [World.size_alloc, World.size_setCell, World.size_drew, size_drewN', size_grow, size_redrawn] at hz2); obtain ⟨hc2, hf2⟩ := bcellB (B := w.heap.size + 1) hb2 (by first | omega | (simp only [World.size_alloc, World.size_setCell, World.size_drew, size_drewN', size_grow, size_redrawn]; omega))); rw [h1]; have la2a : w.heap.size < w2.heap.size := (by omega); have lb2a : w.heap.size < w2.heap.size + 1 := (by omega); have lc2a : w.heap.size < w2.heap.size + 1 + 1 := (by omega); have ld2a : w.heap.size < w2.heap.size + 1 + 1 + 1 := (by omega); have le2a : w.heap.size < w2.heap.size + 1 + 1 + 1 + 1 := (by omega)
            | (go_at_call 22; refine (ramount_any _ _).mono ?_; rintro e w' ⟨rfl, rfl⟩); first | rw [h2] | rw [h3])
          refine (refund_lit E1.out _).mono ?_
          rintro e w3 ⟨rfl, hb3⟩; have hz3 := hb3.size; (try simp only [World.size_alloc, World.size_setCell, World.size_drew, size_drewN', size_grow, size_redrawn] at hz3); obtain ⟨hc3, hf3⟩ := bcellB (B := w2.heap.size + 1) hb3 (by first | omega | (simp only [World.size_alloc, World.size_setCell, World.size_drew, size_drewN', size_grow, size_redrawn]; omega))
          have la3a : w.heap.size < w3.heap.size := (by omega); have lb3a : w.heap.size < w3.heap.size + 1 := (by omega); have lc3a : w.heap.size < w3.heap.size + 1 + 1 := (by omega); have ld3a : w.heap.size < w3.heap.size + 1 + 1 + 1 := (by omega); have le3a : w.heap.size < w3.heap.size + 1 + 1 + 1 + 1 := (by omega)
          go_wp2_with fail
          refine (refund_lit E2.out _).mono ?_
          rintro e w4 ⟨rfl, hb4⟩; have hz4 := hb4.size; (try simp only [World.size_alloc, World.size_setCell, World.size_drew, size_drewN', size_grow, size_redrawn] at hz4); obtain ⟨hc4, hf4⟩ := bcellB (B := w2.heap.size + 1) hb4 (by first | omega | (simp only [World.size_alloc, World.size_setCell, World.size_drew, size_drewN', size_grow, size_redrawn]; omega))
          go_wp2_with fail
          refine (refund_lit E3.out _).mono ?_
          rintro e w5 ⟨rfl, hb5⟩; have hz5 := hb5.size; (try simp only [World.size_alloc, World.size_setCell, World.size_drew, size_drewN', size_grow, size_redrawn] at hz5); obtain ⟨hc5, hf5⟩ := bcellB (B := w2.heap.size + 1) hb5 (by first | omega | (simp only [World.size_alloc, World.size_setCell, World.size_drew, size_drewN', size_grow, size_redrawn]; omega))
          go_wp2_with fail
          go_ret
          refine ⟨ret_bool (by simp), ?_⟩
          repeat' (first
            | (with_reducible exact Below.refl _ _)
            | (with_reducible assumption)
            | (with_reducible refine below_drewN ?_ _)
            | (with_reducible refine Below.drew ?_)
            | (with_reducible refine below_regrown_up _ _ ?_ ?_)
            | (with_reducible refine Below.alloc ?_ ?_ _)
            | (with_reducible refine Below.setCell ?_ ?_ _)
            | (with_reducible refine below_up ?_ ?_ (by assumption))
            | (with_reducible exact Nat.le_refl _)
            | omega
            | (simp; done)
            | (simp; omega))
end Go.Proofs.Ythnncojbckifnaa
