/-
  A law of package deposit.
-/
import Derived.Test.YthnncojbckifnaaDep5
namespace Go.Proofs.Ythnncojbckifnaa
set_option linter.unusedSimpArgs false
set_option linter.unusedVariables false
open Go.RowKit
open Go.Sort (grow size_grow)

set_option maxHeartbeats 4000000
set_option maxRecDepth 100000

theorem law_dvouchers (due one two : Int) (w : World) (b0 : -9223372036854775808 ≤ one ∧ one ≤ 9223372036854775807) :
    Calls Try.prog 6 #[.int .i64 due, .int .i64 one, .int .i64 two] w fun e w' => e = .returned (.bool true) ∧ Below w.heap.size w w' := by
  by_cases h : (amt due = true ∧ amt one = true ∧ amt two = true) ∧ amt (one + two) = true
  · obtain ⟨⟨h1, h2, h3⟩, h4⟩ := h
    have g1 := inB_iff.1 h1
    have g2 := inB_iff.1 h2
    have g3 := inB_iff.1 h3
    have g4 := inB_iff.1 h4
    have hw : IntKind.i64.wrap (one + two) = one + two := IntWalk.i64_in _ (by omega)
    have e1 := voucherR_ok h1 h2
    have hd : amt (due - min due one) = true := inB_iff.2 (by omega)
    have e2 := voucherR_ok hd h3
    have e3 := voucherR_ok h1 h4
    obtain ⟨pay, hpay⟩ : ∃ p, min due one = p := ⟨_, rfl⟩
    obtain ⟨more, hmore⟩ : ∃ p, min (due - pay) two = p := ⟨_, rfl⟩
    obtain ⟨all, hall⟩ : ∃ p, min due (one + two) = p := ⟨_, rfl⟩
    rw [hpay] at e1 e2
    rw [hmore] at e2
    rw [hall] at e3
    obtain ⟨left, hleft⟩ : ∃ p, one - pay = p := ⟨_, rfl⟩
    obtain ⟨rest, hrest⟩ : ∃ p, two - more = p := ⟨_, rfl⟩
    obtain ⟨ends, hend⟩ : ∃ p, one + two - all = p := ⟨_, rfl⟩
    rw [hleft] at e1
    rw [hrest] at e2
    rw [hend] at e3
    have c1 : 0 ≤ pay := by omega
    have c2 : pay ≤ due := by omega
    have c3 : pay ≤ one := by omega
    have c4 : (pay + left != one) = false := by simp; omega
    have c5 : (pay + more == all) = true := by rw [beq_iff_eq]; omega
    have c6 : (left + rest == ends) = true := by rw [beq_iff_eq]; omega
    have d1 : IntKind.i64.wrap (pay + left) = pay + left := IntWalk.i64_in _ (by omega)
    have d2 : IntKind.i64.wrap (pay + more) = pay + more := IntWalk.i64_in _ (by omega)
    have d3 : IntKind.i64.wrap (left + rest) = left + rest := IntWalk.i64_in _ (by omega)
    have d4 : IntKind.i64.wrap (due - pay) = due - pay := IntWalk.i64_in _ (by omega)
    have E1 := Lib.hid e1
    have E2 := Lib.hid e2
    have E3 := Lib.hid e3
    have hcase : due ≤ pay ∨ (pay < due ∧ left ≤ 0) := by omega
    clear e1 e2 e3 hpay hmore hall hleft hrest hend
    rcases hcase with hcase | ⟨hc1, hc2⟩
    all_goals
      go_enter Try.func6, Try.ntmps6
      go_wp2_with (first
        | (go_at_call 13; refine (head31_any _).mono ?_; rintro e w1 ⟨rfl, hb1⟩; have hz1 := hb1.size; (try simp only [World.size_alloc, World.size_setCell, World.size_drew, size_drewN', size_grow, size_redrawn] at hz1); obtain ⟨hc1, hf1⟩ := bcellB (B := w.heap.size) hb1 (by first | omega | (simp only [World.size_alloc, World.size_setCell, World.size_drew, size_drewN', size_grow, size_redrawn]; omega)))
        | (go_at_call 22; refine (ramount_any _ _).mono ?_; rintro e w' ⟨rfl, rfl⟩; first | rw [h1] | rw [h2] | rw [h3] | rw [h4]))
      refine (voucher_lit E1.out _).mono ?_
      rintro e w' ⟨rfl, rfl⟩
      go_wp2_with fail
      refine (voucher_lit E2.out _).mono ?_
      rintro e w' ⟨rfl, rfl⟩
      go_wp2_with fail
      refine (voucher_lit E3.out _).mono ?_
      rintro e w' ⟨rfl, rfl⟩
      go_wp2_with fail
      go_ret
      exact ⟨ret_bool (by simp), hb1⟩
  · cases h1 : amt due
    · go_enter Try.func6, Try.ntmps6
      go_wp2_with (first
        | (go_at_call 13; refine (head31_any _).mono ?_; rintro e w1 ⟨rfl, hb1⟩; have hz1 := hb1.size; (try simp only [World.size_alloc, World.size_setCell, World.size_drew, size_drewN', size_grow, size_redrawn] at hz1); obtain ⟨hc1, hf1⟩ := bcellB (B := w.heap.size) hb1 (by first | omega | (simp only [World.size_alloc, World.size_setCell, World.size_drew, size_drewN', size_grow, size_redrawn]; omega)))
        | (go_at_call 22; refine (ramount_any _ _).mono ?_; rintro e w' ⟨rfl, rfl⟩; first | rw [h1] | rw [h2] | rw [h3] | rw [h4]))
      go_ret
      exact ⟨ret_bool (by simp), hb1⟩
    · cases h2 : amt one
      · go_enter Try.func6, Try.ntmps6
        go_wp2_with (first
          | (go_at_call 13; refine (head31_any _).mono ?_; rintro e w1 ⟨rfl, hb1⟩; have hz1 := hb1.size; (try simp only [World.size_alloc, World.size_setCell, World.size_drew, size_drewN', size_grow, size_redrawn] at hz1); obtain ⟨hc1, hf1⟩ := bcellB (B := w.heap.size) hb1 (by first | omega | (simp only [World.size_alloc, World.size_setCell, World.size_drew, size_drewN', size_grow, size_redrawn]; omega)))
          | (go_at_call 22; refine (ramount_any _ _).mono ?_; rintro e w' ⟨rfl, rfl⟩; first | rw [h1] | rw [h2] | rw [h3] | rw [h4]))
        go_ret
        exact ⟨ret_bool (by simp), hb1⟩
      · cases h3 : amt two
        · go_enter Try.func6, Try.ntmps6
          go_wp2_with (first
            | (go_at_call 13; refine (head31_any _).mono ?_; rintro e w1 ⟨rfl, hb1⟩; have hz1 := hb1.size; (try simp only [World.size_alloc, World.size_setCell, World.size_drew, size_drewN', size_grow, size_redrawn] at hz1); obtain ⟨hc1, hf1⟩ := bcellB (B := w.heap.size) hb1 (by first | omega | (simp only [World.size_alloc, World.size_setCell, World.size_drew, size_drewN', size_grow, size_redrawn]; omega)))
            | (go_at_call 22; refine (ramount_any _ _).mono ?_; rintro e w' ⟨rfl, rfl⟩; first | rw [h1] | rw [h2] | rw [h3] | rw [h4]))
          go_ret
          exact ⟨ret_bool (by simp), hb1⟩
        · have h4 : amt (one + two) = false := by
            cases h4 : amt (one + two)
            · rfl
            · exact absurd ⟨⟨h1, h2, h3⟩, h4⟩ h
          have g2 := inB_iff.1 h2
          have g3 := inB_iff.1 h3
          have hw : IntKind.i64.wrap (one + two) = one + two := IntWalk.i64_in _ (by omega)
          clear h
          go_enter Try.func6, Try.ntmps6
          go_wp2_with (first
            | (go_at_call 13; refine (head31_any _).mono ?_; rintro e w1 ⟨rfl, hb1⟩; have hz1 := hb1.size; (try simp only [World.size_alloc, World.size_setCell, World.size_drew, size_drewN', size_grow, size_redrawn] at hz1); obtain ⟨hc1, hf1⟩ := bcellB (B := w.heap.size) hb1 (by first | omega | (simp only [World.size_alloc, World.size_setCell, World.size_drew, size_drewN', size_grow, size_redrawn]; omega)))
            | (go_at_call 22; refine (ramount_any _ _).mono ?_; rintro e w' ⟨rfl, rfl⟩; first | rw [h1] | rw [h2] | rw [h3] | rw [h4]))
          go_ret
          exact ⟨ret_bool (by simp), hb1⟩
end Go.Proofs.Ythnncojbckifnaa
