/-
  Contracts of package deposit and of its reference: amounts, refunds, vouchers.
-/
import Derived.Test.YthnncojbckifnaaTax7
namespace Go.Proofs.Ythnncojbckifnaa
set_option linter.unusedSimpArgs false
set_option linter.unusedVariables false
open Go.RowKit
open Go.Sort (grow size_grow)

set_option maxHeartbeats 4000000
set_option maxRecDepth 100000

abbrev amt (n : Int) : Bool := inB n 0 1000000000
def refundR (b : Bill) (paid : Int) : Int × Int × Int := if (!b.ok || !amt paid) = true then (0, 0, 1) else (paid - min paid b.keep, min paid b.keep, 0)
def voucherR (due worth : Int) : Int × Int × Int := if (!amt due || !amt worth) = true then (0, 0, 1) else (min due worth, worth - min due worth, 0)
theorem allT_nil (b : Bill) : allT [] b = ([], 0, if b.ok = true then 0 else 1) := by
  unfold allT
  have h : taxesOk [] = true := by decide
  rw [h]
  cases b.ok <;> simp

theorem isAmount_any (n : Int) (w : World) :
    Calls Try.prog 43 #[.int .i64 n] w fun e w' => e = .returned (.bool (amt n)) ∧ w = w' := by
  by_cases h1 : 0 ≤ n
  · by_cases h2 : n ≤ 1000000000
    · go_enter Try.func43, Try.ntmps43
      go_wp2
      go_ret
      exact ⟨ret_bool (inB_t h1 h2).symm, rfl⟩
    · go_enter Try.func43, Try.ntmps43
      go_wp2
      go_ret
      exact ⟨ret_bool (inB_f (by omega)).symm, rfl⟩
  · go_enter Try.func43, Try.ntmps43
    go_wp2
    go_ret
    exact ⟨ret_bool (inB_f (by omega)).symm, rfl⟩
theorem ramount_any (n : Int) (w : World) :
    Calls Try.prog 22 #[.int .i64 n] w fun e w' => e = .returned (.bool (amt n)) ∧ w = w' := by
  by_cases h1 : 0 ≤ n
  · by_cases h2 : n ≤ 1000000000
    · go_enter Try.func22, Try.ntmps22
      go_wp2
      go_ret
      exact ⟨ret_bool (inB_t h1 h2).symm, rfl⟩
    · go_enter Try.func22, Try.ntmps22
      go_wp2
      go_ret
      exact ⟨ret_bool (inB_f (by omega)).symm, rfl⟩
  · go_enter Try.func22, Try.ntmps22
    go_wp2
    go_ret
    exact ⟨ret_bool (inB_f (by omega)).symm, rfl⟩

theorem tall_nil {b : Bill} {er : Int} (h : (if b.ok = true then (0 : Int) else 1) = er) (w : World) :
    Calls Try.prog 70 #[.slice none 0 0, b.v] w fun e w' => (∃ A c, e = .returned (.tuple #[.slice A 0 c, .int .i64 0, .int .i64 er])) ∧ Below w.heap.size w w' := by
  subst h
  refine (tall_any [] b none 0 _ Sl.nil_ (by simp)).mono ?_
  rintro e w1 ⟨h, hb1⟩
  unfold Ret3 at h
  rw [allT_nil] at h
  obtain ⟨A', c', rfl, _⟩ := h
  exact ⟨⟨A', c', rfl⟩, hb1⟩
theorem dright_any (b : Bill) (w : World) :
    Calls Try.prog 42 #[b.v] w fun e w' => e = .returned (.bool b.ok) ∧ Below w.heap.size w w' := by
  obtain ⟨er, her⟩ : ∃ er, (if b.ok = true then (0 : Int) else 1) = er := ⟨_, rfl⟩
  go_enter Try.func42, Try.ntmps42
  go_wp2_with fail
  refine (tall_nil her _).mono ?_
  rintro e w1 ⟨⟨A', c', rfl⟩, hb1⟩
  have hz1 := hb1.size
  rw [World.size_alloc] at hz1
  obtain ⟨hc1, hf1⟩ := bcellB (B := w.heap.size + 1) hb1 (by simp)
  cases hok : b.ok
  all_goals
    rw [hok] at her
    obtain rfl : _ = er := her
    go_wp2_with fail
    go_ret
    refine ⟨by first | (simp [hok]; done) | rfl, ?_⟩
    repeat' (first
      | (with_reducible exact Below.refl _ _)
      | (with_reducible assumption)
      | (with_reducible refine below_drewN ?_ _)
      | (with_reducible refine Below.drew ?_)
      | (with_reducible refine below_regrown_up _ _ ?_ ?_)
      | (with_reducible refine Below.alloc ?_ ?_ _)
      | (with_reducible refine Below.setCell ?_ ?_ _)
      | (with_reducible refine below_up ?_ ?_ (by assumption))
      | (with_reducible exact Nat.le_refl _)
      | omega
      | (simp; done)
      | (simp; omega))
theorem dparts_any (b : Bill) (paid : Int) (w : World) (hp : amt paid = true) (hb : b.ok = true) :
    Calls Try.prog 44 #[b.v, .int .i64 paid] w fun e w' => e = .returned (.agg #[.int .i64 (paid - min paid b.keep), .int .i64 (min paid b.keep)]) ∧ Below w.heap.size w w' := by
  have h1 := inB_iff.1 hp
  have h2 := (Bill.ok_iff.1 hb)
  go_enter Try.func44, Try.ntmps44
  go_wp2_with fail
  all_goals
    refine bodyPost_ret (v := .agg #[.int .i64 (paid - min paid b.keep), .int .i64 (min paid b.keep)]) ?_ rfl ⟨rfl, ?_⟩
    · first
        | (rw [show min paid b.keep = paid by omega]; simp [results, Try.results44, go_sem]; done)
        | (rw [show min paid b.keep = b.keep by omega]; simp [results, Try.results44, go_sem]; done)
    · repeat' (first
        | (with_reducible exact Below.refl _ _)
        | (with_reducible assumption)
        | (with_reducible refine below_drewN ?_ _)
        | (with_reducible refine Below.drew ?_)
        | (with_reducible refine below_regrown_up _ _ ?_ ?_)
        | (with_reducible refine Below.alloc ?_ ?_ _)
        | (with_reducible refine Below.setCell ?_ ?_ _)
        | (with_reducible refine below_up ?_ ?_ (by assumption))
        | (with_reducible exact Nat.le_refl _)
        | omega
        | (simp; done)
        | (simp; omega))
theorem voucherR_ok {due worth : Int} (h1 : amt due = true) (h2 : amt worth = true) : voucherR due worth = (min due worth, worth - min due worth, 0) := by unfold voucherR; rw [h1, h2]; rfl
theorem rvoucher_any (due worth : Int) (w : World) :
    Calls Try.prog 17 #[.int .i64 due, .int .i64 worth] w fun e w' => e = .returned (.tuple #[.int .i64 (voucherR due worth).1, .int .i64 (voucherR due worth).2.1, .int .i64 (voucherR due worth).2.2]) ∧ w = w' := by
  cases h1 : amt due
  · go_enter Try.func17, Try.ntmps17
    go_wp2_with (go_at_call 22; refine (ramount_any _ _).mono ?_; rintro e w1 ⟨rfl, rfl⟩; first | rw [h1])
    go_ret3
    exact ⟨by unfold voucherR; rw [h1]; rfl, rfl⟩
  · cases h2 : amt worth
    · go_enter Try.func17, Try.ntmps17
      go_wp2_with (go_at_call 22; refine (ramount_any _ _).mono ?_; rintro e w1 ⟨rfl, rfl⟩; first | rw [h1] | rw [h2])
      go_ret3
      exact ⟨by unfold voucherR; rw [h1, h2]; rfl, rfl⟩
    · have g1 := inB_iff.1 h1
      have g2 := inB_iff.1 h2
      rw [voucherR_ok h1 h2]
      go_enter Try.func17, Try.ntmps17
      go_wp2_with (go_at_call 22; refine (ramount_any _ _).mono ?_; rintro e w1 ⟨rfl, rfl⟩; first | rw [h1] | rw [h2])
      all_goals
        go_ret3
        refine ⟨?_, rfl⟩
        first
          | (rw [show min due worth = due by omega]; first | rfl | (rw [Int.sub_self]; rfl))
          | (rw [show min due worth = worth by omega]; first | rfl | (rw [Int.sub_self]; rfl))
theorem voucher_any (due worth : Int) (w : World) :
    Calls Try.prog 16 #[.int .i64 due, .int .i64 worth] w fun e w' => e = .returned (.tuple #[.int .i64 (voucherR due worth).1, .int .i64 (voucherR due worth).2.1, .int .i64 (voucherR due worth).2.2]) ∧ w = w' := by
  cases h1 : amt due
  · go_enter Try.func16, Try.ntmps16
    go_wp2_with (go_at_call 43; refine (isAmount_any _ _).mono ?_; rintro e w1 ⟨rfl, rfl⟩; first | rw [h1])
    go_ret3
    exact ⟨by unfold voucherR; rw [h1]; rfl, rfl⟩
  · cases h2 : amt worth
    · go_enter Try.func16, Try.ntmps16
      go_wp2_with (go_at_call 43; refine (isAmount_any _ _).mono ?_; rintro e w1 ⟨rfl, rfl⟩; first | rw [h1] | rw [h2])
      go_ret3
      exact ⟨by unfold voucherR; rw [h1, h2]; rfl, rfl⟩
    · have g1 := inB_iff.1 h1
      have g2 := inB_iff.1 h2
      rw [voucherR_ok h1 h2]
      go_enter Try.func16, Try.ntmps16
      go_wp2_with (go_at_call 43; refine (isAmount_any _ _).mono ?_; rintro e w1 ⟨rfl, rfl⟩; first | rw [h1] | rw [h2])
      all_goals
        go_ret3
        refine ⟨?_, rfl⟩
        first
          | (rw [show min due worth = due by omega]; first | rfl | (rw [Int.sub_self]; rfl))
          | (rw [show min due worth = worth by omega]; first | rfl | (rw [Int.sub_self]; rfl))

theorem refundR_ok {b : Bill} {paid : Int} (h1 : b.ok = true) (h2 : amt paid = true) : refundR b paid = (paid - min paid b.keep, min paid b.keep, 0) := by unfold refundR; rw [h1, h2]; rfl
theorem refundR_no {b : Bill} {paid : Int} (h : (!b.ok || !amt paid) = true) : refundR b paid = (0, 0, 1) := by unfold refundR; rw [if_pos h]
abbrev Ret3I (r : Int × Int × Int) : Ending := .returned (.tuple #[.int .i64 r.1, .int .i64 r.2.1, .int .i64 r.2.2])
theorem rrefund_any (b : Bill) (paid : Int) (w : World) :
    Calls Try.prog 15 #[b.v, .int .i64 paid] w fun e w' => e = Ret3I (refundR b paid) ∧ Below w.heap.size w w' := by
  cases h1 : b.ok
  · rw [refundR_no (by rw [h1]; rfl)]
    go_enter Try.func15, Try.ntmps15
    go_wp2_with (first | (go_at_call 21; refine (rbill_any b _).mono ?_; rintro e w1 ⟨rfl, hb1⟩; have hz1 := hb1.size; (try simp only [World.size_alloc, World.size_setCell, World.size_drew, size_drewN', size_grow, size_redrawn] at hz1); obtain ⟨hc1, hf1⟩ := bcellB (B := w.heap.size + 1) hb1 (by first | omega | (simp only [World.size_alloc, World.size_setCell, World.size_drew, size_drewN', size_grow, size_redrawn]; omega))); rw [h1] | (go_at_call 22; refine (ramount_any _ _).mono ?_; rintro e w' ⟨rfl, rfl⟩))
    go_ret3
    refine ⟨rfl, ?_⟩
    repeat' (first
      | (with_reducible exact Below.refl _ _)
      | (with_reducible assumption)
      | (with_reducible refine below_drewN ?_ _)
      | (with_reducible refine Below.drew ?_)
      | (with_reducible refine below_regrown_up _ _ ?_ ?_)
      | (with_reducible refine Below.alloc ?_ ?_ _)
      | (with_reducible refine Below.setCell ?_ ?_ _)
      | (with_reducible refine below_up ?_ ?_ (by assumption))
      | (with_reducible exact Nat.le_refl _)
      | omega
      | (simp; done)
      | (simp; omega))
  · cases h2 : amt paid
    · rw [refundR_no (by rw [h1, h2]; rfl)]
      go_enter Try.func15, Try.ntmps15
      go_wp2_with (first | (go_at_call 21; refine (rbill_any b _).mono ?_; rintro e w1 ⟨rfl, hb1⟩; have hz1 := hb1.size; (try simp only [World.size_alloc, World.size_setCell, World.size_drew, size_drewN', size_grow, size_redrawn] at hz1); obtain ⟨hc1, hf1⟩ := bcellB (B := w.heap.size + 1) hb1 (by first | omega | (simp only [World.size_alloc, World.size_setCell, World.size_drew, size_drewN', size_grow, size_redrawn]; omega))); rw [h1] | (go_at_call 22; refine (ramount_any _ _).mono ?_; rintro e w' ⟨rfl, rfl⟩); rw [h2])
      go_ret3
      refine ⟨rfl, ?_⟩
      repeat' (first
        | (with_reducible exact Below.refl _ _)
        | (with_reducible assumption)
        | (with_reducible refine below_drewN ?_ _)
        | (with_reducible refine Below.drew ?_)
        | (with_reducible refine below_regrown_up _ _ ?_ ?_)
        | (with_reducible refine Below.alloc ?_ ?_ _)
        | (with_reducible refine Below.setCell ?_ ?_ _)
        | (with_reducible refine below_up ?_ ?_ (by assumption))
        | (with_reducible exact Nat.le_refl _)
        | omega
        | (simp; done)
        | (simp; omega))
    · have g1 := inB_iff.1 h2
      have g2 := Bill.ok_iff.1 h1
      rw [refundR_ok h1 h2]
      go_enter Try.func15, Try.ntmps15
      go_wp2_with (first | (go_at_call 21; refine (rbill_any b _).mono ?_; rintro e w1 ⟨rfl, hb1⟩; have hz1 := hb1.size; (try simp only [World.size_alloc, World.size_setCell, World.size_drew, size_drewN', size_grow, size_redrawn] at hz1); obtain ⟨hc1, hf1⟩ := bcellB (B := w.heap.size + 1) hb1 (by first | omega | (simp only [World.size_alloc, World.size_setCell, World.size_drew, size_drewN', size_grow, size_redrawn]; omega))); rw [h1] | (go_at_call 22; refine (ramount_any _ _).mono ?_; rintro e w' ⟨rfl, rfl⟩); rw [h2])
      all_goals
        go_ret3
        refine ⟨?_, ?_⟩
        · first
            | (rw [show min paid b.keep = paid by omega]; first | rfl | (rw [Int.sub_self]; rfl))
            | (rw [show min paid b.keep = b.keep by omega]; first | rfl | (rw [Int.sub_self]; rfl))
        · repeat' (first
            | (with_reducible exact Below.refl _ _)
            | (with_reducible assumption)
            | (with_reducible refine below_drewN ?_ _)
            | (with_reducible refine Below.drew ?_)
            | (with_reducible refine below_regrown_up _ _ ?_ ?_)
            | (with_reducible refine Below.alloc ?_ ?_ _)
            | (with_reducible refine Below.setCell ?_ ?_ _)
            | (with_reducible refine below_up ?_ ?_ (by assumption))
            | (with_reducible exact Nat.le_refl _)
            | omega
            | (simp; done)
            | (simp; omega))
theorem refund_any (b : Bill) (paid : Int) (w : World) :
    Calls Try.prog 14 #[b.v, .int .i64 paid] w fun e w' => e = Ret3I (refundR b paid) ∧ Below w.heap.size w w' := by
  cases h1 : b.ok
  · rw [refundR_no (by rw [h1]; rfl)]
    go_enter Try.func14, Try.ntmps14
    go_wp2_with (first | (go_at_call 42; refine (dright_any b _).mono ?_; rintro e w1 ⟨rfl, hb1⟩; have hz1 := hb1.size; (try simp only [World.size_alloc, World.size_setCell, World.size_drew, size_drewN', size_grow, size_redrawn] at hz1); obtain ⟨hc1, hf1⟩ := bcellB (B := w.heap.size + 1 + 1) hb1 (by first | omega | (simp only [World.size_alloc, World.size_setCell, World.size_drew, size_drewN', size_grow, size_redrawn]; omega))); rw [h1] | (go_at_call 43; refine (isAmount_any _ _).mono ?_; rintro e w' ⟨rfl, rfl⟩))
    go_ret3
    refine ⟨rfl, ?_⟩
    repeat' (first
      | (with_reducible exact Below.refl _ _)
      | (with_reducible assumption)
      | (with_reducible refine below_drewN ?_ _)
      | (with_reducible refine Below.drew ?_)
      | (with_reducible refine below_regrown_up _ _ ?_ ?_)
      | (with_reducible refine Below.alloc ?_ ?_ _)
      | (with_reducible refine Below.setCell ?_ ?_ _)
      | (with_reducible refine below_up ?_ ?_ (by assumption))
      | (with_reducible exact Nat.le_refl _)
      | omega
      | (simp; done)
      | (simp; omega))
  · cases h2 : amt paid
    · rw [refundR_no (by rw [h1, h2]; rfl)]
      go_enter Try.func14, Try.ntmps14
      go_wp2_with (first | (go_at_call 42; refine (dright_any b _).mono ?_; rintro e w1 ⟨rfl, hb1⟩; have hz1 := hb1.size; (try simp only [World.size_alloc, World.size_setCell, World.size_drew, size_drewN', size_grow, size_redrawn] at hz1); obtain ⟨hc1, hf1⟩ := bcellB (B := w.heap.size + 1 + 1) hb1 (by first | omega | (simp only [World.size_alloc, World.size_setCell, World.size_drew, size_drewN', size_grow, size_redrawn]; omega))); rw [h1] | (go_at_call 43; refine (isAmount_any _ _).mono ?_; rintro e w' ⟨rfl, rfl⟩); rw [h2])
      go_ret3
      refine ⟨rfl, ?_⟩
      repeat' (first
        | (with_reducible exact Below.refl _ _)
        | (with_reducible assumption)
        | (with_reducible refine below_drewN ?_ _)
        | (with_reducible refine Below.drew ?_)
        | (with_reducible refine below_regrown_up _ _ ?_ ?_)
        | (with_reducible refine Below.alloc ?_ ?_ _)
        | (with_reducible refine Below.setCell ?_ ?_ _)
        | (with_reducible refine below_up ?_ ?_ (by assumption))
        | (with_reducible exact Nat.le_refl _)
        | omega
        | (simp; done)
        | (simp; omega))
    · rw [refundR_ok h1 h2]
      go_enter Try.func14, Try.ntmps14
      go_wp2_with (first | (go_at_call 42; refine (dright_any b _).mono ?_; rintro e w1 ⟨rfl, hb1⟩; have hz1 := hb1.size; (try simp only [World.size_alloc, World.size_setCell, World.size_drew, size_drewN', size_grow, size_redrawn] at hz1); obtain ⟨hc1, hf1⟩ := bcellB (B := w.heap.size + 1 + 1) hb1 (by first | omega | (simp only [World.size_alloc, World.size_setCell, World.size_drew, size_drewN', size_grow, size_redrawn]; omega))); rw [h1] | (go_at_call 43; refine (isAmount_any _ _).mono ?_; rintro e w' ⟨rfl, rfl⟩); rw [h2] | (go_at_call 44; refine (dparts_any b paid _ (by assumption) (by assumption)).mono ?_; rintro e w2 ⟨rfl, hb2⟩; have hz2 := hb2.size; (try simp only [World.size_alloc, World.size_setCell, World.size_drew, size_drewN', size_grow, size_redrawn] at hz2); obtain ⟨hc2, hf2⟩ := bcellB (B := w.heap.size + 1 + 1) hb2 (by first | omega | (simp only [World.size_alloc, World.size_setCell, World.size_drew, size_drewN', size_grow, size_redrawn]; omega))))
      all_goals go_quiet (fail)
      all_goals
        go_wp2_with fail
        go_ret3
        refine ⟨rfl, ?_⟩
        repeat' (first
          | (with_reducible exact Below.refl _ _)
          | (with_reducible assumption)
          | (with_reducible refine below_drewN ?_ _)
          | (with_reducible refine Below.drew ?_)
          | (with_reducible refine below_regrown_up _ _ ?_ ?_)
          | (with_reducible refine Below.alloc ?_ ?_ _)
          | (with_reducible refine Below.setCell ?_ ?_ _)
          | (with_reducible refine below_up ?_ ?_ (by assumption))
          | (with_reducible exact Nat.le_refl _)
          | omega
          | (simp; done)
          | (simp; omega))
end Go.Proofs.Ythnncojbckifnaa
