/-
  Package commission: parts, bills, the commission of a bill; and the reference's.
-/
import Derived.Test.YthnncojbckifnaaPart1
import Derived.Test.YthnncojbckifnaaDep1
namespace Go.Proofs.Ythnncojbckifnaa
set_option linter.unusedSimpArgs false
set_option linter.unusedVariables false
open Go.RowKit
open Go.Sort (grow size_grow)

set_option maxHeartbeats 4000000
set_option maxRecDepth 100000
def partOk (p d : Int) : Bool := ratOk p d && decide (0 ≤ p) && decide (p ≤ d)
theorem partOk_iff {p d : Int} : partOk p d = true ↔ ratOk p d = true ∧ 0 ≤ p ∧ p ≤ d := by
  unfold partOk
  rw [Bool.and_eq_true, Bool.and_eq_true, decide_eq_true_eq, decide_eq_true_eq, and_assoc]
def comm (p d n : Int) : Int := rnd (n * p) d 3
theorem comm_bd {p d n : Int} (h : partOk p d = true) (n0 : 0 ≤ n) : 0 ≤ comm p d n ∧ comm p d n ≤ n := by
  obtain ⟨hr, p0, pd⟩ := partOk_iff.1 h
  obtain ⟨d0, _⟩ := ratOk_iff.1 hr
  have h1 := Int.mul_nonneg n0 p0
  have hq0 := Int.ediv_nonneg h1 (show 0 ≤ d by omega)
  have hs := Int.emod_add_mul_ediv (n * p) d
  have hrm0 := Int.emod_nonneg (n * p) (show d ≠ 0 by omega)
  have h2 : n * p ≤ n * d := Int.mul_le_mul_of_nonneg_left pd n0
  have h3 : n * p / d ≤ n := by
    refine Int.ediv_le_of_le_mul (by omega) h2
  unfold comm rnd
  generalize hq : n * p / d = q at *
  split
  · rename_i hc
    have hpos : 0 < n * p % d := by
      rcases hc with ⟨h, _⟩ | ⟨_, h⟩
      · omega
      · rcases h with h | h <;> omega
    have h4 : d * q < d * n := by
      have : n * d = d * n := Int.mul_comm _ _
      omega
    have h5 : q < n := Int.lt_of_mul_lt_mul_left h4 (by omega)
    omega
  · omega
def oneR (p d : Int) (b : Bill) : Int × Int := if (!partOk p d || !b.ok) = true then (0, 1) else (comm p d b.price, 0)
theorem oneR_no {p d : Int} {b : Bill} (h : (!partOk p d || !b.ok) = true) : oneR p d b = (0, 1) := by unfold oneR; rw [if_pos h]
theorem oneR_ok {p d : Int} {b : Bill} (h1 : partOk p d = true) (h2 : b.ok = true) : oneR p d b = (comm p d b.price, 0) := by unfold oneR; rw [h1, h2]; rfl
theorem isPart_any (p d : Int) (w : World) :
    Calls Try.prog 49 #[.agg #[.int .i64 p, .int .i64 d]] w fun e w' => e = .returned (.bool (partOk p d)) ∧ Below w.heap.size w w' := by
  cases hr : ratOk p d
  all_goals
    go_enter Try.func49, Try.ntmps49
    go_wp2_with (go_at_call 72; refine (ratValid_any p d _).mono ?_; rintro e w1 ⟨rfl, hb1⟩; have hz1 := hb1.size; (try simp only [World.size_alloc, World.size_setCell, World.size_drew, size_drewN', size_grow, size_redrawn] at hz1); obtain ⟨hc1, hf1⟩ := bcellB (B := w.heap.size + 1) hb1 (by first | omega | (simp only [World.size_alloc, World.size_setCell, World.size_drew, size_drewN', size_grow, size_redrawn]; omega)); rw [hr])
    all_goals
      go_ret
      refine ⟨ret_bool ?_, ?_⟩
      · unfold partOk
        rw [hr]
        first | rfl | (simp; done) | (simp; omega)
      · repeat' (first
          | (with_reducible exact Below.refl _ _)
          | (with_reducible assumption)
          | (with_reducible refine below_drewN ?_ _)
          | (with_reducible refine Below.drew ?_)
          | (with_reducible refine below_regrown_up _ _ ?_ ?_)
          | (with_reducible refine Below.alloc ?_ ?_ _)
          | (with_reducible refine Below.setCell ?_ ?_ _)
          | (with_reducible refine below_up ?_ ?_ (by assumption))
          | (with_reducible exact Nat.le_refl _)
          | omega
          | (simp; done)
          | (simp; omega))
theorem isBill_any (b : Bill) (w : World) :
    Calls Try.prog 50 #[b.v] w fun e w' => e = .returned (.bool b.ok) ∧ Below w.heap.size w w' := by
  obtain ⟨er, her⟩ : ∃ er, (if b.ok = true then (0 : Int) else 1) = er := ⟨_, rfl⟩
  have HER := Lib.hid her
  clear her
  go_enter Try.func50, Try.ntmps50
  go_wp2_with (go_at_call 70; refine (tall_nil HER.out _).mono ?_; rintro e w1 ⟨⟨A, c, rfl⟩, hb1⟩)
  go_ret
  refine ⟨ret_bool ?_, ?_⟩
  · rw [← HER.out]; cases b.ok <;> rfl
  · repeat' (first
      | (with_reducible exact Below.refl _ _)
      | (with_reducible assumption)
      | (with_reducible refine below_drewN ?_ _)
      | (with_reducible refine Below.drew ?_)
      | (with_reducible refine below_regrown_up _ _ ?_ ?_)
      | (with_reducible refine Below.alloc ?_ ?_ _)
      | (with_reducible refine Below.setCell ?_ ?_ _)
      | (with_reducible refine below_up ?_ ?_ (by assumption))
      | (with_reducible exact Nat.le_refl _)
      | omega
      | (simp; done)
      | (simp; omega))
theorem r30part_any (p d : Int) (w : World) :
    Calls Try.prog 31 #[.agg #[.int .i64 p, .int .i64 d]] w fun e w' => e = .returned (.bool (partOk p d)) ∧ Below w.heap.size w w' := by
  cases hr : ratOk p d
  all_goals
    go_enter Try.func31, Try.ntmps31
    go_wp2_with (go_at_call 59; refine (rvalid_any p d _).mono ?_; rintro e w1 ⟨rfl, hb1⟩; have hz1 := hb1.size; (try simp only [World.size_alloc, World.size_setCell, World.size_drew, size_drewN', size_grow, size_redrawn] at hz1); obtain ⟨hc1, hf1⟩ := bcellB (B := w.heap.size + 1) hb1 (by first | omega | (simp only [World.size_alloc, World.size_setCell, World.size_drew, size_drewN', size_grow, size_redrawn]; omega)); rw [hr])
    all_goals
      go_ret
      refine ⟨ret_bool ?_, ?_⟩
      · unfold partOk
        rw [hr]
        first | rfl | (simp; done) | (simp; omega)
      · repeat' (first
          | (with_reducible exact Below.refl _ _)
          | (with_reducible assumption)
          | (with_reducible refine below_drewN ?_ _)
          | (with_reducible refine Below.drew ?_)
          | (with_reducible refine below_regrown_up _ _ ?_ ?_)
          | (with_reducible refine Below.alloc ?_ ?_ _)
          | (with_reducible refine Below.setCell ?_ ?_ _)
          | (with_reducible refine below_up ?_ ?_ (by assumption))
          | (with_reducible exact Nat.le_refl _)
          | omega
          | (simp; done)
          | (simp; omega))
theorem r01part_any (n p d : Int) (w : World) (n0 : 0 ≤ n) (n1 : n ≤ 1000000000) (hr : partOk p d = true) (m : Int) (hm : n * p = m) (k : Int) (hk : rnd m d 3 = k) :
    Calls Try.prog 52 #[.int .i64 n, .agg #[.int .i64 p, .int .i64 d], .int .i64 3] w fun e w' => e = .returned (.tuple #[.int .i64 k, .int .i64 0]) ∧ Below w.heap.size w w' := by
  obtain ⟨h1, p0, pd⟩ := partOk_iff.1 hr
  obtain ⟨d0, d1, _, _, _⟩ := ratOk_iff.1 h1
  have hmp : 0 ≤ m ∧ m ≤ 1000000000000000 := by
    rw [← hm]
    have h1 := Int.mul_nonneg n0 p0
    have h2 := Int.mul_le_mul n1 (show p ≤ 1000000 by omega) p0 (by omega)
    omega
  obtain ⟨m0, m1⟩ := hmp
  have hbd := comm_bd hr n0
  unfold comm at hbd
  rw [hm, hk] at hbd
  obtain ⟨k0, k1⟩ := hbd
  have hw1 : IntKind.i64.wrap (n * p) = m := by rw [hm]; exact IntWalk.i64_in _ (by omega)
  have HK := Lib.hid hk
  clear hk
  go_enter Try.func52, Try.ntmps52
  go_wp2_with (first
    | (go_at_call 59; refine (rvalid_any p d _).mono ?_; rintro e w2 ⟨rfl, hb2⟩; have hz2 := hb2.size; (try simp only [World.size_alloc, World.size_setCell, World.size_drew, size_drewN', size_grow, size_redrawn] at hz2); obtain ⟨hc2, hf2⟩ := bcellB (B := w.heap.size + 1) hb2 (by first | omega | (simp only [World.size_alloc, World.size_setCell, World.size_drew, size_drewN', size_grow, size_redrawn]; omega)); rw [h1])
    | (go_at_call 76; refine (rounded_any m d 3 _ m0 (by omega) d0 (by omega)).mono ?_; rintro e w' ⟨rfl, rfl⟩; rw [HK.out]))
  go_ret2
  refine ⟨rfl, ?_⟩
  repeat' (first
    | (with_reducible exact Below.refl _ _)
    | (with_reducible assumption)
    | (with_reducible refine below_drewN ?_ _)
    | (with_reducible refine Below.drew ?_)
    | (with_reducible refine below_regrown_up _ _ ?_ ?_)
    | (with_reducible refine Below.alloc ?_ ?_ _)
    | (with_reducible refine Below.setCell ?_ ?_ _)
    | (with_reducible refine below_up ?_ ?_ (by assumption))
    | (with_reducible exact Nat.le_refl _)
    | omega
    | (simp; done)
    | (simp; omega))
theorem cone_any {p d x er : Int} {b : Bill} (h : oneR p d b = (x, er)) (w : World) :
    Calls Try.prog 24 #[.agg #[.int .i64 p, .int .i64 d], b.v] w fun e w' => e = .returned (.tuple #[.int .i64 x, .int .i64 er]) ∧ Below w.heap.size w w' := by
  cases h1 : partOk p d
  · rw [oneR_no (by rw [h1]; rfl), Prod.mk.injEq] at h
    obtain ⟨rfl, rfl⟩ := h
    go_enter Try.func24, Try.ntmps24
    go_wp2_with (go_at_call 49; refine (isPart_any p d _).mono ?_; rintro e w1 ⟨rfl, hb1⟩; have hz1 := hb1.size; (try simp only [World.size_alloc, World.size_setCell, World.size_drew, size_drewN', size_grow, size_redrawn] at hz1); obtain ⟨hc1, hf1⟩ := bcellB (B := w.heap.size + 2) hb1 (by first | omega | (simp only [World.size_alloc, World.size_setCell, World.size_drew, size_drewN', size_grow, size_redrawn]; omega)); rw [h1])
    go_ret2
    refine ⟨rfl, ?_⟩
    repeat' (first
      | (with_reducible exact Below.refl _ _)
      | (with_reducible assumption)
      | (with_reducible refine below_drewN ?_ _)
      | (with_reducible refine Below.drew ?_)
      | (with_reducible refine below_regrown_up _ _ ?_ ?_)
      | (with_reducible refine Below.alloc ?_ ?_ _)
      | (with_reducible refine Below.setCell ?_ ?_ _)
      | (with_reducible refine below_up ?_ ?_ (by assumption))
      | (with_reducible exact Nat.le_refl _)
      | omega
      | (simp; done)
      | (simp; omega))
  · cases h2 : b.ok
    · rw [oneR_no (by rw [h1, h2]; rfl), Prod.mk.injEq] at h
      obtain ⟨rfl, rfl⟩ := h
      go_enter Try.func24, Try.ntmps24
      go_wp2_with (first | (go_at_call 49; refine (isPart_any p d _).mono ?_; rintro e w1 ⟨rfl, hb1⟩; have hz1 := hb1.size; (try simp only [World.size_alloc, World.size_setCell, World.size_drew, size_drewN', size_grow, size_redrawn] at hz1); obtain ⟨hc1, hf1⟩ := bcellB (B := w.heap.size + 2) hb1 (by first | omega | (simp only [World.size_alloc, World.size_setCell, World.size_drew, size_drewN', size_grow, size_redrawn]; omega)); rw [h1]) | (go_at_call 50; refine (isBill_any b _).mono ?_; rintro e w2 ⟨rfl, hb2⟩; have hz2 := hb2.size; (try simp only [World.size_alloc, World.size_setCell, World.size_drew, size_drewN', size_grow, size_redrawn] at hz2); obtain ⟨hc2, hf2⟩ := bcellB (B := w.heap.size + 2) hb2 (by first | omega | (simp only [World.size_alloc, World.size_setCell, World.size_drew, size_drewN', size_grow, size_redrawn]; omega)); rw [h2]))
      go_ret2
      refine ⟨rfl, ?_⟩
      repeat' (first
        | (with_reducible exact Below.refl _ _)
        | (with_reducible assumption)
        | (with_reducible refine below_drewN ?_ _)
        | (with_reducible refine Below.drew ?_)
        | (with_reducible refine below_regrown_up _ _ ?_ ?_)
        | (with_reducible refine Below.alloc ?_ ?_ _)
        | (with_reducible refine Below.setCell ?_ ?_ _)
        | (with_reducible refine below_up ?_ ?_ (by assumption))
        | (with_reducible exact Nat.le_refl _)
        | omega
        | (simp; done)
        | (simp; omega))
    · rw [oneR_ok h1 h2, Prod.mk.injEq] at h
      obtain ⟨rfl, rfl⟩ := h
      obtain ⟨hr, p0, pd⟩ := partOk_iff.1 h1
      obtain ⟨n0, n1⟩ := (Bill.ok_iff.1 h2).2.2.2.2.2.2.1
      obtain ⟨k0, k1⟩ := comm_bd h1 n0
      have HR := Lib.hid hr
      go_enter Try.func24, Try.ntmps24
      go_wp2_with (first | (go_at_call 49; refine (isPart_any p d _).mono ?_; rintro e w1 ⟨rfl, hb1⟩; have hz1 := hb1.size; (try simp only [World.size_alloc, World.size_setCell, World.size_drew, size_drewN', size_grow, size_redrawn] at hz1); obtain ⟨hc1, hf1⟩ := bcellB (B := w.heap.size + 2) hb1 (by first | omega | (simp only [World.size_alloc, World.size_setCell, World.size_drew, size_drewN', size_grow, size_redrawn]; omega)); rw [h1]) | (go_at_call 50; refine (isBill_any b _).mono ?_; rintro e w2 ⟨rfl, hb2⟩; have hz2 := hb2.size; (try simp only [World.size_alloc, World.size_setCell, World.size_drew, size_drewN', size_grow, size_redrawn] at hz2); obtain ⟨hc2, hf2⟩ := bcellB (B := w.heap.size + 2) hb2 (by first | omega | (simp only [World.size_alloc, World.size_setCell, World.size_drew, size_drewN', size_grow, size_redrawn]; omega)); rw [h2]) | (go_at_call 51; refine (part_any b.price p d _ n0 n1 HR.out p0 pd _ rfl k1 k0).mono ?_; rintro e w3 ⟨rfl, hb3⟩; have hz3 := hb3.size; (try simp only [World.size_alloc, World.size_setCell, World.size_drew, size_drewN', size_grow, size_redrawn] at hz3); obtain ⟨hc3, hf3⟩ := bcellB (B := w.heap.size + 2) hb3 (by first | omega | (simp only [World.size_alloc, World.size_setCell, World.size_drew, size_drewN', size_grow, size_redrawn]; omega))))
      go_ret2
      refine ⟨rfl, ?_⟩
      repeat' (first
        | (with_reducible exact Below.refl _ _)
        | (with_reducible assumption)
        | (with_reducible refine below_drewN ?_ _)
        | (with_reducible refine Below.drew ?_)
        | (with_reducible refine below_regrown_up _ _ ?_ ?_)
        | (with_reducible refine Below.alloc ?_ ?_ _)
        | (with_reducible refine Below.setCell ?_ ?_ _)
        | (with_reducible refine below_up ?_ ?_ (by assumption))
        | (with_reducible exact Nat.le_refl _)
        | omega
        | (simp; done)
        | (simp; omega))
theorem rcone_any {p d x er : Int} {b : Bill} (h : oneR p d b = (x, er)) (w : World) :
    Calls Try.prog 25 #[.agg #[.int .i64 p, .int .i64 d], b.v] w fun e w' => e = .returned (.tuple #[.int .i64 x, .int .i64 er]) ∧ Below w.heap.size w w' := by
  cases h1 : partOk p d
  · rw [oneR_no (by rw [h1]; rfl), Prod.mk.injEq] at h
    obtain ⟨rfl, rfl⟩ := h
    go_enter Try.func25, Try.ntmps25
    go_wp2_with (go_at_call 31; refine (r30part_any p d _).mono ?_; rintro e w1 ⟨rfl, hb1⟩; have hz1 := hb1.size; (try simp only [World.size_alloc, World.size_setCell, World.size_drew, size_drewN', size_grow, size_redrawn] at hz1); obtain ⟨hc1, hf1⟩ := bcellB (B := w.heap.size + 2) hb1 (by first | omega | (simp only [World.size_alloc, World.size_setCell, World.size_drew, size_drewN', size_grow, size_redrawn]; omega)); rw [h1])
    go_ret2
    refine ⟨rfl, ?_⟩
    repeat' (first
      | (with_reducible exact Below.refl _ _)
      | (with_reducible assumption)
      | (with_reducible refine below_drewN ?_ _)
      | (with_reducible refine Below.drew ?_)
      | (with_reducible refine below_regrown_up _ _ ?_ ?_)
      | (with_reducible refine Below.alloc ?_ ?_ _)
      | (with_reducible refine Below.setCell ?_ ?_ _)
      | (with_reducible refine below_up ?_ ?_ (by assumption))
      | (with_reducible exact Nat.le_refl _)
      | omega
      | (simp; done)
      | (simp; omega))
  · cases h2 : b.ok
    · rw [oneR_no (by rw [h1, h2]; rfl), Prod.mk.injEq] at h
      obtain ⟨rfl, rfl⟩ := h
      go_enter Try.func25, Try.ntmps25
      go_wp2_with (first | (go_at_call 31; refine (r30part_any p d _).mono ?_; rintro e w1 ⟨rfl, hb1⟩; have hz1 := hb1.size; (try simp only [World.size_alloc, World.size_setCell, World.size_drew, size_drewN', size_grow, size_redrawn] at hz1); obtain ⟨hc1, hf1⟩ := bcellB (B := w.heap.size + 2) hb1 (by first | omega | (simp only [World.size_alloc, World.size_setCell, World.size_drew, size_drewN', size_grow, size_redrawn]; omega)); rw [h1]) | (go_at_call 21; refine (rbill_any b _).mono ?_; rintro e w2 ⟨rfl, hb2⟩; have hz2 := hb2.size; (try simp only [World.size_alloc, World.size_setCell, World.size_drew, size_drewN', size_grow, size_redrawn] at hz2); obtain ⟨hc2, hf2⟩ := bcellB (B := w.heap.size + 2) hb2 (by first | omega | (simp only [World.size_alloc, World.size_setCell, World.size_drew, size_drewN', size_grow, size_redrawn]; omega)); rw [h2]))
      go_ret2
      refine ⟨rfl, ?_⟩
      repeat' (first
        | (with_reducible exact Below.refl _ _)
        | (with_reducible assumption)
        | (with_reducible refine below_drewN ?_ _)
        | (with_reducible refine Below.drew ?_)
        | (with_reducible refine below_regrown_up _ _ ?_ ?_)
        | (with_reducible refine Below.alloc ?_ ?_ _)
        | (with_reducible refine Below.setCell ?_ ?_ _)
        | (with_reducible refine below_up ?_ ?_ (by assumption))
        | (with_reducible exact Nat.le_refl _)
        | omega
        | (simp; done)
        | (simp; omega))
    · rw [oneR_ok h1 h2, Prod.mk.injEq] at h
      obtain ⟨rfl, rfl⟩ := h
      obtain ⟨hr, p0, pd⟩ := partOk_iff.1 h1
      obtain ⟨n0, n1⟩ := (Bill.ok_iff.1 h2).2.2.2.2.2.2.1
      go_enter Try.func25, Try.ntmps25
      go_wp2_with (first | (go_at_call 31; refine (r30part_any p d _).mono ?_; rintro e w1 ⟨rfl, hb1⟩; have hz1 := hb1.size; (try simp only [World.size_alloc, World.size_setCell, World.size_drew, size_drewN', size_grow, size_redrawn] at hz1); obtain ⟨hc1, hf1⟩ := bcellB (B := w.heap.size + 2) hb1 (by first | omega | (simp only [World.size_alloc, World.size_setCell, World.size_drew, size_drewN', size_grow, size_redrawn]; omega)); rw [h1]) | (go_at_call 21; refine (rbill_any b _).mono ?_; rintro e w2 ⟨rfl, hb2⟩; have hz2 := hb2.size; (try simp only [World.size_alloc, World.size_setCell, World.size_drew, size_drewN', size_grow, size_redrawn] at hz2); obtain ⟨hc2, hf2⟩ := bcellB (B := w.heap.size + 2) hb2 (by first | omega | (simp only [World.size_alloc, World.size_setCell, World.size_drew, size_drewN', size_grow, size_redrawn]; omega)); rw [h2]) | (go_at_call 52; refine (r01part_any b.price p d _ n0 n1 h1 _ rfl _ rfl).mono ?_; rintro e w3 ⟨rfl, hb3⟩; have hz3 := hb3.size; (try simp only [World.size_alloc, World.size_setCell, World.size_drew, size_drewN', size_grow, size_redrawn] at hz3); obtain ⟨hc3, hf3⟩ := bcellB (B := w.heap.size + 2) hb3 (by first | omega | (simp only [World.size_alloc, World.size_setCell, World.size_drew, size_drewN', size_grow, size_redrawn]; omega))))
      go_ret2
      refine ⟨rfl, ?_⟩
      repeat' (first
        | (with_reducible exact Below.refl _ _)
        | (with_reducible assumption)
        | (with_reducible refine below_drewN ?_ _)
        | (with_reducible refine Below.drew ?_)
        | (with_reducible refine below_regrown_up _ _ ?_ ?_)
        | (with_reducible refine Below.alloc ?_ ?_ _)
        | (with_reducible refine Below.setCell ?_ ?_ _)
        | (with_reducible refine below_up ?_ ?_ (by assumption))
        | (with_reducible exact Nat.le_refl _)
        | omega
        | (simp; done)
        | (simp; omega))
end Go.Proofs.Ythnncojbckifnaa
