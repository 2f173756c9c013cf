/-
  Texts, one behind the other: Com1, FoPay, LPlain, Led1.
-/
import Derived.Test.YtmlhoojcdidgkaaGreatM02
import Derived.Test.YtmlhoojcdidgkaaGreatM05
import Derived.Test.YtmlhoojcdidgkaaGreatM01
/-
  Package commission: parts, bills, the commission of a bill; and the reference's.
-/
namespace Go.Proofs.YtmlhoojcdidgkaaGreat
set_option linter.unusedSimpArgs false
set_option linter.unusedVariables false
open Go.RowKit
open Go.Sort (grow size_grow)

set_option maxHeartbeats 4000000
set_option maxRecDepth 100000
def partOk (p d : Int) : Bool := ratOk p d && decide (0 ≤ p) && decide (p ≤ d)
theorem partOk_iff {p d : Int} : partOk p d = true ↔ ratOk p d = true ∧ 0 ≤ p ∧ p ≤ d := by
  unfold partOk
  rw [Bool.and_eq_true, Bool.and_eq_true, decide_eq_true_eq, decide_eq_true_eq, and_assoc]
def comm (p d n : Int) : Int := rnd (n * p) d 3
theorem comm_bd {p d n : Int} (h : partOk p d = true) (n0 : 0 ≤ n) : 0 ≤ comm p d n ∧ comm p d n ≤ n := by
  obtain ⟨hr, p0, pd⟩ := partOk_iff.1 h
  obtain ⟨d0, _⟩ := ratOk_iff.1 hr
  have h1 := Int.mul_nonneg n0 p0
  have hq0 := Int.ediv_nonneg h1 (show 0 ≤ d by omega)
  have hs := Int.emod_add_mul_ediv (n * p) d
  have hrm0 := Int.emod_nonneg (n * p) (show d ≠ 0 by omega)
  have h2 : n * p ≤ n * d := Int.mul_le_mul_of_nonneg_left pd n0
  have h3 : n * p / d ≤ n := by
    refine Int.ediv_le_of_le_mul (by omega) h2
  unfold comm rnd
  generalize hq : n * p / d = q at *
  split
  · rename_i hc
    have hpos : 0 < n * p % d := by
      rcases hc with ⟨h, _⟩ | ⟨_, h⟩
      · omega
      · rcases h with h | h <;> omega
    have h4 : d * q < d * n := by
      have : n * d = d * n := Int.mul_comm _ _
      omega
    have h5 : q < n := Int.lt_of_mul_lt_mul_left h4 (by omega)
    omega
  · omega
def oneR (p d : Int) (b : Bill) : Int × Int := if (!partOk p d || !b.ok) = true then (0, 1) else (comm p d b.price, 0)
theorem oneR_no {p d : Int} {b : Bill} (h : (!partOk p d || !b.ok) = true) : oneR p d b = (0, 1) := by unfold oneR; rw [if_pos h]
theorem oneR_ok {p d : Int} {b : Bill} (h1 : partOk p d = true) (h2 : b.ok = true) : oneR p d b = (comm p d b.price, 0) := by unfold oneR; rw [h1, h2]; rfl
theorem isPart_any (p d : Int) (w : World) :
    Calls Tryz.prog 72 #[.agg #[.int .i64 p, .int .i64 d]] w fun e w' => e = .returned (.bool (partOk p d)) ∧ Below w.heap.size w w' := by
  cases hr : ratOk p d
  all_goals
    go_enter Tryz.func72, Tryz.ntmps72
    go_wp2_with (go_at_call 94; refine (ratValid_any p d _).mono ?_; rintro e w1 ⟨rfl, hb1⟩; have hz1 := hb1.size; (try simp only [World.size_alloc, World.size_setCell, World.size_drew, size_drewN', size_grow, size_redrawn] at hz1); obtain ⟨hc1, hf1⟩ := bcellB (B := w.heap.size + 1) hb1 (by first | omega | (simp only [World.size_alloc, World.size_setCell, World.size_drew, size_drewN', size_grow, size_redrawn]; omega)); rw [hr])
    all_goals
      go_ret
      refine ⟨ret_bool ?_, ?_⟩
      · unfold partOk
        rw [hr]
        first | rfl | (simp; done) | (simp; omega)
      · repeat' (first
          | (with_reducible exact Below.refl _ _)
          | (with_reducible assumption)
          | (with_reducible refine below_drewN ?_ _)
          | (with_reducible refine Below.drew ?_)
          | (with_reducible refine below_regrown_up _ _ ?_ ?_)
          | (with_reducible refine Below.alloc ?_ ?_ _)
          | (with_reducible refine Below.setCell ?_ ?_ _)
          | (with_reducible refine below_up ?_ ?_ (by assumption))
          | (with_reducible exact Nat.le_refl _)
          | omega
          | (simp; done)
          | (simp; omega))
theorem isBill_any (b : Bill) (w : World) :
    Calls Tryz.prog 76 #[b.v] w fun e w' => e = .returned (.bool b.ok) ∧ Below w.heap.size w w' := by
  obtain ⟨er, her⟩ : ∃ er, (if b.ok = true then (0 : Int) else 1) = er := ⟨_, rfl⟩
  have HER := Lib.hid her
  clear her
  go_enter Tryz.func76, Tryz.ntmps76
  go_wp2_with (go_at_call 12; refine (tall_nil HER.out _).mono ?_; rintro e w1 ⟨⟨A, c, rfl⟩, hb1⟩)
  go_ret
  refine ⟨ret_bool ?_, ?_⟩
  · rw [← HER.out]; cases b.ok <;> rfl
  · repeat' (first
      | (with_reducible exact Below.refl _ _)
      | (with_reducible assumption)
      | (with_reducible refine below_drewN ?_ _)
      | (with_reducible refine Below.drew ?_)
      | (with_reducible refine below_regrown_up _ _ ?_ ?_)
      | (with_reducible refine Below.alloc ?_ ?_ _)
      | (with_reducible refine Below.setCell ?_ ?_ _)
      | (with_reducible refine below_up ?_ ?_ (by assumption))
      | (with_reducible exact Nat.le_refl _)
      | omega
      | (simp; done)
      | (simp; omega))
theorem r30part_any (p d : Int) (w : World) :
    Calls Tryz.prog 33 #[.agg #[.int .i64 p, .int .i64 d]] w fun e w' => e = .returned (.bool (partOk p d)) ∧ Below w.heap.size w w' := by
  cases hr : ratOk p d
  all_goals
    go_enter Tryz.func33, Tryz.ntmps33
    go_wp2_with (go_at_call 60; refine (rvalid_any p d _).mono ?_; rintro e w1 ⟨rfl, hb1⟩; have hz1 := hb1.size; (try simp only [World.size_alloc, World.size_setCell, World.size_drew, size_drewN', size_grow, size_redrawn] at hz1); obtain ⟨hc1, hf1⟩ := bcellB (B := w.heap.size + 1) hb1 (by first | omega | (simp only [World.size_alloc, World.size_setCell, World.size_drew, size_drewN', size_grow, size_redrawn]; omega)); rw [hr])
    all_goals
      go_ret
      refine ⟨ret_bool ?_, ?_⟩
      · unfold partOk
        rw [hr]
        first | rfl | (simp; done) | (simp; omega)
      · repeat' (first
          | (with_reducible exact Below.refl _ _)
          | (with_reducible assumption)
          | (with_reducible refine below_drewN ?_ _)
          | (with_reducible refine Below.drew ?_)
          | (with_reducible refine below_regrown_up _ _ ?_ ?_)
          | (with_reducible refine Below.alloc ?_ ?_ _)
          | (with_reducible refine Below.setCell ?_ ?_ _)
          | (with_reducible refine below_up ?_ ?_ (by assumption))
          | (with_reducible exact Nat.le_refl _)
          | omega
          | (simp; done)
          | (simp; omega))
theorem cone_any {p d x er : Int} {b : Bill} (h : oneR p d b = (x, er)) (w : World) :
    Calls Tryz.prog 44 #[.agg #[.int .i64 p, .int .i64 d], b.v] w fun e w' => e = .returned (.tuple #[.int .i64 x, .int .i64 er]) ∧ Below w.heap.size w w' := by
  cases h1 : partOk p d
  · rw [oneR_no (by rw [h1]; rfl), Prod.mk.injEq] at h
    obtain ⟨rfl, rfl⟩ := h
    go_enter Tryz.func44, Tryz.ntmps44
    go_wp2_with (go_at_call 72; refine (isPart_any p d _).mono ?_; rintro e w1 ⟨rfl, hb1⟩; have hz1 := hb1.size; (try simp only [World.size_alloc, World.size_setCell, World.size_drew, size_drewN', size_grow, size_redrawn] at hz1); obtain ⟨hc1, hf1⟩ := bcellB (B := w.heap.size + 2) hb1 (by first | omega | (simp only [World.size_alloc, World.size_setCell, World.size_drew, size_drewN', size_grow, size_redrawn]; omega)); rw [h1])
    go_ret2
    refine ⟨rfl, ?_⟩
    repeat' (first
      | (with_reducible exact Below.refl _ _)
      | (with_reducible assumption)
      | (with_reducible refine below_drewN ?_ _)
      | (with_reducible refine Below.drew ?_)
      | (with_reducible refine below_regrown_up _ _ ?_ ?_)
      | (with_reducible refine Below.alloc ?_ ?_ _)
      | (with_reducible refine Below.setCell ?_ ?_ _)
      | (with_reducible refine below_up ?_ ?_ (by assumption))
      | (with_reducible exact Nat.le_refl _)
      | omega
      | (simp; done)
      | (simp; omega))
  · cases h2 : b.ok
    · rw [oneR_no (by rw [h1, h2]; rfl), Prod.mk.injEq] at h
      obtain ⟨rfl, rfl⟩ := h
      go_enter Tryz.func44, Tryz.ntmps44
      go_wp2_with (first | (go_at_call 72; refine (isPart_any p d _).mono ?_; rintro e w1 ⟨rfl, hb1⟩; have hz1 := hb1.size; (try simp only [World.size_alloc, World.size_setCell, World.size_drew, size_drewN', size_grow, size_redrawn] at hz1); obtain ⟨hc1, hf1⟩ := bcellB (B := w.heap.size + 2) hb1 (by first | omega | (simp only [World.size_alloc, World.size_setCell, World.size_drew, size_drewN', size_grow, size_redrawn]; omega)); rw [h1]) | (go_at_call 76; refine (isBill_any b _).mono ?_; rintro e w2 ⟨rfl, hb2⟩; have hz2 := hb2.size; (try simp only [World.size_alloc, World.size_setCell, World.size_drew, size_drewN', size_grow, size_redrawn] at hz2); obtain ⟨hc2, hf2⟩ := bcellB (B := w.heap.size + 2) hb2 (by first | omega | (simp only [World.size_alloc, World.size_setCell, World.size_drew, size_drewN', size_grow, size_redrawn]; omega)); rw [h2]))
      go_ret2
      refine ⟨rfl, ?_⟩
      repeat' (first
        | (with_reducible exact Below.refl _ _)
        | (with_reducible assumption)
        | (with_reducible refine below_drewN ?_ _)
        | (with_reducible refine Below.drew ?_)
        | (with_reducible refine below_regrown_up _ _ ?_ ?_)
        | (with_reducible refine Below.alloc ?_ ?_ _)
        | (with_reducible refine Below.setCell ?_ ?_ _)
        | (with_reducible refine below_up ?_ ?_ (by assumption))
        | (with_reducible exact Nat.le_refl _)
        | omega
        | (simp; done)
        | (simp; omega))
    · rw [oneR_ok h1 h2, Prod.mk.injEq] at h
      obtain ⟨rfl, rfl⟩ := h
      obtain ⟨hr, p0, pd⟩ := partOk_iff.1 h1
      obtain ⟨n0, n1⟩ := (Bill.ok_iff.1 h2).2.2.2.2.2.2.1
      obtain ⟨k0, k1⟩ := comm_bd h1 n0
      have HR := Lib.hid hr
      go_enter Tryz.func44, Tryz.ntmps44
      go_wp2_with (first | (go_at_call 72; refine (isPart_any p d _).mono ?_; rintro e w1 ⟨rfl, hb1⟩; have hz1 := hb1.size; (try simp only [World.size_alloc, World.size_setCell, World.size_drew, size_drewN', size_grow, size_redrawn] at hz1); obtain ⟨hc1, hf1⟩ := bcellB (B := w.heap.size + 2) hb1 (by first | omega | (simp only [World.size_alloc, World.size_setCell, World.size_drew, size_drewN', size_grow, size_redrawn]; omega)); rw [h1]) | (go_at_call 76; refine (isBill_any b _).mono ?_; rintro e w2 ⟨rfl, hb2⟩; have hz2 := hb2.size; (try simp only [World.size_alloc, World.size_setCell, World.size_drew, size_drewN', size_grow, size_redrawn] at hz2); obtain ⟨hc2, hf2⟩ := bcellB (B := w.heap.size + 2) hb2 (by first | omega | (simp only [World.size_alloc, World.size_setCell, World.size_drew, size_drewN', size_grow, size_redrawn]; omega)); rw [h2]) | (go_at_call 77; refine (part_any b.price p d _ n0 n1 HR.out p0 pd _ rfl k1 k0).mono ?_; rintro e w3 ⟨rfl, hb3⟩; have hz3 := hb3.size; (try simp only [World.size_alloc, World.size_setCell, World.size_drew, size_drewN', size_grow, size_redrawn] at hz3); obtain ⟨hc3, hf3⟩ := bcellB (B := w.heap.size + 2) hb3 (by first | omega | (simp only [World.size_alloc, World.size_setCell, World.size_drew, size_drewN', size_grow, size_redrawn]; omega))))
      go_ret2
      refine ⟨rfl, ?_⟩
      repeat' (first
        | (with_reducible exact Below.refl _ _)
        | (with_reducible assumption)
        | (with_reducible refine below_drewN ?_ _)
        | (with_reducible refine Below.drew ?_)
        | (with_reducible refine below_regrown_up _ _ ?_ ?_)
        | (with_reducible refine Below.alloc ?_ ?_ _)
        | (with_reducible refine Below.setCell ?_ ?_ _)
        | (with_reducible refine below_up ?_ ?_ (by assumption))
        | (with_reducible exact Nat.le_refl _)
        | omega
        | (simp; done)
        | (simp; omega))
end Go.Proofs.YtmlhoojcdidgkaaGreat

/-
  Package walk: what a walked guest is paid.
-/
namespace Go.Proofs.YtmlhoojcdidgkaaGreat
set_option linter.unusedSimpArgs false
set_option linter.unusedVariables false
open Go.RowKit Go.Maps
open Go.Sort (grow size_grow)

set_option maxHeartbeats 4000000
set_option maxRecDepth 100000
theorem walk_within_any (n lo hi : Int) (w : World) :
    Calls Tryz.prog 79 #[.int .i64 n, .int .i64 lo, .int .i64 hi] w fun e w' => e = .returned (.bool (inB n lo hi)) ∧ w = w' := by
  by_cases h1 : lo ≤ n
  · by_cases h2 : n ≤ hi
    · go_enter Tryz.func79, Tryz.ntmps79
      go_wp2
      go_ret
      exact ⟨ret_bool (by rw [inB_t h1 h2]), rfl⟩
    · go_enter Tryz.func79, Tryz.ntmps79
      go_wp2
      go_ret
      exact ⟨ret_bool (by rw [inB_f (by omega)]), rfl⟩
  · go_enter Tryz.func79, Tryz.ntmps79
    go_wp2
    go_ret
    exact ⟨ret_bool (by rw [inB_f (by omega)]), rfl⟩
theorem up_any (q r d : Int) (w : World) :
    Calls Tryz.prog 120 #[.int .i64 q, .int .i64 r, .int .i64 d] w fun e w' => e = .returned (.bool (decide (0 < r))) ∧ w = w' := by
  go_enter Tryz.func120, Tryz.ntmps120
  go_wp2
  go_ret
  exact ⟨rfl, rfl⟩
theorem rnd_up (n d : Int) : rnd n d 2 = if decide (0 < n % d) = true then n / d + 1 else n / d := by
  unfold rnd
  simp
theorem fround2_any (m d : Int) (w : World) (m0 : 0 ≤ m) (m1 : m ≤ 1000000000000000) (d0 : 1 ≤ d) (d1 : d ≤ 1000000) :
    Calls Tryz.prog 103 #[.agg #[.int .i64 m, .int .i64 d], .agg #[.func (.func 120) #[] #[]]] w fun e w' => e = .returned (.int .i64 (rnd m d 2)) ∧ Below w.heap.size w w' := by
  have hq0 := Int.ediv_nonneg m0 (show 0 ≤ d by omega)
  have hq1 : m / d ≤ m := Int.ediv_le_self d m0
  have hs : m - m / d * d = m % d := by have := Int.emod_add_mul_ediv m d; rw [Int.mul_comm] at this; omega
  have hrm0 := Int.emod_nonneg m (show d ≠ 0 by omega)
  have hrm1 := Int.emod_lt_of_pos m (show 0 < d by omega)
  have hp0 : m / d * d ≤ m := by omega
  have hp1 : 0 ≤ m / d * d := Int.mul_nonneg hq0 (by omega)
  have HE := Lib.hid (rnd_up m d)
  go_enter Tryz.func103, Tryz.ntmps103
  go_wp2_with (go_at_call 120; go_loud (refine (up_any (m / d) (m % d) d _).mono ?_); rintro e w' ⟨rfl, rfl⟩)
  all_goals
    go_ret
    refine ⟨ret_int ?_, ?_⟩
    · rw [HE.out]
      first
        | (rw [if_pos (by assumption)]; done)
        | (rw [if_neg (by assumption)]; done)
        | (simp only [decide_eq_true_eq]; split <;> omega)
        | (simp_all; done)
    · repeat' (first
        | (with_reducible exact Below.refl _ _)
        | (with_reducible assumption)
        | (with_reducible refine below_drewN ?_ _)
        | (with_reducible refine Below.drew ?_)
        | (with_reducible refine below_regrown_up _ _ ?_ ?_)
        | (with_reducible refine Below.alloc ?_ ?_ _)
        | (with_reducible refine Below.setCell ?_ ?_ _)
        | (with_reducible refine below_up ?_ ?_ (by assumption))
        | (with_reducible exact Nat.le_refl _)
        | omega
        | (simp; done)
        | (simp; omega))
theorem part2_any (n p d : Int) (w : World) (n0 : 0 ≤ n) (n1 : n ≤ 1000000000) (hr : ratOk p d = true) (p0 : 0 ≤ p) (pd : p ≤ d) (m : Int) (hm : n * p = m) (hr1 : rnd m d 2 ≤ n) (hr0 : 0 ≤ rnd m d 2) :
    Calls Tryz.prog 77 #[.int .i64 n, .agg #[.int .i64 p, .int .i64 d], .int .i64 2] w fun e w' => e = .returned (.tuple #[.int .i64 (rnd m d 2), .int .i64 0]) ∧ Below w.heap.size w w' := by
  obtain ⟨d0, d1, _, _, _⟩ := ratOk_iff.1 hr
  have hmp : 0 ≤ m ∧ m ≤ 1000000000000000 := by
    rw [← hm]
    have h1 := Int.mul_nonneg n0 p0
    have h2 := Int.mul_le_mul n1 (show p ≤ 1000000 by omega) p0 (by omega)
    omega
  obtain ⟨m0, m1⟩ := hmp
  have hw1 : IntKind.i64.wrap (n * p) = m := by rw [hm]; exact IntWalk.i64_in _ (by omega)
  go_enter Tryz.func77, Tryz.ntmps77
  go_wp2_with fail
  refine (rounders_any _).mono ?_
  rintro e w1 ⟨⟨rfl, hown⟩, hb1⟩
  obtain ⟨v, ps, hrun, hv⟩ := hown.look_ok (t := 148) keyedI' Tryz.underlying148 (zero_way w1) (zd := vI (-1)) rfl (key := .int .i64 2) (keyOf_int_mk Tryz.underlying3 rfl)
  have hv2 : v = .agg #[.func (.func 120) #[] #[]] := rdR_inv hv
  have hv3 : Maps.has ways (kI 2) = true := rfl
  subst hv2
  rw [hv3] at hrun
  simp only [World.size_alloc] at hrun
  have hz1 := hb1.size
  (try simp only [World.size_alloc] at hz1)
  obtain ⟨hc1, hf1⟩ := bcellB (B := w.heap.size + 1) hb1 (by simp)
  have la1a : w.heap.size < w1.heap.size := (by omega); have lb1a : w.heap.size < w1.heap.size + 1 := (by omega); have lc1a : w.heap.size < w1.heap.size + 1 + 1 := (by omega); have ld1a : w.heap.size < w1.heap.size + 1 + 1 + 1 := (by omega); have le1a : w.heap.size < w1.heap.size + 1 + 1 + 1 + 1 := (by omega)
  go_wp2_with (first
    | (go_at_call 94; refine (ratValid_any p d _).mono ?_; rintro e w2 ⟨rfl, hb2⟩; have hz2 := hb2.size; (try simp only [World.size_alloc, World.size_setCell, World.size_drew, size_drewN', size_grow, size_redrawn] at hz2); obtain ⟨hc2, hf2⟩ := bcellB (B := w1.heap.size + 1) hb2 (by first | omega | (simp only [World.size_alloc, World.size_setCell, World.size_drew, size_drewN', size_grow, size_redrawn]; omega)); rw [hr])
    | (go_at_call 103; refine (fround2_any m d _ m0 m1 d0 d1).mono ?_; rintro e w3 ⟨rfl, hb3⟩; have hz3 := hb3.size; (try simp only [World.size_alloc, World.size_setCell, World.size_drew, size_drewN', size_grow, size_redrawn] at hz3); obtain ⟨hc3, hf3⟩ := bcellB (B := w1.heap.size + 1) hb3 (by first | omega | (simp only [World.size_alloc, World.size_setCell, World.size_drew, size_drewN', size_grow, size_redrawn]; omega)))
    | (go_at_call 104; refine (size_any' _ _ hr0 (by omega)).mono ?_; rintro e w' ⟨rfl, rfl⟩))
  go_ret2
  refine ⟨rfl, ?_⟩
  repeat' (first
    | (with_reducible exact Below.refl _ _)
    | (with_reducible assumption)
    | (with_reducible refine below_drewN ?_ _)
    | (with_reducible refine Below.drew ?_)
    | (with_reducible refine below_regrown_up _ _ ?_ ?_)
    | (with_reducible refine Below.alloc ?_ ?_ _)
    | (with_reducible refine Below.setCell ?_ ?_ _)
    | (with_reducible refine below_up ?_ ?_ (by assumption))
    | (with_reducible exact Nat.le_refl _)
    | omega
    | (simp; done)
    | (simp; omega))
structure Con where
  fx : Int
  n : Int
  d : Int
  most : Int
abbrev Con.v (k : Con) : Value := .agg #[.int .i64 k.fx, .int .i64 k.n, .int .i64 k.d, .int .i64 k.most]
def conOk (k : Con) : Bool := ratOk k.n k.d && inB k.n 0 k.d && inB k.fx 0 1000000000 && inB k.most 0 1000
def payR (k : Con) (price : Int) : Int × Int :=
  if (conOk k && inB price 0 1000000000) = true then (if 1000000000 < k.fx + rnd (price * k.n) k.d 2 then (0, 3) else (k.fx + rnd (price * k.n) k.d 2, 0)) else (0, 1)
theorem up_bd {n d price : Int} (hd : 1 ≤ d) (h0 : 0 ≤ n) (h1 : n ≤ d) (p0 : 0 ≤ price) : 0 ≤ rnd (price * n) d 2 ∧ rnd (price * n) d 2 ≤ price := by
  have h2 := Int.mul_nonneg p0 h0
  have hq0 := Int.ediv_nonneg h2 (show 0 ≤ d by omega)
  have hs := Int.emod_add_mul_ediv (price * n) d
  have hr0 := Int.emod_nonneg (price * n) (show d ≠ 0 by omega)
  have hle : price * n ≤ price * d := Int.mul_le_mul_of_nonneg_left h1 p0
  have hlt : price * n / d ≤ price := by
    have h3 := Int.ediv_le_ediv (show 0 < d by omega) hle
    rwa [Int.mul_ediv_cancel _ (show d ≠ 0 by omega)] at h3
  rw [rnd_up]
  split
  · next h =>
    rw [decide_eq_true_eq] at h
    refine ⟨by omega, ?_⟩
    have : price * n / d ≠ price := by
      intro e
      rw [e] at hs
      rw [Int.mul_comm d price] at hs
      omega
    omega
  · exact ⟨hq0, hlt⟩
theorem walk_right_any (k : Con) (w : World) :
    Calls Tryz.prog 78 #[k.v] w fun e w' => e = .returned (.bool (conOk k)) ∧ Below w.heap.size w w' := by
  have hk : conOk k = (ratOk k.n k.d && inB k.n 0 k.d && inB k.fx 0 1000000000 && inB k.most 0 1000) := rfl
  have HK := Lib.hid hk
  cases h1 : ratOk k.n k.d <;> cases h2 : inB k.n 0 k.d <;> cases h3 : inB k.fx 0 1000000000 <;> cases h4 : inB k.most 0 1000
  all_goals
    go_enter Tryz.func78, Tryz.ntmps78
    go_wp2_with (first
      | (go_at_call 94; refine (ratValid_any k.n k.d _).mono ?_; rintro e w1 ⟨rfl, hb1⟩; have hz1 := hb1.size; (try simp only [World.size_alloc, World.size_setCell, World.size_drew, size_drewN', size_grow, size_redrawn] at hz1); obtain ⟨hc1, hf1⟩ := bcellB (B := w.heap.size + 1) hb1 (by first | omega | (simp only [World.size_alloc, World.size_setCell, World.size_drew, size_drewN', size_grow, size_redrawn]; omega)); rw [h1])
      | (go_at_call 79; refine (walk_within_any _ _ _ _).mono ?_; rintro e w' ⟨rfl, rfl⟩; (first | rw [h2] | rw [h3] | rw [h4])))
    go_ret
    refine ⟨ret_bool (by rw [HK.out, h1, h2, h3, h4]; rfl), ?_⟩
    repeat' (first
      | (with_reducible exact Below.refl _ _)
      | (with_reducible assumption)
      | (with_reducible refine below_drewN ?_ _)
      | (with_reducible refine Below.drew ?_)
      | (with_reducible refine below_regrown_up _ _ ?_ ?_)
      | (with_reducible refine Below.alloc ?_ ?_ _)
      | (with_reducible refine Below.setCell ?_ ?_ _)
      | (with_reducible refine below_up ?_ ?_ (by assumption))
      | (with_reducible exact Nat.le_refl _)
      | omega
      | (simp; done)
      | (simp; omega))
theorem wpay_any (k : Con) (price : Int) (w : World) :
    Calls Tryz.prog 45 #[k.v, .int .i64 price] w fun e w' => e = .returned (.tuple #[.int .i64 (payR k price).1, .int .i64 (payR k price).2]) ∧ Below w.heap.size w w' := by
  cases h1 : conOk k
  · have HP : Hid (payR k price = (0, 1)) := Lib.hid (by unfold payR; rw [h1]; rfl)
    go_enter Tryz.func45, Tryz.ntmps45
    go_wp2_with (go_at_call 78; refine (walk_right_any k _).mono ?_; rintro e w1 ⟨rfl, hb1⟩; have hz1 := hb1.size; (try simp only [World.size_alloc, World.size_setCell, World.size_drew, size_drewN', size_grow, size_redrawn] at hz1); obtain ⟨hc1, hf1⟩ := bcellB (B := w.heap.size + 1) hb1 (by first | omega | (simp only [World.size_alloc, World.size_setCell, World.size_drew, size_drewN', size_grow, size_redrawn]; omega)); rw [h1])
    go_ret2
    rw [HP.out]
    refine ⟨rfl, ?_⟩
    repeat' (first
      | (with_reducible exact Below.refl _ _)
      | (with_reducible assumption)
      | (with_reducible refine below_drewN ?_ _)
      | (with_reducible refine Below.drew ?_)
      | (with_reducible refine below_regrown_up _ _ ?_ ?_)
      | (with_reducible refine Below.alloc ?_ ?_ _)
      | (with_reducible refine Below.setCell ?_ ?_ _)
      | (with_reducible refine below_up ?_ ?_ (by assumption))
      | (with_reducible exact Nat.le_refl _)
      | omega
      | (simp; done)
      | (simp; omega))
  cases h2 : inB price 0 1000000000
  · have HP : Hid (payR k price = (0, 1)) := Lib.hid (by unfold payR; rw [h1, h2]; rfl)
    go_enter Tryz.func45, Tryz.ntmps45
    go_wp2_with (first
      | (go_at_call 78; refine (walk_right_any k _).mono ?_; rintro e w1 ⟨rfl, hb1⟩; have hz1 := hb1.size; (try simp only [World.size_alloc, World.size_setCell, World.size_drew, size_drewN', size_grow, size_redrawn] at hz1); obtain ⟨hc1, hf1⟩ := bcellB (B := w.heap.size + 1) hb1 (by first | omega | (simp only [World.size_alloc, World.size_setCell, World.size_drew, size_drewN', size_grow, size_redrawn]; omega)); rw [h1])
      | (go_at_call 79; refine (walk_within_any _ _ _ _).mono ?_; rintro e w' ⟨rfl, rfl⟩; rw [h2]))
    go_ret2
    rw [HP.out]
    refine ⟨rfl, ?_⟩
    repeat' (first
      | (with_reducible exact Below.refl _ _)
      | (with_reducible assumption)
      | (with_reducible refine below_drewN ?_ _)
      | (with_reducible refine Below.drew ?_)
      | (with_reducible refine below_regrown_up _ _ ?_ ?_)
      | (with_reducible refine Below.alloc ?_ ?_ _)
      | (with_reducible refine Below.setCell ?_ ?_ _)
      | (with_reducible refine below_up ?_ ?_ (by assumption))
      | (with_reducible exact Nat.le_refl _)
      | omega
      | (simp; done)
      | (simp; omega))
  have hp := h1
  unfold conOk at hp
  rw [Bool.and_eq_true, Bool.and_eq_true, Bool.and_eq_true, inB_iff, inB_iff, inB_iff] at hp
  obtain ⟨⟨⟨hr, n0, n1⟩, f0, f1⟩, _⟩ := hp
  obtain ⟨p0, p1⟩ := inB_iff.1 h2
  obtain ⟨d0, _⟩ := ratOk_iff.1 hr
  obtain ⟨b0, b1⟩ := up_bd d0 n0 n1 p0
  have HPA := Lib.hid (fun W => part2_any price k.n k.d W p0 p1 hr n0 n1 _ rfl b1 b0)
  have hpay : payR k price = if 1000000000 < k.fx + rnd (price * k.n) k.d 2 then (0, 3) else (k.fx + rnd (price * k.n) k.d 2, 0) := by unfold payR; rw [h1, h2]; rfl
  have HP := Lib.hid hpay
  clear hpay hr
  generalize rnd (price * k.n) k.d 2 = z at *
  have hw : IntKind.i64.wrap (k.fx + z) = k.fx + z := IntWalk.i64_in _ (by omega)
  by_cases hz : 1000000000 < k.fx + z
  · have hd : decide (1000000000 < k.fx + z) = true := by rw [decide_eq_true_eq]; exact hz
    go_enter Tryz.func45, Tryz.ntmps45
    go_wp2_with (first
      | (go_at_call 78; refine (walk_right_any k _).mono ?_; rintro e w1 ⟨rfl, hb1⟩; have hz1 := hb1.size; (try simp only [World.size_alloc, World.size_setCell, World.size_drew, size_drewN', size_grow, size_redrawn] at hz1); obtain ⟨hc1, hf1⟩ := bcellB (B := w.heap.size + 1) hb1 (by first | omega | (simp only [World.size_alloc, World.size_setCell, World.size_drew, size_drewN', size_grow, size_redrawn]; omega)); rw [h1])
      | (go_at_call 79; refine (walk_within_any _ _ _ _).mono ?_; rintro e w' ⟨rfl, rfl⟩; rw [h2])
      | (go_at_call 77; refine (HPA.out _).mono ?_; rintro e w3 ⟨rfl, hb3⟩; have hz3 := hb3.size; (try simp only [World.size_alloc, World.size_setCell, World.size_drew, size_drewN', size_grow, size_redrawn] at hz3); obtain ⟨hc3, hf3⟩ := bcellB (B := w.heap.size + 1) hb3 (by first | omega | (simp only [World.size_alloc, World.size_setCell, World.size_drew, size_drewN', size_grow, size_redrawn]; omega))))
    go_ret2
    rw [HP.out, if_pos (by omega)]
    refine ⟨rfl, ?_⟩
    repeat' (first
      | (with_reducible exact Below.refl _ _)
      | (with_reducible assumption)
      | (with_reducible refine below_drewN ?_ _)
      | (with_reducible refine Below.drew ?_)
      | (with_reducible refine below_regrown_up _ _ ?_ ?_)
      | (with_reducible refine Below.alloc ?_ ?_ _)
      | (with_reducible refine Below.setCell ?_ ?_ _)
      | (with_reducible refine below_up ?_ ?_ (by assumption))
      | (with_reducible exact Nat.le_refl _)
      | omega
      | (simp; done)
      | (simp; omega))
  · have hd : decide (1000000000 < k.fx + z) = false := by rw [decide_eq_false_iff_not]; exact hz
    go_enter Tryz.func45, Tryz.ntmps45
    go_wp2_with (first
      | (go_at_call 78; refine (walk_right_any k _).mono ?_; rintro e w1 ⟨rfl, hb1⟩; have hz1 := hb1.size; (try simp only [World.size_alloc, World.size_setCell, World.size_drew, size_drewN', size_grow, size_redrawn] at hz1); obtain ⟨hc1, hf1⟩ := bcellB (B := w.heap.size + 1) hb1 (by first | omega | (simp only [World.size_alloc, World.size_setCell, World.size_drew, size_drewN', size_grow, size_redrawn]; omega)); rw [h1])
      | (go_at_call 79; refine (walk_within_any _ _ _ _).mono ?_; rintro e w' ⟨rfl, rfl⟩; rw [h2])
      | (go_at_call 77; refine (HPA.out _).mono ?_; rintro e w3 ⟨rfl, hb3⟩; have hz3 := hb3.size; (try simp only [World.size_alloc, World.size_setCell, World.size_drew, size_drewN', size_grow, size_redrawn] at hz3); obtain ⟨hc3, hf3⟩ := bcellB (B := w.heap.size + 1) hb3 (by first | omega | (simp only [World.size_alloc, World.size_setCell, World.size_drew, size_drewN', size_grow, size_redrawn]; omega))))
    go_ret2
    rw [HP.out, if_neg (by omega)]
    refine ⟨rfl, ?_⟩
    repeat' (first
      | (with_reducible exact Below.refl _ _)
      | (with_reducible assumption)
      | (with_reducible refine below_drewN ?_ _)
      | (with_reducible refine Below.drew ?_)
      | (with_reducible refine below_regrown_up _ _ ?_ ?_)
      | (with_reducible refine Below.alloc ?_ ?_ _)
      | (with_reducible refine Below.setCell ?_ ?_ _)
      | (with_reducible refine below_up ?_ ?_ (by assumption))
      | (with_reducible exact Nat.le_refl _)
      | omega
      | (simp; done)
      | (simp; omega))
end Go.Proofs.YtmlhoojcdidgkaaGreat

/-
  Plain words for ledgers: entries, what is well-formed, balances, open entries. No Go in sight.
-/
namespace Go.Proofs.YtmlhoojcdidgkaaGreat
set_option linter.unusedSimpArgs false
set_option linter.unusedVariables false

structure Entry where
  day : Int
  debit : Int
  credit : Int
  cents : Int
  ref : Int
theorem Entry.ext' {a b : Entry} (h1 : a.day = b.day) (h2 : a.debit = b.debit) (h3 : a.credit = b.credit) (h4 : a.cents = b.cents) (h5 : a.ref = b.ref) : a = b := by
  cases a; cases b; simp_all
theorem Entry.eq_iff {a b : Entry} : a = b ↔ (a.day = b.day ∧ a.debit = b.debit ∧ a.credit = b.credit ∧ a.cents = b.cents ∧ a.ref = b.ref) :=
  ⟨fun h => by subst h; exact ⟨rfl, rfl, rfl, rfl, rfl⟩, fun ⟨h1, h2, h3, h4, h5⟩ => Entry.ext' h1 h2 h3 h4 h5⟩
instance : DecidableEq Entry := fun _ _ => decidable_of_iff _ Entry.eq_iff.symm
def Entry.ok (e : Entry) : Bool := inB e.day 0 366 && inB e.debit 100 999 && inB e.credit 100 999 && decide (e.debit ≠ e.credit) && inB e.cents 1 1000000000 && inB e.ref 0 1000000
theorem Entry.ok_iff {e : Entry} : e.ok = true ↔ (0 ≤ e.day ∧ e.day ≤ 366) ∧ (100 ≤ e.debit ∧ e.debit ≤ 999) ∧ (100 ≤ e.credit ∧ e.credit ≤ 999) ∧ e.debit ≠ e.credit ∧ (1 ≤ e.cents ∧ e.cents ≤ 1000000000) ∧ (0 ≤ e.ref ∧ e.ref ≤ 1000000) := by
  unfold Entry.ok
  simp [inB_iff, and_assoc]
def Rises (l : List Entry) : Prop := l.Pairwise fun a b => a.day ≤ b.day
instance (l : List Entry) : Decidable (Rises l) := by unfold Rises; infer_instance
theorem rises_iff {l : List Entry} : Rises l ↔ ∀ i (h : i + 1 < l.length), l[i].day ≤ l[i + 1].day := by
  unfold Rises
  rw [List.pairwise_iff_getElem]
  constructor
  · intro h i hi
    exact h i (i + 1) (by omega) hi (by omega)
  · intro h i j hi hj hij
    obtain ⟨d, rfl⟩ : ∃ d, j = i + d := ⟨j - i, by omega⟩
    clear hij
    induction d with
    | zero => exact Int.le_refl _
    | succ d ih => exact Int.le_trans (ih (by omega)) (h (i + d) (by omega))
def ledOk (l : List Entry) : Bool := decide (l.length ≤ 5000) && l.all Entry.ok && decide (Rises l)
theorem ledOk_iff {l : List Entry} : ledOk l = true ↔ l.length ≤ 5000 ∧ (∀ e ∈ l, e.ok = true) ∧ Rises l := by
  unfold ledOk
  rw [Bool.and_eq_true, Bool.and_eq_true, decide_eq_true_eq, decide_eq_true_eq, List.all_eq_true, and_assoc]
theorem ledOk_at {l : List Entry} (h : ledOk l = true) {i : Nat} (hi : i < l.length) : l[i].ok = true := (ledOk_iff.1 h).2.1 _ (List.getElem_mem hi)
theorem ledOk_nil : ledOk [] = true := by decide

/-! ### Balances -/
def mv (p : Int → Bool) (e : Entry) : Int := (if p e.debit then e.cents else 0) - (if p e.credit then e.cents else 0)
def upto (l : List Entry) (day : Int) : List Entry := l.filter fun e => decide (e.day ≤ day)
def mvs (p : Int → Bool) (l : List Entry) : Int := (l.map (mv p)).sum
def bal (p : Int → Bool) (l : List Entry) (day : Int) : Int := mvs p (upto l day)
theorem mvs_nil (p : Int → Bool) : mvs p [] = 0 := rfl
theorem mvs_cons (p : Int → Bool) (e : Entry) (l : List Entry) : mvs p (e :: l) = mv p e + mvs p l := by simp [mvs]
theorem mvs_append (p : Int → Bool) (a b : List Entry) : mvs p (a ++ b) = mvs p a + mvs p b := by simp [mvs]
theorem upto_append (a b : List Entry) (day : Int) : upto (a ++ b) day = upto a day ++ upto b day := List.filter_append ..
theorem bal_append (p : Int → Bool) (a b : List Entry) (day : Int) : bal p (a ++ b) day = bal p a day + bal p b day := by unfold bal; rw [upto_append, mvs_append]
theorem mv_bd (p : Int → Bool) {e : Entry} (h : e.ok = true) : -1000000000 ≤ mv p e ∧ mv p e ≤ 1000000000 := by
  have := (Entry.ok_iff.1 h).2.2.2.2.1
  unfold mv
  split <;> split <;> omega
theorem mvs_bd (p : Int → Bool) : ∀ {l : List Entry}, (∀ e ∈ l, e.ok = true) → -(1000000000 * (l.length : Int)) ≤ mvs p l ∧ mvs p l ≤ 1000000000 * (l.length : Int)
  | [], _ => by simp [mvs]
  | e :: l, h => by
    have h1 := mv_bd p (h e (by simp))
    have h2 := mvs_bd p (l := l) (fun x hx => h x (by simp [hx]))
    rw [mvs_cons, List.length_cons]
    omega
theorem upto_mem {l : List Entry} {day : Int} {e : Entry} (h : e ∈ upto l day) : e ∈ l := (List.mem_filter.1 h).1
theorem upto_len (l : List Entry) (day : Int) : (upto l day).length ≤ l.length := List.length_filter_le _ _
theorem bal_bd (p : Int → Bool) {l : List Entry} {day : Int} (h : ledOk l = true) : -5000000000000 ≤ bal p l day ∧ bal p l day ≤ 5000000000000 := by
  obtain ⟨h1, h2, _⟩ := ledOk_iff.1 h
  have := mvs_bd p (l := upto l day) (fun e he => h2 e (upto_mem he))
  have := upto_len l day
  unfold bal
  omega
/-- Of a ledger the entries up to a day are those at its head. -/
theorem upto_cut {l : List Entry} (h : Rises l) {day : Int} {k : Nat} (hk : k < l.length) (h1 : ∀ i (hi : i < l.length), i < k → l[i].day ≤ day) (h2 : day < l[k].day) : upto l day = l.take k := by
  unfold upto
  rw [← List.take_append_drop k l, List.filter_append]
  have e1 : (l.take k).filter (fun e => decide (e.day ≤ day)) = l.take k := by
    rw [List.filter_eq_self]
    intro e he
    obtain ⟨i, hi, rfl⟩ := List.getElem_of_mem he
    rw [List.length_take] at hi
    simpa using h1 i (by omega) (by omega)
  have e2 : (l.drop k).filter (fun e => decide (e.day ≤ day)) = [] := by
    rw [List.filter_eq_nil_iff]
    intro e he
    obtain ⟨i, hi, rfl⟩ := List.getElem_of_mem he
    rw [List.length_drop] at hi
    rw [List.getElem_drop]
    have : l[k].day ≤ l[k + i].day := by
      rcases Nat.eq_zero_or_pos i with rfl | h0
      · exact Int.le_refl _
      · exact (List.pairwise_iff_getElem.1 h) k (k + i) hk (by omega) (by omega)
    simp
    omega
  rw [e1, e2]
  simp
theorem upto_all {l : List Entry} {day : Int} (h1 : ∀ i (hi : i < l.length), l[i].day ≤ day) : upto l day = l := by
  unfold upto
  rw [List.filter_eq_self]
  intro e he
  obtain ⟨i, hi, rfl⟩ := List.getElem_of_mem he
  simpa using h1 i hi

/-! ### Post -/
def begun (l : List Entry) (day : Int) : Bool := match l.getLast? with | some e => decide (day < e.day) | none => false
def postR (l : List Entry) (e : Entry) : List Entry × Int :=
  if (!ledOk l || !e.ok) = true then ([], 1) else if begun l e.day = true then ([], 6) else if l.length = 5000 then ([], 2) else (l ++ [e], 0)
theorem begun_at {l : List Entry} {day : Int} (h : 0 < l.length) : begun l day = decide (day < (l[l.length - 1]'(by omega)).day) := by
  unfold begun
  rw [List.getLast?_eq_getElem?, List.getElem?_eq_getElem (by omega)]
theorem begun_nil {day : Int} : begun [] day = false := rfl

/-! ### Open entries -/
def turned (e : Entry) : Entry := ⟨e.day, e.credit, e.debit, e.cents, e.ref⟩
/-- Does x stand against e? -/
def against (e x : Entry) : Bool := decide (x.credit = e.debit ∧ x.debit = e.credit ∧ x.cents = e.cents ∧ x.ref = e.ref)
/-- The index of the last element for which something holds. -/
def lastIx {α : Type} (p : α → Bool) : List α → Option Nat
  | [] => none
  | x :: l => match lastIx p l with
    | some i => some (i + 1)
    | none => if p x then some 0 else none
def openStep (ref : Int) (out : List Entry) (e : Entry) : List Entry :=
  if e.ref ≠ ref then out else match lastIx (against e) out with
    | some i => out.eraseIdx i
    | none => out ++ [e]
def openE (l : List Entry) (ref : Int) : List Entry := l.foldl (openStep ref) []
def undone (day : Int) (e : Entry) : Entry := ⟨day, e.credit, e.debit, e.cents, e.ref⟩
def undoR (l : List Entry) (ref day : Int) : List Entry × Int :=
  if (!ledOk l || !inB ref 1 1000000 || !inB day 0 366) = true then ([], 1) else if begun l day = true then ([], 6) else
    if openE l ref = [] then ([], 4) else if 5000 < l.length + (openE l ref).length then ([], 2) else (l ++ (openE l ref).map (undone day), 0)
def balR (l : List Entry) (account day : Int) : Int × Int :=
  if (!ledOk l || !inB account 100 999 || !inB day 0 366) = true then (0, 1) else (bal (fun a => a == account) l day, 0)
def ofKind (k : Int) (a : Int) : Bool := inB a (100 * k) (100 * k + 99)
def kindR (l : List Entry) (kind day : Int) : Int × Int :=
  if (!ledOk l || !inB kind 1 9 || !inB day 0 366) = true then (0, 1) else (bal (ofKind kind) l day, 0)

theorem lastIx_some {α : Type} {p : α → Bool} : ∀ {l : List α} {i : Nat}, lastIx p l = some i → ∃ h : i < l.length, p l[i] = true ∧ ∀ j (hj : j < l.length), i < j → p l[j] = false
  | [], i, h => by simp [lastIx] at h
  | x :: l, i, h => by
    unfold lastIx at h
    cases hl : lastIx p l with
    | some k =>
      rw [hl] at h
      simp at h
      subst h
      obtain ⟨h1, h2, h3⟩ := lastIx_some hl
      refine ⟨by simpa using h1, by simpa using h2, fun j hj hij => ?_⟩
      obtain ⟨j, rfl⟩ : ∃ j', j = j' + 1 := ⟨j - 1, by omega⟩
      simpa using h3 j (by simpa using hj) (by omega)
    | none =>
      rw [hl] at h
      simp at h
      obtain ⟨hx, rfl⟩ := h
      refine ⟨by simp, by simpa using hx, fun j hj hij => ?_⟩
      obtain ⟨j, rfl⟩ : ∃ j', j = j' + 1 := ⟨j - 1, by omega⟩
      have := lastIx_none hl
      simpa using this _ (List.getElem_mem (show j < l.length by simpa using hj))
where
  lastIx_none {α : Type} {p : α → Bool} : ∀ {l : List α}, lastIx p l = none → ∀ x ∈ l, p x = false
    | [], _ => by simp
    | y :: l, h => by
      unfold lastIx at h
      cases hl : lastIx p l with
      | some k => rw [hl] at h; simp at h
      | none =>
        rw [hl] at h
        simp at h
        intro x hx
        rcases List.mem_cons.1 hx with rfl | hx
        · exact h
        · exact lastIx_none hl x hx
theorem lastIx_none_iff {α : Type} {p : α → Bool} : ∀ {l : List α}, lastIx p l = none ↔ ∀ x ∈ l, p x = false := by
  intro l
  refine ⟨lastIx_some.lastIx_none, fun h => ?_⟩
  cases hl : lastIx p l with
  | none => rfl
  | some i =>
    obtain ⟨h1, h2, _⟩ := lastIx_some hl
    rw [h _ (List.getElem_mem h1)] at h2
    cases h2
theorem lastIx_eq {α : Type} {p : α → Bool} {l : List α} {i : Nat} (h : i < l.length) (h1 : p l[i] = true) (h2 : ∀ j (hj : j < l.length), i < j → p l[j] = false) : lastIx p l = some i := by
  cases hl : lastIx p l with
  | none =>
    rw [lastIx_none_iff.1 hl _ (List.getElem_mem h)] at h1
    cases h1
  | some k =>
    obtain ⟨g1, g2, g3⟩ := lastIx_some hl
    rcases Nat.lt_trichotomy i k with hik | rfl | hik
    · rw [h2 k g1 hik] at g2; cases g2
    · rfl
    · rw [g3 i h hik] at h1; cases h1
end Go.Proofs.YtmlhoojcdidgkaaGreat

/-
  Contracts of package ledger and of its reference: entries; what is a ledger.
-/
namespace Go.Proofs.YtmlhoojcdidgkaaGreat
set_option linter.unusedSimpArgs false
set_option linter.unusedVariables false
open Go.RowKit
open Go.Sort (grow size_grow)

set_option maxHeartbeats 2000000
set_option maxRecDepth 100000

abbrev Entry.v (e : Entry) : Value := .agg #[.int .i64 e.day, .int .i64 e.debit, .int .i64 e.credit, .int .i64 e.cents, .int .i64 e.ref]
def Entry.cs (e : Entry) : List Value := [.int .i64 e.day, .int .i64 e.debit, .int .i64 e.credit, .int .i64 e.cents, .int .i64 e.ref]
abbrev SlEnt (w : World) (A : Option Addr) (l : List Entry) : Prop := Sl w w.heap.size 5 Entry.cs A l

theorem led_within_any (n lo hi : Int) (w : World) :
    Calls Tryz.prog 55 #[.int .i64 n, .int .i64 lo, .int .i64 hi] w fun e w' => e = .returned (.bool (inB n lo hi)) ∧ w = w' := by
  by_cases h1 : lo ≤ n
  · by_cases h2 : n ≤ hi
    · go_enter Tryz.func55, Tryz.ntmps55
      go_wp2
      go_ret
      exact ⟨ret_bool (by rw [inB_t h1 h2]), rfl⟩
    · go_enter Tryz.func55, Tryz.ntmps55
      go_wp2
      go_ret
      exact ⟨ret_bool (by rw [inB_f (by omega)]), rfl⟩
  · go_enter Tryz.func55, Tryz.ntmps55
    go_wp2
    go_ret
    exact ⟨ret_bool (by rw [inB_f (by omega)]), rfl⟩
theorem isAccount_any (n : Int) (w : World) : Calls Tryz.prog 48 #[.int .i64 n] w fun e w' => e = .returned (.bool (inB n 100 999)) ∧ w = w' := by
  go_enter Tryz.func48, Tryz.ntmps48
  go_wp2_with (go_at_call 55; refine (led_within_any _ _ _ _).mono ?_; rintro e w1 ⟨rfl, rfl⟩)
  go_ret
  exact ⟨rfl, rfl⟩
theorem isDay_any (n : Int) (w : World) : Calls Tryz.prog 49 #[.int .i64 n] w fun e w' => e = .returned (.bool (inB n 0 366)) ∧ w = w' := by
  go_enter Tryz.func49, Tryz.ntmps49
  go_wp2_with (go_at_call 55; refine (led_within_any _ _ _ _).mono ?_; rintro e w1 ⟨rfl, rfl⟩)
  go_ret
  exact ⟨rfl, rfl⟩
theorem r28_in_any (n lo hi : Int) (w : World) :
    Calls Tryz.prog 86 #[.int .i64 n, .int .i64 lo, .int .i64 hi] w fun e w' => e = .returned (.bool (inB n lo hi)) ∧ w = w' := by
  by_cases h1 : lo ≤ n
  · by_cases h2 : n ≤ hi
    · go_enter Tryz.func86, Tryz.ntmps86
      go_wp2
      go_ret
      exact ⟨ret_bool (by rw [inB_t h1 h2]), rfl⟩
    · go_enter Tryz.func86, Tryz.ntmps86
      go_wp2
      go_ret
      exact ⟨ret_bool (by rw [inB_f (by omega)]), rfl⟩
  · go_enter Tryz.func86, Tryz.ntmps86
    go_wp2
    go_ret
    exact ⟨ret_bool (by rw [inB_f (by omega)]), rfl⟩
theorem rAccount_any (n : Int) (w : World) : Calls Tryz.prog 87 #[.int .i64 n] w fun e w' => e = .returned (.bool (inB n 100 999)) ∧ w = w' := by
  go_enter Tryz.func87, Tryz.ntmps87
  go_wp2_with (go_at_call 86; refine (r28_in_any _ _ _ _).mono ?_; rintro e w1 ⟨rfl, rfl⟩)
  go_ret
  exact ⟨rfl, rfl⟩

theorem formed_any (x : Entry) (w : World) : Calls Tryz.prog 51 #[x.v] w fun e w' => e = .returned (.bool x.ok) ∧ Below w.heap.size w w' := by
  go_enter Tryz.func51, Tryz.ntmps51
  go_wp2_with (first
    | (go_at_call 49; refine (isDay_any _ _).mono ?_; rintro e w1 ⟨rfl, rfl⟩)
    | (go_at_call 48; refine (isAccount_any _ _).mono ?_; rintro e w1 ⟨rfl, rfl⟩)
    | (go_at_call 55; refine (led_within_any _ _ _ _).mono ?_; rintro e w1 ⟨rfl, rfl⟩))
  all_goals
    go_ret
    refine ⟨ret_bool ?_, ?_⟩
    · unfold Entry.ok
      first | (simp [*]; done) | (simp_all; done) | (simp [*]; intros; omega)
    · repeat' (first
        | (with_reducible exact Below.refl _ _)
        | (with_reducible assumption)
        | (with_reducible refine below_drewN ?_ _)
        | (with_reducible refine Below.drew ?_)
        | (with_reducible refine below_regrown_up _ _ ?_ ?_)
        | (with_reducible refine Below.alloc ?_ ?_ _)
        | (with_reducible refine Below.setCell ?_ ?_ _)
        | (with_reducible refine below_up ?_ ?_ (by assumption))
        | (with_reducible exact Nat.le_refl _)
        | omega
        | (simp; done)
        | (simp; omega))
theorem rentry_any (x : Entry) (w : World) : Calls Tryz.prog 54 #[x.v] w fun e w' => e = .returned (.bool x.ok) ∧ Below w.heap.size w w' := by
  go_enter Tryz.func54, Tryz.ntmps54
  go_wp2_with (first
    | (go_at_call 87; refine (rAccount_any _ _).mono ?_; rintro e w1 ⟨rfl, rfl⟩)
    | (go_at_call 86; refine (r28_in_any _ _ _ _).mono ?_; rintro e w1 ⟨rfl, rfl⟩))
  all_goals
    go_ret
    refine ⟨ret_bool ?_, ?_⟩
    · unfold Entry.ok
      first | (simp [*]; done) | (simp_all; done) | (simp [*]; intros; omega)
    · repeat' (first
        | (with_reducible exact Below.refl _ _)
        | (with_reducible assumption)
        | (with_reducible refine below_drewN ?_ _)
        | (with_reducible refine Below.drew ?_)
        | (with_reducible refine below_regrown_up _ _ ?_ ?_)
        | (with_reducible refine Below.alloc ?_ ?_ _)
        | (with_reducible refine Below.setCell ?_ ?_ _)
        | (with_reducible refine below_up ?_ ?_ (by assumption))
        | (with_reducible exact Nat.le_refl _)
        | omega
        | (simp; done)
        | (simp; omega))
theorem valid1_any (x : Entry) (w : World) : Calls Tryz.prog 67 #[x.v] w fun e w' => e = .returned (.bool (!x.ok)) ∧ Below w.heap.size w w' := by
  go_enter Tryz.func67, Tryz.ntmps67
  go_wp2_with (go_at_call 51; refine (formed_any x _).mono ?_; rintro e w1 ⟨rfl, hb⟩)
  go_ret
  refine ⟨rfl, ?_⟩
  repeat' (first
    | (with_reducible exact Below.refl _ _)
    | (with_reducible assumption)
    | (with_reducible refine below_drewN ?_ _)
    | (with_reducible refine Below.drew ?_)
    | (with_reducible refine below_regrown_up _ _ ?_ ?_)
    | (with_reducible refine Below.alloc ?_ ?_ _)
    | (with_reducible refine Below.setCell ?_ ?_ _)
    | (with_reducible refine below_up ?_ ?_ (by assumption))
    | (with_reducible exact Nat.le_refl _)
    | omega
    | (simp; done)
    | (simp; omega))
theorem valid2_any (x y : Entry) (w : World) : Calls Tryz.prog 69 #[x.v, y.v] w fun e w' => e = .returned (.int .i64 (wrap64 (x.day - y.day))) ∧ Below w.heap.size w w' := by
  go_enter Tryz.func69, Tryz.ntmps69
  go_wp2
  go_ret
  refine ⟨rfl, ?_⟩
  repeat' (first
    | (with_reducible exact Below.refl _ _)
    | (with_reducible assumption)
    | (with_reducible refine below_drewN ?_ _)
    | (with_reducible refine Below.drew ?_)
    | (with_reducible refine below_regrown_up _ _ ?_ ?_)
    | (with_reducible refine Below.alloc ?_ ?_ _)
    | (with_reducible refine Below.setCell ?_ ?_ _)
    | (with_reducible refine below_up ?_ ?_ (by assumption))
    | (with_reducible exact Nat.le_refl _)
    | omega
    | (simp; done)
    | (simp; omega))
end Go.Proofs.YtmlhoojcdidgkaaGreat
