/-
  The law 'CommissionNearest': the walk.
-/
import Derived.Test.YthnncojbckifnaaHead30
import Derived.Test.YthnncojbckifnaaTaxFirst
namespace Go.Proofs.Ythnncojbckifnaa
set_option linter.unusedSimpArgs false
set_option linter.unusedVariables false
open Go.RowKit
open Go.Sort (grow size_grow)

set_option maxHeartbeats 4000000
set_option maxRecDepth 100000
def withPrice (b : Bill) (n : Int) : Bill := ⟨b.stay, b.channel, b.place, b.kind, b.frm, b.til, b.persons, n, b.keep⟩
theorem withPrice_ok {b : Bill} {n : Int} (h : b.ok = true) (h1 : b.price ≤ n) (h2 : n ≤ 1000000000) : (withPrice b n).ok = true := by
  obtain ⟨a1, a2, a3, a4, a5, a6, a7, a8⟩ := Bill.ok_iff.1 h
  refine Bill.ok_iff.2 ?_
  simp only [withPrice]
  omega
theorem law_cnearest (p d : Int) (b : Bill) (u : Int) (w : World) (u0 : 0 ≤ u) (u1 : u ≤ 4294967295) :
    Calls Try.prog 8 #[.agg #[.int .i64 p, .int .i64 d], b.v, .int .u32 u] w fun e w' => e = .returned (.bool true) ∧ Below w.heap.size w w' := by
  cases h1 : partOk p d
  · go_enter Try.func8, Try.ntmps8
    go_wp2_with (first | (go_at_call 23; refine (head30_any _).mono ?_; rintro e w1 ⟨rfl, hb1⟩; have hz1 := hb1.size; (try simp only [World.size_alloc, World.size_setCell, World.size_drew, size_drewN', size_grow, size_redrawn] at hz1); obtain ⟨hc1, hf1⟩ := bcellB (B := w.heap.size + 2) hb1 (by first | omega | (simp only [World.size_alloc, World.size_setCell, World.size_drew, size_drewN', size_grow, size_redrawn]; omega))) | (go_at_call 31; refine (r30part_any p d _).mono ?_; rintro e w2 ⟨rfl, hb2⟩; have hz2 := hb2.size; (try simp only [World.size_alloc, World.size_setCell, World.size_drew, size_drewN', size_grow, size_redrawn] at hz2); obtain ⟨hc2, hf2⟩ := bcellB (B := w.heap.size + 2) hb2 (by first | omega | (simp only [World.size_alloc, World.size_setCell, World.size_drew, size_drewN', size_grow, size_redrawn]; omega)); rw [h1]) | (go_at_call 21; refine (rbill_any b _).mono ?_; rintro e w3 ⟨rfl, hb3⟩; have hz3 := hb3.size; (try simp only [World.size_alloc, World.size_setCell, World.size_drew, size_drewN', size_grow, size_redrawn] at hz3); obtain ⟨hc3, hf3⟩ := bcellB (B := w.heap.size + 2) hb3 (by first | omega | (simp only [World.size_alloc, World.size_setCell, World.size_drew, size_drewN', size_grow, size_redrawn]; omega)); rw [h2]))
    go_ret
    refine ⟨ret_bool (by simp), ?_⟩
    repeat' (first
      | (with_reducible exact Below.refl _ _)
      | (with_reducible assumption)
      | (with_reducible refine below_drewN ?_ _)
      | (with_reducible refine Below.drew ?_)
      | (with_reducible refine below_regrown_up _ _ ?_ ?_)
      | (with_reducible refine Below.alloc ?_ ?_ _)
      | (with_reducible refine Below.setCell ?_ ?_ _)
      | (with_reducible refine below_up ?_ ?_ (by assumption))
      | (with_reducible exact Nat.le_refl _)
      | omega
      | (simp; done)
      | (simp; omega))
  · cases h2 : b.ok
    · go_enter Try.func8, Try.ntmps8
      go_wp2_with (first | (go_at_call 23; refine (head30_any _).mono ?_; rintro e w1 ⟨rfl, hb1⟩; have hz1 := hb1.size; (try simp only [World.size_alloc, World.size_setCell, World.size_drew, size_drewN', size_grow, size_redrawn] at hz1); obtain ⟨hc1, hf1⟩ := bcellB (B := w.heap.size + 2) hb1 (by first | omega | (simp only [World.size_alloc, World.size_setCell, World.size_drew, size_drewN', size_grow, size_redrawn]; omega))) | (go_at_call 31; refine (r30part_any p d _).mono ?_; rintro e w2 ⟨rfl, hb2⟩; have hz2 := hb2.size; (try simp only [World.size_alloc, World.size_setCell, World.size_drew, size_drewN', size_grow, size_redrawn] at hz2); obtain ⟨hc2, hf2⟩ := bcellB (B := w.heap.size + 2) hb2 (by first | omega | (simp only [World.size_alloc, World.size_setCell, World.size_drew, size_drewN', size_grow, size_redrawn]; omega)); rw [h1]) | (go_at_call 21; refine (rbill_any b _).mono ?_; rintro e w3 ⟨rfl, hb3⟩; have hz3 := hb3.size; (try simp only [World.size_alloc, World.size_setCell, World.size_drew, size_drewN', size_grow, size_redrawn] at hz3); obtain ⟨hc3, hf3⟩ := bcellB (B := w.heap.size + 2) hb3 (by first | omega | (simp only [World.size_alloc, World.size_setCell, World.size_drew, size_drewN', size_grow, size_redrawn]; omega)); rw [h2]))
      go_ret
      refine ⟨ret_bool (by simp), ?_⟩
      repeat' (first
        | (with_reducible exact Below.refl _ _)
        | (with_reducible assumption)
        | (with_reducible refine below_drewN ?_ _)
        | (with_reducible refine Below.drew ?_)
        | (with_reducible refine below_regrown_up _ _ ?_ ?_)
        | (with_reducible refine Below.alloc ?_ ?_ _)
        | (with_reducible refine Below.setCell ?_ ?_ _)
        | (with_reducible refine below_up ?_ ?_ (by assumption))
        | (with_reducible exact Nat.le_refl _)
        | omega
        | (simp; done)
        | (simp; omega))
    · obtain ⟨hr, p0, pd⟩ := partOk_iff.1 h1
      obtain ⟨d0, d1, _⟩ := ratOk_iff.1 hr
      obtain ⟨n0, n1⟩ := (Bill.ok_iff.1 h2).2.2.2.2.2.2.1
      obtain ⟨k0, k1⟩ := comm_bd h1 n0
      have hsp := (rnd_spec (b.price * p) 3 d0).2 rfl
      have hq : min 1000000000 (b.price + u) = min 1000000000 (b.price + u) := rfl
      obtain ⟨q, hqd⟩ : ∃ q, min 1000000000 (b.price + u) = q := ⟨_, rfl⟩
      have q0 : b.price ≤ q := by omega
      have q1 : q ≤ 1000000000 := by omega
      have hok := withPrice_ok h2 q0 q1
      have hmono : comm p d b.price ≤ comm p d q := rnd_mono d0 (.inr (.inr rfl)) (Int.mul_le_mul_of_nonneg_right q0 p0)
      have E1 := Lib.hid (oneR_ok h1 h2)
      have e2 := oneR_ok h1 hok
      have hbd2 := comm_bd h1 (n := q) (by omega)
      have e3 : oneR p d (withPrice b q) = (comm p d q, 0) := e2
      have E2 := Lib.hid e3
      have hpp : 0 ≤ b.price * p := Int.mul_nonneg n0 p0
      have hpq : b.price * p ≤ 1000000000 * 1000000 := Int.mul_le_mul n1 (by omega) p0 (by omega)
      unfold comm at k0 k1 hmono E1 E2 hbd2
      generalize hk : rnd (b.price * p) d 3 = k at *
      generalize rnd (q * p) d 3 = m at *
      have hkd0 : 0 ≤ k * d := Int.mul_nonneg k0 (by omega)
      have hkd1 : k * d ≤ 1000000000 * 1000000 := Int.mul_le_mul (by omega) d1 (by omega) (by omega)
      have z1 : IntKind.i64.wrap (k * d) = k * d := IntWalk.i64_in _ (by omega)
      have z2 : IntKind.i64.wrap (b.price * p) = b.price * p := IntWalk.i64_in _ (by omega)
      have z3 : IntKind.i64.wrap (k * d - b.price * p) = k * d - b.price * p := IntWalk.i64_in _ (by omega)
      have z4 : IntKind.i64.wrap (2 * (k * d - b.price * p)) = 2 * (k * d - b.price * p) := IntWalk.i64_in _ (by omega)
      have z5 : IntKind.i64.wrap (-(2 * (k * d - b.price * p))) = -(2 * (k * d - b.price * p)) := IntWalk.i64_in _ (by omega)
      have z6 : IntKind.i64.wrap (b.price + u) = b.price + u := IntWalk.i64_in _ (by omega)
      obtain ⟨s1, s2, _⟩ := hsp
      have t1 : ¬ k < 0 := by omega
      have t2 : ¬ b.price < k := by omega
      rcases (show (b.price + u < 1000000000 ∧ q = b.price + u) ∨ (1000000000 ≤ b.price + u ∧ q = 1000000000) by omega) with ⟨hq1, rfl⟩ | ⟨hq1, rfl⟩
      all_goals
        clear hqd hq hk hok e2 e3
        go_enter Try.func8, Try.ntmps8
        go_wp2_with (first | (go_at_call 23; refine (head30_any _).mono ?_; rintro e w1 ⟨rfl, hb1⟩; have hz1 := hb1.size; (try simp only [World.size_alloc, World.size_setCell, World.size_drew, size_drewN', size_grow, size_redrawn] at hz1); obtain ⟨hc1, hf1⟩ := bcellB (B := w.heap.size + 2) hb1 (by first | omega | (simp only [World.size_alloc, World.size_setCell, World.size_drew, size_drewN', size_grow, size_redrawn]; omega))) | (go_at_call 31; refine (r30part_any p d _).mono ?_; rintro e w2 ⟨rfl, hb2⟩; have hz2 := hb2.size; (try simp only [World.size_alloc, World.size_setCell, World.size_drew, size_drewN', size_grow, size_redrawn] at hz2); obtain ⟨hc2, hf2⟩ := bcellB (B := w.heap.size + 2) hb2 (by first | omega | (simp only [World.size_alloc, World.size_setCell, World.size_drew, size_drewN', size_grow, size_redrawn]; omega)); rw [h1]) | (go_at_call 21; refine (rbill_any b _).mono ?_; rintro e w3 ⟨rfl, hb3⟩; have hz3 := hb3.size; (try simp only [World.size_alloc, World.size_setCell, World.size_drew, size_drewN', size_grow, size_redrawn] at hz3); obtain ⟨hc3, hf3⟩ := bcellB (B := w.heap.size + 2) hb3 (by first | omega | (simp only [World.size_alloc, World.size_setCell, World.size_drew, size_drewN', size_grow, size_redrawn]; omega)); rw [h2]))
        refine (cone_any E1.out _).mono ?_
        rintro e w4 ⟨rfl, hb4⟩; have hz4 := hb4.size; (try simp only [World.size_alloc, World.size_setCell, World.size_drew, size_drewN', size_grow, size_redrawn] at hz4); obtain ⟨hc4, hf4⟩ := bcellB (B := w.heap.size + 2) hb4 (by first | omega | (simp only [World.size_alloc, World.size_setCell, World.size_drew, size_drewN', size_grow, size_redrawn]; omega))
        have ltA : w.heap.size < w4.heap.size := by omega
        have ltB : w.heap.size + 1 < w4.heap.size := by omega
        have ltC : w.heap.size < w4.heap.size + 1 := by omega
        have ltD : w.heap.size + 1 < w4.heap.size + 1 := by omega
        go_wp2_with fail
        refine (cone_any E2.out _).mono ?_
        rintro e w5 ⟨rfl, hb5⟩; have hz5 := hb5.size; (try simp only [World.size_alloc, World.size_setCell, World.size_drew, size_drewN', size_grow, size_redrawn] at hz5); obtain ⟨hc5, hf5⟩ := bcellB (B := w4.heap.size + 1) hb5 (by first | omega | (simp only [World.size_alloc, World.size_setCell, World.size_drew, size_drewN', size_grow, size_redrawn]; omega))
        have s4 : 2 * (k * d - b.price * p) ≤ d := s1
        have s3 : -(2 * (k * d - b.price * p)) ≤ d := by omega
        go_wp2_with fail
        go_ret
        refine ⟨ret_bool (by first | (simp; done) | (simp; omega)), ?_⟩
        repeat' (first
          | (with_reducible exact Below.refl _ _)
          | (with_reducible assumption)
          | (with_reducible refine below_drewN ?_ _)
          | (with_reducible refine Below.drew ?_)
          | (with_reducible refine below_regrown_up _ _ ?_ ?_)
          | (with_reducible refine Below.alloc ?_ ?_ _)
          | (with_reducible refine Below.setCell ?_ ?_ _)
          | (with_reducible refine below_up ?_ ?_ (by assumption))
          | (with_reducible exact Nat.le_refl _)
          | omega
          | (simp; done)
          | (simp; omega))
end Go.Proofs.Ythnncojbckifnaa
