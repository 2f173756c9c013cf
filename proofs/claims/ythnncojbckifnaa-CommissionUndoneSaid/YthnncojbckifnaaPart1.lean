/-
  Package ratio: a part of an amount, rounded to even.
-/
import Derived.Test.YthnncojbckifnaaRatio
import Derived.Test.YthnncojbckifnaaMSum
import Derived.Maps.Own
namespace Go.Proofs.Ythnncojbckifnaa
set_option linter.unusedSimpArgs false
set_option linter.unusedVariables false
open Go.RowKit Go.Maps
open Go.Sort (grow size_grow)

set_option maxHeartbeats 4000000
set_option maxRecDepth 100000
theorem and_one (E : Int) (h0 : 0 ≤ E) (h1 : E ≤ 1000000000000000) : bits BinOp.and IntKind.i64 E 1 = E % 2 := by
  obtain ⟨n, rfl⟩ : ∃ n : Nat, E = n := ⟨E.toNat, by omega⟩
  have e1 : (n : Int) % 18446744073709551616 = n := by omega
  have e2 : (BitVec.ofNat 64 n &&& 1#64).toNat = n % 2 := by
    rw [BitVec.toNat_and, BitVec.toNat_ofNat, BitVec.toNat_ofNat, Nat.mod_eq_of_lt (show n < 2 ^ 64 by omega)]
    exact Nat.and_one_is_mod n
  unfold bits IntKind.wrap
  simp [IntKind.bits, IntKind.signed, e1]
  erw [e2]
  omega
def nextTrue (q r d : Int) : Bool := decide (d < 2 * r ∨ (2 * r = d ∧ q % 2 ≠ 0))
theorem even_any (q r d : Int) (w : World) (q0 : 0 ≤ q) (q1 : q ≤ 1000000000000000) (r0 : 0 ≤ r) (rd : r < d) (d1 : d ≤ 1000000) :
    Calls Try.prog 100 #[.int .i64 q, .int .i64 r, .int .i64 d] w fun e w' => e = .returned (.bool (nextTrue q r d)) ∧ w = w' := by
  have hb := and_one q q0 q1
  go_enter Try.func100, Try.ntmps100
  go_wp2
  all_goals
    go_ret
    refine ⟨ret_bool ?_, rfl⟩
    unfold nextTrue
    first
      | (rw [hb, Bool.eq_iff_iff, beq_iff_eq, decide_eq_true_eq]; omega)
      | (rw [Bool.eq_iff_iff, decide_eq_true_eq, decide_eq_true_eq]; omega)
      | (rw [Bool.eq_iff_iff, decide_eq_true_eq, beq_iff_eq]; omega)
      | (rw [Bool.eq_iff_iff, beq_iff_eq, decide_eq_true_eq]; omega)
      | (rw [eq_comm, decide_eq_true_eq]; omega)
/-- How the ways to round read: by the function's number. -/
def rdR : Value → Option (DM × List MemPlace)
  | .agg ⟨[.func (.func n) ⟨[]⟩ ⟨[]⟩]⟩ => some (vI n, [])
  | _ => some (vI (-1), [])
theorem rdR_inv {v : Value} {n : Nat} {ps : List MemPlace} (h : rdR v = some (vI n, ps)) : v = .agg #[.func (.func n) #[] #[]] := by
  unfold rdR at h
  split at h
  · rename_i m
    injection h with h
    injection h with h _
    injection h with h
    injection h with _ h
    have : m = n := Int.ofNat.inj h
    subst this
    rfl
  · injection h with h
    injection h with h _
    injection h with h
    injection h with _ h
    omega
theorem keyedI' : Keyed Try.prog 3 := int_keyed Try.underlying3
def ways : DM := (((.map [] : DM).put (kI 1) (vI (98 : Nat))).put (kI 2) (vI (99 : Nat))).put (kI 3) (vI (100 : Nat))
theorem rounders_any (w : World) :
    Calls Try.prog 73 #[] w fun e w' => (e = .returned (.map (some w.heap.size)) ∧ w'.ownsMap Try.prog 3 rdR w.heap.size 3 ways) ∧ Below w.heap.size w w' := by
  have hmm := @run_makeMap Try.prog
  have h0 := World.ownsMap_made w Try.prog 3 rdR
  obtain ⟨w1, e1, o1, g1⟩ := h0.update (t := 98) keyedI' Try.underlying98 (by unfold maxLen; omega) (key := .int .i64 1) (val := .agg #[.func (.func 98) #[] #[]]) (keyOf_int_mk Try.underlying3 rfl) rfl
  obtain ⟨w2, e2, o2, g2⟩ := o1.update (t := 98) keyedI' Try.underlying98 (by unfold maxLen; omega) (key := .int .i64 2) (val := .agg #[.func (.func 99) #[] #[]]) (keyOf_int_mk Try.underlying3 rfl) rfl
  obtain ⟨w3, e3, o3, g3⟩ := o2.update (t := 98) keyedI' Try.underlying98 (by unfold maxLen; omega) (key := .int .i64 3) (val := .agg #[.func (.func 100) #[] #[]]) (keyOf_int_mk Try.underlying3 rfl) rfl
  have hb : Below w.heap.size w w3 := by
    have hg := (g1.trans g2).trans g3
    refine ((Below.refl w.heap.size w).alloc (Nat.le_refl _) (.map #[] 0)).grown hg (by simp) (fun k e => by injection e with e; omega)
  go_enter Try.func73, Try.ntmps73
  go_wp2_with fail
  go_ret
  exact ⟨⟨rfl, o3⟩, hb⟩
theorem zero_way (w : World) : (zeroValue 96).run Try.prog w = .ok (.agg #[.nilFunc]) w := by kernel_rfl
theorem rnd_even (n d : Int) : rnd n d 3 = if nextTrue (n / d) (n % d) d = true then n / d + 1 else n / d := by
  unfold rnd nextTrue
  simp
theorem size_any' (n : Int) (w : World) (h1 : 0 ≤ n) (h2 : n ≤ 9000000000000000000) : Calls Try.prog 75 #[.int .i64 n] w fun e w' => e = .returned (.int .i64 n) ∧ w = w' := by
  go_enter Try.func75, Try.ntmps75
  go_wp2
  all_goals
    go_ret
    exact ⟨ret_int (by omega), rfl⟩
theorem fround_any (m d : Int) (w : World) (m0 : 0 ≤ m) (m1 : m ≤ 1000000000000000) (d0 : 1 ≤ d) (d1 : d ≤ 1000000) :
    Calls Try.prog 74 #[.agg #[.int .i64 m, .int .i64 d], .agg #[.func (.func 100) #[] #[]]] w fun e w' => e = .returned (.int .i64 (rnd m d 3)) ∧ Below w.heap.size w w' := by
  have hq0 := Int.ediv_nonneg m0 (show 0 ≤ d by omega)
  have hq1 : m / d ≤ m := Int.ediv_le_self d m0
  have hs : m - m / d * d = m % d := by have := Int.emod_add_mul_ediv m d; rw [Int.mul_comm] at this; omega
  have hrm0 := Int.emod_nonneg m (show d ≠ 0 by omega)
  have hrm1 := Int.emod_lt_of_pos m (show 0 < d by omega)
  have hp0 : m / d * d ≤ m := by omega
  have hp1 : 0 ≤ m / d * d := Int.mul_nonneg hq0 (by omega)
  have HE := Lib.hid (rnd_even m d)
  go_enter Try.func74, Try.ntmps74
  go_wp2_with (go_at_call 100; go_loud (refine (even_any (m / d) (m % d) d _ hq0 (by omega) hrm0 hrm1 d1).mono ?_); rintro e w' ⟨rfl, rfl⟩)
  all_goals
    go_ret
    refine ⟨ret_int ?_, ?_⟩
    · rw [HE.out]
      first
        | (rw [if_pos (by assumption)]; done)
        | (rw [if_neg (by assumption)]; done)
        | (simp_all; done)
    · repeat' (first
        | (with_reducible exact Below.refl _ _)
        | (with_reducible assumption)
        | (with_reducible refine below_drewN ?_ _)
        | (with_reducible refine Below.drew ?_)
        | (with_reducible refine below_regrown_up _ _ ?_ ?_)
        | (with_reducible refine Below.alloc ?_ ?_ _)
        | (with_reducible refine Below.setCell ?_ ?_ _)
        | (with_reducible refine below_up ?_ ?_ (by assumption))
        | (with_reducible exact Nat.le_refl _)
        | omega
        | (simp; done)
        | (simp; omega))
theorem part_any (n p d : Int) (w : World) (n0 : 0 ≤ n) (n1 : n ≤ 1000000000) (hr : ratOk p d = true) (p0 : 0 ≤ p) (pd : p ≤ d) (m : Int) (hm : n * p = m) (hr1 : rnd m d 3 ≤ n) (hr0 : 0 ≤ rnd m d 3) :
    Calls Try.prog 51 #[.int .i64 n, .agg #[.int .i64 p, .int .i64 d], .int .i64 3] w fun e w' => e = .returned (.tuple #[.int .i64 (rnd m d 3), .int .i64 0]) ∧ Below w.heap.size w w' := by
  obtain ⟨d0, d1, _, _, _⟩ := ratOk_iff.1 hr
  have hmp : 0 ≤ m ∧ m ≤ 1000000000000000 := by
    rw [← hm]
    have h1 := Int.mul_nonneg n0 p0
    have h2 := Int.mul_le_mul n1 (show p ≤ 1000000 by omega) p0 (by omega)
    omega
  obtain ⟨m0, m1⟩ := hmp
  have hw1 : IntKind.i64.wrap (n * p) = m := by rw [hm]; exact IntWalk.i64_in _ (by omega)
  go_enter Try.func51, Try.ntmps51
  go_wp2_with fail
  refine (rounders_any _).mono ?_
  rintro e w1 ⟨⟨rfl, hown⟩, hb1⟩
  obtain ⟨v, ps, hrun, hv⟩ := hown.look_ok (t := 98) keyedI' Try.underlying98 (zero_way w1) (zd := vI (-1)) rfl (key := .int .i64 3) (keyOf_int_mk Try.underlying3 rfl)
  have hv2 : v = .agg #[.func (.func 100) #[] #[]] := rdR_inv hv
  have hv3 : Maps.has ways (kI 3) = true := rfl
  subst hv2
  rw [hv3] at hrun
  simp only [World.size_alloc] at hrun
  have hz1 := hb1.size
  (try simp only [World.size_alloc] at hz1)
  obtain ⟨hc1, hf1⟩ := bcellB (B := w.heap.size + 1) hb1 (by simp)
  have la1a : w.heap.size < w1.heap.size := (by omega); have lb1a : w.heap.size < w1.heap.size + 1 := (by omega); have lc1a : w.heap.size < w1.heap.size + 1 + 1 := (by omega); have ld1a : w.heap.size < w1.heap.size + 1 + 1 + 1 := (by omega); have le1a : w.heap.size < w1.heap.size + 1 + 1 + 1 + 1 := (by omega)
  go_wp2_with (first
    | (go_at_call 72; refine (ratValid_any p d _).mono ?_; rintro e w2 ⟨rfl, hb2⟩; have hz2 := hb2.size; (try simp only [World.size_alloc, World.size_setCell, World.size_drew, size_drewN', size_grow, size_redrawn] at hz2); obtain ⟨hc2, hf2⟩ := bcellB (B := w1.heap.size + 1) hb2 (by first | omega | (simp only [World.size_alloc, World.size_setCell, World.size_drew, size_drewN', size_grow, size_redrawn]; omega)); rw [hr])
    | (go_at_call 74; refine (fround_any m d _ m0 m1 d0 d1).mono ?_; rintro e w3 ⟨rfl, hb3⟩; have hz3 := hb3.size; (try simp only [World.size_alloc, World.size_setCell, World.size_drew, size_drewN', size_grow, size_redrawn] at hz3); obtain ⟨hc3, hf3⟩ := bcellB (B := w1.heap.size + 1) hb3 (by first | omega | (simp only [World.size_alloc, World.size_setCell, World.size_drew, size_drewN', size_grow, size_redrawn]; omega)))
    | (go_at_call 75; refine (size_any' _ _ hr0 (by omega)).mono ?_; rintro e w' ⟨rfl, rfl⟩))
  go_ret2
  refine ⟨rfl, ?_⟩
  repeat' (first
    | (with_reducible exact Below.refl _ _)
    | (with_reducible assumption)
    | (with_reducible refine below_drewN ?_ _)
    | (with_reducible refine Below.drew ?_)
    | (with_reducible refine below_regrown_up _ _ ?_ ?_)
    | (with_reducible refine Below.alloc ?_ ?_ _)
    | (with_reducible refine Below.setCell ?_ ?_ _)
    | (with_reducible refine below_up ?_ ?_ (by assumption))
    | (with_reducible exact Nat.le_refl _)
    | omega
    | (simp; done)
    | (simp; omega))
end Go.Proofs.Ythnncojbckifnaa
