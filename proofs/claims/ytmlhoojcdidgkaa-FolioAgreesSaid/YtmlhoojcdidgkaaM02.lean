/-
  Texts, one behind the other: Part1, Tax1, Tax2.
-/
import Derived.Test.YtmlhoojcdidgkaaM01
import Derived.Maps.Own
/-
  Package ratio: a part of an amount, rounded to even.
-/
namespace Go.Proofs.Ytmlhoojcdidgkaa
set_option linter.unusedSimpArgs false
set_option linter.unusedVariables false
open Go.RowKit Go.Maps
open Go.Sort (grow size_grow)

set_option maxHeartbeats 4000000
set_option maxRecDepth 100000
theorem and_one (E : Int) (h0 : 0 ≤ E) (h1 : E ≤ 1000000000000000) : bits BinOp.and IntKind.i64 E 1 = E % 2 := by
  obtain ⟨n, rfl⟩ : ∃ n : Nat, E = n := ⟨E.toNat, by omega⟩
  have e1 : (n : Int) % 18446744073709551616 = n := by omega
  have e2 : (BitVec.ofNat 64 n &&& 1#64).toNat = n % 2 := by
    rw [BitVec.toNat_and, BitVec.toNat_ofNat, BitVec.toNat_ofNat, Nat.mod_eq_of_lt (show n < 2 ^ 64 by omega)]
    exact Nat.and_one_is_mod n
  unfold bits IntKind.wrap
  simp [IntKind.bits, IntKind.signed, e1]
  erw [e2]
  omega
def nextTrue (q r d : Int) : Bool := decide (d < 2 * r ∨ (2 * r = d ∧ q % 2 ≠ 0))
theorem even_any (q r d : Int) (w : World) (q0 : 0 ≤ q) (q1 : q ≤ 1000000000000000) (r0 : 0 ≤ r) (rd : r < d) (d1 : d ≤ 1000000) :
    Calls Try.prog 94 #[.int .i64 q, .int .i64 r, .int .i64 d] w fun e w' => e = .returned (.bool (nextTrue q r d)) ∧ w = w' := by
  have hb := and_one q q0 q1
  go_enter Try.func94, Try.ntmps94
  go_wp2
  all_goals
    go_ret
    refine ⟨ret_bool ?_, rfl⟩
    unfold nextTrue
    first
      | (rw [hb, Bool.eq_iff_iff, beq_iff_eq, decide_eq_true_eq]; omega)
      | (rw [Bool.eq_iff_iff, decide_eq_true_eq, decide_eq_true_eq]; omega)
      | (rw [Bool.eq_iff_iff, decide_eq_true_eq, beq_iff_eq]; omega)
      | (rw [Bool.eq_iff_iff, beq_iff_eq, decide_eq_true_eq]; omega)
      | (rw [eq_comm, decide_eq_true_eq]; omega)
/-- How the ways to round read: by the function's number. -/
def rdR : Value → Option (DM × List MemPlace)
  | .agg ⟨[.func (.func n) ⟨[]⟩ ⟨[]⟩]⟩ => some (vI n, [])
  | _ => some (vI (-1), [])
theorem rdR_inv {v : Value} {n : Nat} {ps : List MemPlace} (h : rdR v = some (vI n, ps)) : v = .agg #[.func (.func n) #[] #[]] := by
  unfold rdR at h
  split at h
  · rename_i m
    injection h with h
    injection h with h _
    injection h with h
    injection h with _ h
    have : m = n := Int.ofNat.inj h
    subst this
    rfl
  · injection h with h
    injection h with h _
    injection h with h
    injection h with _ h
    omega
theorem keyedI' : Keyed Try.prog 3 := int_keyed Try.underlying3
def ways : DM := (((.map [] : DM).put (kI 1) (vI (92 : Nat))).put (kI 2) (vI (93 : Nat))).put (kI 3) (vI (94 : Nat))
theorem rounders_any (w : World) :
    Calls Try.prog 68 #[] w fun e w' => (e = .returned (.map (some w.heap.size)) ∧ w'.ownsMap Try.prog 3 rdR w.heap.size 3 ways) ∧ Below w.heap.size w w' := by
  have hmm := @run_makeMap Try.prog
  have h0 := World.ownsMap_made w Try.prog 3 rdR
  obtain ⟨w1, e1, o1, g1⟩ := h0.update (t := 123) keyedI' Try.underlying123 (by unfold maxLen; omega) (key := .int .i64 1) (val := .agg #[.func (.func 92) #[] #[]]) (keyOf_int_mk Try.underlying3 rfl) rfl
  obtain ⟨w2, e2, o2, g2⟩ := o1.update (t := 123) keyedI' Try.underlying123 (by unfold maxLen; omega) (key := .int .i64 2) (val := .agg #[.func (.func 93) #[] #[]]) (keyOf_int_mk Try.underlying3 rfl) rfl
  obtain ⟨w3, e3, o3, g3⟩ := o2.update (t := 123) keyedI' Try.underlying123 (by unfold maxLen; omega) (key := .int .i64 3) (val := .agg #[.func (.func 94) #[] #[]]) (keyOf_int_mk Try.underlying3 rfl) rfl
  have hb : Below w.heap.size w w3 := by
    have hg := (g1.trans g2).trans g3
    refine ((Below.refl w.heap.size w).alloc (Nat.le_refl _) (.map #[] 0)).grown hg (by simp) (fun k e => by injection e with e; omega)
  go_enter Try.func68, Try.ntmps68
  go_wp2_with fail
  go_ret
  exact ⟨⟨rfl, o3⟩, hb⟩
theorem zero_way (w : World) : (zeroValue 121).run Try.prog w = .ok (.agg #[.nilFunc]) w := by kernel_rfl
theorem rnd_even (n d : Int) : rnd n d 3 = if nextTrue (n / d) (n % d) d = true then n / d + 1 else n / d := by
  unfold rnd nextTrue
  simp
theorem size_any' (n : Int) (w : World) (h1 : 0 ≤ n) (h2 : n ≤ 9000000000000000000) : Calls Try.prog 70 #[.int .i64 n] w fun e w' => e = .returned (.int .i64 n) ∧ w = w' := by
  go_enter Try.func70, Try.ntmps70
  go_wp2
  all_goals
    go_ret
    exact ⟨ret_int (by omega), rfl⟩
theorem fround_any (m d : Int) (w : World) (m0 : 0 ≤ m) (m1 : m ≤ 1000000000000000) (d0 : 1 ≤ d) (d1 : d ≤ 1000000) :
    Calls Try.prog 69 #[.agg #[.int .i64 m, .int .i64 d], .agg #[.func (.func 94) #[] #[]]] w fun e w' => e = .returned (.int .i64 (rnd m d 3)) ∧ Below w.heap.size w w' := by
  have hq0 := Int.ediv_nonneg m0 (show 0 ≤ d by omega)
  have hq1 : m / d ≤ m := Int.ediv_le_self d m0
  have hs : m - m / d * d = m % d := by have := Int.emod_add_mul_ediv m d; rw [Int.mul_comm] at this; omega
  have hrm0 := Int.emod_nonneg m (show d ≠ 0 by omega)
  have hrm1 := Int.emod_lt_of_pos m (show 0 < d by omega)
  have hp0 : m / d * d ≤ m := by omega
  have hp1 : 0 ≤ m / d * d := Int.mul_nonneg hq0 (by omega)
  have HE := Lib.hid (rnd_even m d)
  go_enter Try.func69, Try.ntmps69
  go_wp2_with (go_at_call 94; go_loud (refine (even_any (m / d) (m % d) d _ hq0 (by omega) hrm0 hrm1 d1).mono ?_); rintro e w' ⟨rfl, rfl⟩)
  all_goals
    go_ret
    refine ⟨ret_int ?_, ?_⟩
    · rw [HE.out]
      first
        | (rw [if_pos (by assumption)]; done)
        | (rw [if_neg (by assumption)]; done)
        | (simp_all; done)
    · repeat' (first
        | (with_reducible exact Below.refl _ _)
        | (with_reducible assumption)
        | (with_reducible refine below_drewN ?_ _)
        | (with_reducible refine Below.drew ?_)
        | (with_reducible refine below_regrown_up _ _ ?_ ?_)
        | (with_reducible refine Below.alloc ?_ ?_ _)
        | (with_reducible refine Below.setCell ?_ ?_ _)
        | (with_reducible refine below_up ?_ ?_ (by assumption))
        | (with_reducible exact Nat.le_refl _)
        | omega
        | (simp; done)
        | (simp; omega))
theorem part_any (n p d : Int) (w : World) (n0 : 0 ≤ n) (n1 : n ≤ 1000000000) (hr : ratOk p d = true) (p0 : 0 ≤ p) (pd : p ≤ d) (m : Int) (hm : n * p = m) (hr1 : rnd m d 3 ≤ n) (hr0 : 0 ≤ rnd m d 3) :
    Calls Try.prog 39 #[.int .i64 n, .agg #[.int .i64 p, .int .i64 d], .int .i64 3] w fun e w' => e = .returned (.tuple #[.int .i64 (rnd m d 3), .int .i64 0]) ∧ Below w.heap.size w w' := by
  obtain ⟨d0, d1, _, _, _⟩ := ratOk_iff.1 hr
  have hmp : 0 ≤ m ∧ m ≤ 1000000000000000 := by
    rw [← hm]
    have h1 := Int.mul_nonneg n0 p0
    have h2 := Int.mul_le_mul n1 (show p ≤ 1000000 by omega) p0 (by omega)
    omega
  obtain ⟨m0, m1⟩ := hmp
  have hw1 : IntKind.i64.wrap (n * p) = m := by rw [hm]; exact IntWalk.i64_in _ (by omega)
  go_enter Try.func39, Try.ntmps39
  go_wp2_with fail
  refine (rounders_any _).mono ?_
  rintro e w1 ⟨⟨rfl, hown⟩, hb1⟩
  obtain ⟨v, ps, hrun, hv⟩ := hown.look_ok (t := 123) keyedI' Try.underlying123 (zero_way w1) (zd := vI (-1)) rfl (key := .int .i64 3) (keyOf_int_mk Try.underlying3 rfl)
  have hv2 : v = .agg #[.func (.func 94) #[] #[]] := rdR_inv hv
  have hv3 : Maps.has ways (kI 3) = true := rfl
  subst hv2
  rw [hv3] at hrun
  simp only [World.size_alloc] at hrun
  have hz1 := hb1.size
  (try simp only [World.size_alloc] at hz1)
  obtain ⟨hc1, hf1⟩ := bcellB (B := w.heap.size + 1) hb1 (by simp)
  have la1a : w.heap.size < w1.heap.size := (by omega); have lb1a : w.heap.size < w1.heap.size + 1 := (by omega); have lc1a : w.heap.size < w1.heap.size + 1 + 1 := (by omega); have ld1a : w.heap.size < w1.heap.size + 1 + 1 + 1 := (by omega); have le1a : w.heap.size < w1.heap.size + 1 + 1 + 1 + 1 := (by omega)
  go_wp2_with (first
    | (go_at_call 67; refine (ratValid_any p d _).mono ?_; rintro e w2 ⟨rfl, hb2⟩; have hz2 := hb2.size; (try simp only [World.size_alloc, World.size_setCell, World.size_drew, size_drewN', size_grow, size_redrawn] at hz2); obtain ⟨hc2, hf2⟩ := bcellB (B := w1.heap.size + 1) hb2 (by first | omega | (simp only [World.size_alloc, World.size_setCell, World.size_drew, size_drewN', size_grow, size_redrawn]; omega)); rw [hr])
    | (go_at_call 69; refine (fround_any m d _ m0 m1 d0 d1).mono ?_; rintro e w3 ⟨rfl, hb3⟩; have hz3 := hb3.size; (try simp only [World.size_alloc, World.size_setCell, World.size_drew, size_drewN', size_grow, size_redrawn] at hz3); obtain ⟨hc3, hf3⟩ := bcellB (B := w1.heap.size + 1) hb3 (by first | omega | (simp only [World.size_alloc, World.size_setCell, World.size_drew, size_drewN', size_grow, size_redrawn]; omega)))
    | (go_at_call 70; refine (size_any' _ _ hr0 (by omega)).mono ?_; rintro e w' ⟨rfl, rfl⟩))
  go_ret2
  refine ⟨rfl, ?_⟩
  repeat' (first
    | (with_reducible exact Below.refl _ _)
    | (with_reducible assumption)
    | (with_reducible refine below_drewN ?_ _)
    | (with_reducible refine Below.drew ?_)
    | (with_reducible refine below_regrown_up _ _ ?_ ?_)
    | (with_reducible refine Below.alloc ?_ ?_ _)
    | (with_reducible refine Below.setCell ?_ ?_ _)
    | (with_reducible refine below_up ?_ ?_ (by assumption))
    | (with_reducible exact Nat.le_refl _)
    | omega
    | (simp; done)
    | (simp; omega))
end Go.Proofs.Ytmlhoojcdidgkaa

/-
  Contracts of package tax and of its reference: what is well-formed.
-/
namespace Go.Proofs.Ytmlhoojcdidgkaa
set_option linter.unusedSimpArgs false
set_option linter.unusedVariables false
open Go.RowKit
open Go.Sort (grow size_grow)

set_option maxHeartbeats 2000000
set_option maxRecDepth 100000

abbrev Tax.v (t : Tax) : Value := .agg #[.int .i64 t.id, .int .i64 t.place, .int .i64 t.night, .int .i64 t.n, .int .i64 t.d, .int .i64 t.first, .int .i64 t.round]
abbrev Bill.v (b : Bill) : Value := .agg #[.int .i64 b.stay, .int .i64 b.channel, .int .i64 b.place, .int .i64 b.kind, .int .i64 b.frm, .int .i64 b.til, .int .i64 b.persons, .int .i64 b.price, .int .i64 b.keep]

theorem tax_within_any (n lo hi : Int) (w : World) :
    Calls Try.prog 64 #[.int .i64 n, .int .i64 lo, .int .i64 hi] w fun e w' => e = .returned (.bool (inB n lo hi)) ∧ w = w' := by
  by_cases h1 : lo ≤ n
  · by_cases h2 : n ≤ hi
    · go_enter Try.func64, Try.ntmps64
      go_wp2
      go_ret
      exact ⟨ret_bool (by rw [inB_t h1 h2]), rfl⟩
    · go_enter Try.func64, Try.ntmps64
      go_wp2
      go_ret
      exact ⟨ret_bool (by rw [inB_f (by omega)]), rfl⟩
  · go_enter Try.func64, Try.ntmps64
    go_wp2
    go_ret
    exact ⟨ret_bool (by rw [inB_f (by omega)]), rfl⟩

theorem wrong_any (t : Tax) (w : World) :
    Calls Try.prog 59 #[t.v] w fun e w' => e = .returned (.bool (!t.ok)) ∧ Below w.heap.size w w' := by
  go_enter Try.func59, Try.ntmps59
  go_wp2_with (first
    | (go_at_call 67; refine (ratValid_any _ _ _).mono ?_; rintro e w1 ⟨rfl, hb⟩; obtain ⟨hc, hf⟩ := bcell hb)
    | (go_at_call 64; refine (tax_within_any _ _ _ _).mono ?_; rintro e w1 ⟨rfl, rfl⟩))
  all_goals
    go_ret
    refine ⟨ret_bool ?_, ?_⟩
    · unfold Tax.ok
      first | (simp [*]; done) | (simp [*]; intros; omega)
    · repeat' (first
        | (with_reducible exact Below.refl _ _)
        | (with_reducible assumption)
        | (with_reducible refine below_drewN ?_ _)
        | (with_reducible refine Below.drew ?_)
        | (with_reducible refine below_regrown_up _ _ ?_ ?_)
        | (with_reducible refine Below.alloc ?_ ?_ _)
        | (with_reducible refine Below.setCell ?_ ?_ _)
        | (with_reducible refine below_up ?_ ?_ (by assumption))
        | (with_reducible exact Nat.le_refl _)
        | omega
        | (simp; done)
        | (simp; omega))

theorem right_any (b : Bill) (w : World) :
    Calls Try.prog 34 #[b.v] w fun e w' => e = .returned (.bool b.ok) ∧ Below w.heap.size w w' := by
  go_enter Try.func34, Try.ntmps34
  go_wp2_with (go_at_call 64; refine (tax_within_any _ _ _ _).mono ?_; rintro e w1 ⟨rfl, rfl⟩)
  all_goals
    go_ret
    refine ⟨ret_bool ?_, ?_⟩
    · unfold Bill.ok askOk nightsOk
      first | (simp [*]; done) | (simp [*]; intros; omega)
    · repeat' (first
        | (with_reducible exact Below.refl _ _)
        | (with_reducible assumption)
        | (with_reducible refine below_drewN ?_ _)
        | (with_reducible refine Below.drew ?_)
        | (with_reducible refine below_regrown_up _ _ ?_ ?_)
        | (with_reducible refine Below.alloc ?_ ?_ _)
        | (with_reducible refine Below.setCell ?_ ?_ _)
        | (with_reducible refine below_up ?_ ?_ (by assumption))
        | (with_reducible exact Nat.le_refl _)
        | omega
        | (simp; done)
        | (simp; omega))
end Go.Proofs.Ytmlhoojcdidgkaa

/-
  Contracts of package tax and of its reference: one tax of a bill.
-/
namespace Go.Proofs.Ytmlhoojcdidgkaa
set_option linter.unusedSimpArgs false
set_option linter.unusedVariables false
open Go.RowKit
open Go.Sort (grow size_grow)

set_option maxHeartbeats 2000000
set_option maxRecDepth 100000

/-- The bounds of what a well-formed tax of a well-formed bill comes to. -/
structure ExB (t : Tax) (b : Bill) : Prop where
  n1 : 1 ≤ b.til - b.frm
  n2 : b.til - b.frm ≤ 60
  f0 : 0 ≤ firstN t b
  f1 : firstN t b ≤ 60
  d0 : 1 ≤ t.d
  d1 : t.d ≤ 1000000
  x0 : 1 ≤ (b.til - b.frm) * t.d
  x1 : (b.til - b.frm) * t.d ≤ 60000000
  a0 : 0 ≤ t.night * firstN t b
  a1 : t.night * firstN t b ≤ 6000000
  c0 : 0 ≤ t.night * firstN t b * b.persons
  c1 : t.night * firstN t b * b.persons ≤ 48000000
  e0 : 0 ≤ t.night * firstN t b * b.persons * ((b.til - b.frm) * t.d)
  e1 : t.night * firstN t b * b.persons * ((b.til - b.frm) * t.d) ≤ 2880000000000000
  p0 : 0 ≤ t.n * b.price
  p1 : t.n * b.price ≤ 1000000000000000
  q0 : 0 ≤ t.n * b.price * firstN t b
  q1 : t.n * b.price * firstN t b ≤ 60000000000000000
theorem mul_bd {a b A B : Int} (ha0 : 0 ≤ a) (ha : a ≤ A) (hb0 : 0 ≤ b) (hb : b ≤ B) : 0 ≤ a * b ∧ a * b ≤ A * B :=
  ⟨Int.mul_nonneg ha0 hb0, Int.mul_le_mul ha hb hb0 (by omega)⟩
theorem exB {t : Tax} {b : Bill} (ht : t.ok = true) (hb : b.ok = true) : ExB t b := by
  obtain ⟨h1, h2, h3, h4, h5, h6, h7⟩ := Tax.ok_iff.1 ht
  obtain ⟨g1, g2, g3, g4, g5, g6, g7, g8⟩ := Bill.ok_iff.1 hb
  obtain ⟨r1, r2, r3, r4, r5⟩ := ratOk_iff.1 h1
  have hf0 : 0 ≤ firstN t b := by unfold firstN; split <;> omega
  have hf1 : firstN t b ≤ 60 := by unfold firstN; split <;> omega
  have x := mul_bd (a := b.til - b.frm) (b := t.d) (A := 60) (B := 1000000) (by omega) (by omega) (by omega) (by omega)
  have x1 : 1 * 1 ≤ (b.til - b.frm) * t.d := Int.mul_le_mul (by omega) (by omega) (by omega) (by omega)
  have a := mul_bd (a := t.night) (b := firstN t b) (A := 100000) (B := 60) (by omega) (by omega) hf0 hf1
  have c := mul_bd (b := b.persons) (B := 8) a.1 a.2 (by omega) (by omega)
  have e := mul_bd c.1 c.2 x.1 x.2
  have p := mul_bd (a := t.n) (b := b.price) (A := 1000000) (B := 1000000000) (by omega) (by omega) (by omega) (by omega)
  have q := mul_bd p.1 p.2 hf0 hf1
  exact ⟨by omega, by omega, hf0, hf1, by omega, by omega, by omega, by omega, a.1, by omega, c.1, by omega, e.1, by omega, p.1, by omega, q.1, by omega⟩

theorem exact_any (t : Tax) (b : Bill) (w : World) (ht : t.ok = true) (hb : b.ok = true) :
    Calls Try.prog 90 #[t.v, b.v] w fun e w' => e = .returned (.agg #[.int .i64 (exN t b), .int .i64 (exD t b)]) ∧ Below w.heap.size w w' := by
  obtain ⟨n1, n2, f0, f1, d0, d1, x0, x1, a0, a1, c0, c1, e0, e1, p0, p1, q0, q1⟩ := exB ht hb
  have hN : exN t b = t.night * firstN t b * b.persons * ((b.til - b.frm) * t.d) + t.n * b.price * firstN t b := rfl
  have hD : exD t b = (b.til - b.frm) * t.d := rfl
  have hF : firstN t b = if 0 < t.first then min (b.til - b.frm) t.first else b.til - b.frm := rfl
  have HN := Lib.hid hN
  have HD := Lib.hid hD
  clear hN hD
  clear ht hb
  generalize firstN t b = m at *
  by_cases h0 : 0 < t.first
  · rw [if_pos h0] at hF
    by_cases h1 : b.til - b.frm ≤ t.first
    · obtain rfl : m = b.til - b.frm := by omega
      clear hF
      go_enter Try.func90, Try.ntmps90
      go_wp2
      refine bodyPost_ret (v := .agg #[.int .i64 (exN t b), .int .i64 (exD t b)]) (by rw [HN.out, HD.out]; simp [results, Try.results90, go_sem]) rfl ⟨rfl, ?_⟩
      repeat' (first
        | (with_reducible exact Below.refl _ _)
        | (with_reducible assumption)
        | (with_reducible refine below_drewN ?_ _)
        | (with_reducible refine Below.drew ?_)
        | (with_reducible refine below_regrown_up _ _ ?_ ?_)
        | (with_reducible refine Below.alloc ?_ ?_ _)
        | (with_reducible refine Below.setCell ?_ ?_ _)
        | (with_reducible refine below_up ?_ ?_ (by assumption))
        | (with_reducible exact Nat.le_refl _)
        | omega
        | (simp; done)
        | (simp; omega))
    · obtain rfl : m = t.first := by omega
      have h2 : t.first < b.til - b.frm := by omega
      clear hF h1
      go_enter Try.func90, Try.ntmps90
      go_wp2
      refine bodyPost_ret (v := .agg #[.int .i64 (exN t b), .int .i64 (exD t b)]) (by rw [HN.out, HD.out]; simp [results, Try.results90, go_sem]) rfl ⟨rfl, ?_⟩
      repeat' (first
        | (with_reducible exact Below.refl _ _)
        | (with_reducible assumption)
        | (with_reducible refine below_drewN ?_ _)
        | (with_reducible refine Below.drew ?_)
        | (with_reducible refine below_regrown_up _ _ ?_ ?_)
        | (with_reducible refine Below.alloc ?_ ?_ _)
        | (with_reducible refine Below.setCell ?_ ?_ _)
        | (with_reducible refine below_up ?_ ?_ (by assumption))
        | (with_reducible exact Nat.le_refl _)
        | omega
        | (simp; done)
        | (simp; omega))
  · rw [if_neg h0] at hF
    obtain rfl : m = b.til - b.frm := by omega
    have h2 : t.first ≤ 0 := by omega
    clear hF h0
    go_enter Try.func90, Try.ntmps90
    go_wp2
    refine bodyPost_ret (v := .agg #[.int .i64 (exN t b), .int .i64 (exD t b)]) (by rw [HN.out, HD.out]; simp [results, Try.results90, go_sem]) rfl ⟨rfl, ?_⟩
    repeat' (first
      | (with_reducible exact Below.refl _ _)
      | (with_reducible assumption)
      | (with_reducible refine below_drewN ?_ _)
      | (with_reducible refine Below.drew ?_)
      | (with_reducible refine below_regrown_up _ _ ?_ ?_)
      | (with_reducible refine Below.alloc ?_ ?_ _)
      | (with_reducible refine Below.setCell ?_ ?_ _)
      | (with_reducible refine below_up ?_ ?_ (by assumption))
      | (with_reducible exact Nat.le_refl _)
      | omega
      | (simp; done)
      | (simp; omega))
theorem trounded_any (n d way : Int) (w : World) (h1 : 0 ≤ n) (h2 : n ≤ 9000000000000000000) (h3 : 1 ≤ d) (h4 : d ≤ 1000000000000000000) (hw1 : 1 ≤ way) (hw2 : way ≤ 3) :
    Calls Try.prog 89 #[.agg #[.int .i64 n, .int .i64 d], .int .i64 way] w fun e w' => e = .returned (.int .i64 (rnd n d way)) ∧ Below w.heap.size w w' := by
  have hr0 := Int.emod_nonneg n (show d ≠ 0 by omega)
  have hr1 := Int.emod_lt_of_pos n (show 0 < d by omega)
  have hq0 := Int.ediv_nonneg h1 (show 0 ≤ d by omega)
  have hq1 : n / d ≤ n := Int.ediv_le_self d h1
  have ht1 : n.tdiv d = n / d := tdiv_nn h1
  have ht2 : n.tmod d = n % d := tmod_nn h1
  have hd0 : (d == 0) = false := by rw [beq_eq_false_iff_ne]; omega
  generalize hqd : n / d = q at *
  generalize hrd : n % d = r at *
  have HR : Hid (rnd n d way = if (way = 2 ∧ 0 < r) ∨ (way = 3 ∧ (d < 2 * r ∨ (2 * r = d ∧ q % 2 ≠ 0))) then q + 1 else q) := by
    refine Lib.hid ?_
    unfold rnd
    rw [hqd, hrd]
  clear hqd hrd
  rcases (show way = 1 ∨ way = 2 ∨ way = 3 by omega) with rfl | rfl | rfl
  · by_cases g0 : 0 < r
    · go_enter Try.func89, Try.ntmps89
      go_wp2_with fail
      go_quiet (fail)
      go_wp2_with fail
      go_ret
      refine ⟨ret_int ?_, ?_⟩
      · rw [HR.out]
        rw [if_neg (by simp)]
      · repeat' (first
          | (with_reducible exact Below.refl _ _)
          | (with_reducible assumption)
          | (with_reducible refine below_drewN ?_ _)
          | (with_reducible refine Below.drew ?_)
          | (with_reducible refine below_regrown_up _ _ ?_ ?_)
          | (with_reducible refine Below.alloc ?_ ?_ _)
          | (with_reducible refine Below.setCell ?_ ?_ _)
          | (with_reducible refine below_up ?_ ?_ (by assumption))
          | (with_reducible exact Nat.le_refl _)
          | omega
          | (simp; done)
          | (simp; omega))
    · have g1 : r ≤ 0 := by omega
      clear g0
      go_enter Try.func89, Try.ntmps89
      go_wp2_with fail
      go_quiet (fail)
      go_wp2_with fail
      go_ret
      refine ⟨ret_int ?_, ?_⟩
      · rw [HR.out]
        rw [if_neg (by simp)]
      · repeat' (first
          | (with_reducible exact Below.refl _ _)
          | (with_reducible assumption)
          | (with_reducible refine below_drewN ?_ _)
          | (with_reducible refine Below.drew ?_)
          | (with_reducible refine below_regrown_up _ _ ?_ ?_)
          | (with_reducible refine Below.alloc ?_ ?_ _)
          | (with_reducible refine Below.setCell ?_ ?_ _)
          | (with_reducible refine below_up ?_ ?_ (by assumption))
          | (with_reducible exact Nat.le_refl _)
          | omega
          | (simp; done)
          | (simp; omega))
  · by_cases g0 : 0 < r
    · go_enter Try.func89, Try.ntmps89
      go_wp2_with fail
      go_quiet (fail)
      go_wp2_with fail
      go_ret
      refine ⟨ret_int ?_, ?_⟩
      · rw [HR.out]
        rw [if_pos (by simp; omega)]
      · repeat' (first
          | (with_reducible exact Below.refl _ _)
          | (with_reducible assumption)
          | (with_reducible refine below_drewN ?_ _)
          | (with_reducible refine Below.drew ?_)
          | (with_reducible refine below_regrown_up _ _ ?_ ?_)
          | (with_reducible refine Below.alloc ?_ ?_ _)
          | (with_reducible refine Below.setCell ?_ ?_ _)
          | (with_reducible refine below_up ?_ ?_ (by assumption))
          | (with_reducible exact Nat.le_refl _)
          | omega
          | (simp; done)
          | (simp; omega))
    · have g1 : r ≤ 0 := by omega
      clear g0
      go_enter Try.func89, Try.ntmps89
      go_wp2_with fail
      go_quiet (fail)
      go_wp2_with fail
      go_ret
      refine ⟨ret_int ?_, ?_⟩
      · rw [HR.out]
        rw [if_neg (by simp; omega)]
      · repeat' (first
          | (with_reducible exact Below.refl _ _)
          | (with_reducible assumption)
          | (with_reducible refine below_drewN ?_ _)
          | (with_reducible refine Below.drew ?_)
          | (with_reducible refine below_regrown_up _ _ ?_ ?_)
          | (with_reducible refine Below.alloc ?_ ?_ _)
          | (with_reducible refine Below.setCell ?_ ?_ _)
          | (with_reducible refine below_up ?_ ?_ (by assumption))
          | (with_reducible exact Nat.le_refl _)
          | omega
          | (simp; done)
          | (simp; omega))
  · by_cases g2 : 2 * r = d
    · have g3 : decide (2 * r = d) = true := by simpa using g2
      have g0 : 0 < r := by omega
      have g6 : q.tmod 2 = q % 2 := tmod_nn hq0
      have G2 := Lib.hid g2
      clear g2
      rcases (show q % 2 = 0 ∨ q % 2 = 1 by omega) with g4 | g4
      · have G4 := Lib.hid g4
        clear g4
        go_enter Try.func89, Try.ntmps89
        go_wp2_with fail
        go_quiet (fail)
        go_wp2_with fail
        go_ret
        refine ⟨ret_int ?_, ?_⟩
        · rw [HR.out]
          rw [if_neg (by have := G2.out; have := G4.out; simp; omega)]; have := G4.out; first | omega | (simp; omega)
        · repeat' (first
            | (with_reducible exact Below.refl _ _)
            | (with_reducible assumption)
            | (with_reducible refine below_drewN ?_ _)
            | (with_reducible refine Below.drew ?_)
            | (with_reducible refine below_regrown_up _ _ ?_ ?_)
            | (with_reducible refine Below.alloc ?_ ?_ _)
            | (with_reducible refine Below.setCell ?_ ?_ _)
            | (with_reducible refine below_up ?_ ?_ (by assumption))
            | (with_reducible exact Nat.le_refl _)
            | omega
            | (simp; done)
            | (simp; omega))
      · have G4 := Lib.hid g4
        clear g4
        go_enter Try.func89, Try.ntmps89
        go_wp2_with fail
        go_quiet (fail)
        go_wp2_with fail
        go_ret
        refine ⟨ret_int ?_, ?_⟩
        · rw [HR.out]
          rw [if_pos (by have := G2.out; have := G4.out; simp; omega)]; have := G4.out; first | omega | (simp; omega)
        · repeat' (first
            | (with_reducible exact Below.refl _ _)
            | (with_reducible assumption)
            | (with_reducible refine below_drewN ?_ _)
            | (with_reducible refine Below.drew ?_)
            | (with_reducible refine below_regrown_up _ _ ?_ ?_)
            | (with_reducible refine Below.alloc ?_ ?_ _)
            | (with_reducible refine Below.setCell ?_ ?_ _)
            | (with_reducible refine below_up ?_ ?_ (by assumption))
            | (with_reducible exact Nat.le_refl _)
            | omega
            | (simp; done)
            | (simp; omega))
    · have g3 : decide (2 * r = d) = false := by simpa using g2
      by_cases g5 : 2 * r < d
      · by_cases g0 : 0 < r
        · go_enter Try.func89, Try.ntmps89
          go_wp2_with fail
          go_quiet (fail)
          go_wp2_with fail
          go_ret
          refine ⟨ret_int ?_, ?_⟩
          · rw [HR.out]
            rw [if_neg (by simp; omega)]
          · repeat' (first
              | (with_reducible exact Below.refl _ _)
              | (with_reducible assumption)
              | (with_reducible refine below_drewN ?_ _)
              | (with_reducible refine Below.drew ?_)
              | (with_reducible refine below_regrown_up _ _ ?_ ?_)
              | (with_reducible refine Below.alloc ?_ ?_ _)
              | (with_reducible refine Below.setCell ?_ ?_ _)
              | (with_reducible refine below_up ?_ ?_ (by assumption))
              | (with_reducible exact Nat.le_refl _)
              | omega
              | (simp; done)
              | (simp; omega))
        · have g1 : r ≤ 0 := by omega
          clear g0
          go_enter Try.func89, Try.ntmps89
          go_wp2_with fail
          go_quiet (fail)
          go_wp2_with fail
          go_ret
          refine ⟨ret_int ?_, ?_⟩
          · rw [HR.out]
            rw [if_neg (by simp; omega)]
          · repeat' (first
              | (with_reducible exact Below.refl _ _)
              | (with_reducible assumption)
              | (with_reducible refine below_drewN ?_ _)
              | (with_reducible refine Below.drew ?_)
              | (with_reducible refine below_regrown_up _ _ ?_ ?_)
              | (with_reducible refine Below.alloc ?_ ?_ _)
              | (with_reducible refine Below.setCell ?_ ?_ _)
              | (with_reducible refine below_up ?_ ?_ (by assumption))
              | (with_reducible exact Nat.le_refl _)
              | omega
              | (simp; done)
              | (simp; omega))
      · have g6 : d ≤ 2 * r := by omega
        have g0 : 0 < r := by omega
        clear g5
        go_enter Try.func89, Try.ntmps89
        go_wp2_with fail
        go_quiet (fail)
        go_wp2_with fail
        go_ret
        refine ⟨ret_int ?_, ?_⟩
        · rw [HR.out]
          rw [if_pos (by simp; omega)]
        · repeat' (first
            | (with_reducible exact Below.refl _ _)
            | (with_reducible assumption)
            | (with_reducible refine below_drewN ?_ _)
            | (with_reducible refine Below.drew ?_)
            | (with_reducible refine below_regrown_up _ _ ?_ ?_)
            | (with_reducible refine Below.alloc ?_ ?_ _)
            | (with_reducible refine Below.setCell ?_ ?_ _)
            | (with_reducible refine below_up ?_ ?_ (by assumption))
            | (with_reducible exact Nat.le_refl _)
            | omega
            | (simp; done)
            | (simp; omega))
theorem one_any (t : Tax) (b : Bill) (w : World) :
    Calls Try.prog 66 #[t.v, b.v] w fun e w' => e = .returned (.tuple #[.int .i64 (one t b).1, .int .i64 (one t b).2]) ∧ Below w.heap.size w w' := by
  cases ht : t.ok with
  | false =>
    have h1 : one t b = (0, 1) := by unfold one; simp [ht]
    have H1 := Lib.hid h1
    clear h1
    go_enter Try.func66, Try.ntmps66
    go_wp2_with (first
      | (go_at_call 59; refine (wrong_any t _).mono ?_; rintro e w1 ⟨rfl, hb1⟩; have hz1 := hb1.size; (try simp only [World.size_alloc, World.size_setCell, World.size_drew, size_drewN', size_grow, size_redrawn] at hz1); obtain ⟨hc1, hf1⟩ := bcellB (B := w.heap.size + 1 + 1) hb1 (by first | omega | (simp only [World.size_alloc, World.size_setCell, World.size_drew, size_drewN', size_grow, size_redrawn]; omega)))
      | (go_at_call 34; refine (right_any b _).mono ?_; rintro e w2 ⟨rfl, hb2⟩; have hz2 := hb2.size; (try simp only [World.size_alloc, World.size_setCell, World.size_drew, size_drewN', size_grow, size_redrawn] at hz2); obtain ⟨hc2, hf2⟩ := bcellB (B := w.heap.size + 1 + 1) hb2 (by first | omega | (simp only [World.size_alloc, World.size_setCell, World.size_drew, size_drewN', size_grow, size_redrawn]; omega))))
    go_ret2
    refine ⟨by rw [H1.out]; rfl, ?_⟩
    repeat' (first
      | (with_reducible exact Below.refl _ _)
      | (with_reducible assumption)
      | (with_reducible refine below_drewN ?_ _)
      | (with_reducible refine Below.drew ?_)
      | (with_reducible refine below_regrown_up _ _ ?_ ?_)
      | (with_reducible refine Below.alloc ?_ ?_ _)
      | (with_reducible refine Below.setCell ?_ ?_ _)
      | (with_reducible refine below_up ?_ ?_ (by assumption))
      | (with_reducible exact Nat.le_refl _)
      | omega
      | (simp; done)
      | (simp; omega))
  | true =>
    cases hb : b.ok with
    | false =>
      have h1 : one t b = (0, 1) := by unfold one; simp [ht, hb]
      have H1 := Lib.hid h1
      clear h1
      go_enter Try.func66, Try.ntmps66
      go_wp2_with (first
        | (go_at_call 59; refine (wrong_any t _).mono ?_; rintro e w1 ⟨rfl, hb1⟩; have hz1 := hb1.size; (try simp only [World.size_alloc, World.size_setCell, World.size_drew, size_drewN', size_grow, size_redrawn] at hz1); obtain ⟨hc1, hf1⟩ := bcellB (B := w.heap.size + 1 + 1) hb1 (by first | omega | (simp only [World.size_alloc, World.size_setCell, World.size_drew, size_drewN', size_grow, size_redrawn]; omega)))
        | (go_at_call 34; refine (right_any b _).mono ?_; rintro e w2 ⟨rfl, hb2⟩; have hz2 := hb2.size; (try simp only [World.size_alloc, World.size_setCell, World.size_drew, size_drewN', size_grow, size_redrawn] at hz2); obtain ⟨hc2, hf2⟩ := bcellB (B := w.heap.size + 1 + 1) hb2 (by first | omega | (simp only [World.size_alloc, World.size_setCell, World.size_drew, size_drewN', size_grow, size_redrawn]; omega))))
      go_ret2
      refine ⟨by rw [H1.out]; rfl, ?_⟩
      repeat' (first
        | (with_reducible exact Below.refl _ _)
        | (with_reducible assumption)
        | (with_reducible refine below_drewN ?_ _)
        | (with_reducible refine Below.drew ?_)
        | (with_reducible refine below_regrown_up _ _ ?_ ?_)
        | (with_reducible refine Below.alloc ?_ ?_ _)
        | (with_reducible refine Below.setCell ?_ ?_ _)
        | (with_reducible refine below_up ?_ ?_ (by assumption))
        | (with_reducible exact Nat.le_refl _)
        | omega
        | (simp; done)
        | (simp; omega))
    | true =>
      obtain ⟨n1, n2, f0, f1, d0, d1, x0, x1, a0, a1, c0, c1, e0, e1, p0, p1, q0, q1⟩ := exB ht hb
      obtain ⟨_, _, _, _, _, _, hw1, hw2⟩ := Tax.ok_iff.1 ht
      have hN : 0 ≤ exN t b ∧ exN t b ≤ 62880000000000000 := by unfold exN exD; omega
      have hD : 1 ≤ exD t b ∧ exD t b ≤ 60000000 := by unfold exD; omega
      by_cases hp : t.place = b.place
      · have hp1 : (t.place != b.place) = false := by simpa using hp
        have h1 : one t b = if 1000000000 < rnd (exN t b) (exD t b) t.round then (0, 3) else (rnd (exN t b) (exD t b) t.round, 0) := by unfold one oneV; simp [ht, hb, hp]
        have H1 := Lib.hid h1
        clear h1 hp
        clear n1 n2 f0 f1 d0 d1 x0 x1 a0 a1 c0 c1 e0 e1 p0 p1 q0 q1
        by_cases hg : 1000000000 < rnd (exN t b) (exD t b) t.round
        · go_enter Try.func66, Try.ntmps66
          go_wp2_with (first
            | (go_at_call 59; refine (wrong_any t _).mono ?_; rintro e w1 ⟨rfl, hb1⟩; have hz1 := hb1.size; (try simp only [World.size_alloc, World.size_setCell, World.size_drew, size_drewN', size_grow, size_redrawn] at hz1); obtain ⟨hc1, hf1⟩ := bcellB (B := w.heap.size + 1 + 1) hb1 (by first | omega | (simp only [World.size_alloc, World.size_setCell, World.size_drew, size_drewN', size_grow, size_redrawn]; omega)))
            | (go_at_call 34; refine (right_any b _).mono ?_; rintro e w2 ⟨rfl, hb2⟩; have hz2 := hb2.size; (try simp only [World.size_alloc, World.size_setCell, World.size_drew, size_drewN', size_grow, size_redrawn] at hz2); obtain ⟨hc2, hf2⟩ := bcellB (B := w.heap.size + 1 + 1) hb2 (by first | omega | (simp only [World.size_alloc, World.size_setCell, World.size_drew, size_drewN', size_grow, size_redrawn]; omega))))
          have hgr := regrown_cells w2 (B := w.heap.size + 1 + 1) (by omega)
          refine wp_region_quiet_below (by kernel_rfl) (by kernel_rfl) ?_
          repeat (quiet_step ((first | (go_at_call 90; exact quiet_b (exact_any t b _ ht hb)) | (go_at_call 89; exact quiet_b (trounded_any (exN t b) (exD t b) t.round _ (by omega) (by omega) (by omega) (by omega) hw1 hw2)))))
          refine wpQuiet_nil ?_
          intro _ hw'
          obtain ⟨⟨dq, osq⟩, hw''⟩ := hw'
          subst hw''
          go_wp2
          go_ret2
          refine ⟨by rw [H1.out, if_pos hg]; rfl, ?_⟩
          repeat' (first
            | (with_reducible exact Below.refl _ _)
            | (with_reducible assumption)
            | (with_reducible refine below_drewN ?_ _)
            | (with_reducible refine Below.drew ?_)
            | (with_reducible refine below_regrown_up _ _ ?_ ?_)
            | (with_reducible refine Below.alloc ?_ ?_ _)
            | (with_reducible refine Below.setCell ?_ ?_ _)
            | (with_reducible refine below_up ?_ ?_ (by assumption))
            | (with_reducible exact Nat.le_refl _)
            | omega
            | (simp; done)
            | (simp; omega))
        · go_enter Try.func66, Try.ntmps66
          go_wp2_with (first
            | (go_at_call 59; refine (wrong_any t _).mono ?_; rintro e w1 ⟨rfl, hb1⟩; have hz1 := hb1.size; (try simp only [World.size_alloc, World.size_setCell, World.size_drew, size_drewN', size_grow, size_redrawn] at hz1); obtain ⟨hc1, hf1⟩ := bcellB (B := w.heap.size + 1 + 1) hb1 (by first | omega | (simp only [World.size_alloc, World.size_setCell, World.size_drew, size_drewN', size_grow, size_redrawn]; omega)))
            | (go_at_call 34; refine (right_any b _).mono ?_; rintro e w2 ⟨rfl, hb2⟩; have hz2 := hb2.size; (try simp only [World.size_alloc, World.size_setCell, World.size_drew, size_drewN', size_grow, size_redrawn] at hz2); obtain ⟨hc2, hf2⟩ := bcellB (B := w.heap.size + 1 + 1) hb2 (by first | omega | (simp only [World.size_alloc, World.size_setCell, World.size_drew, size_drewN', size_grow, size_redrawn]; omega))))
          have hgr := regrown_cells w2 (B := w.heap.size + 1 + 1) (by omega)
          refine wp_region_quiet_below (by kernel_rfl) (by kernel_rfl) ?_
          repeat (quiet_step ((first | (go_at_call 90; exact quiet_b (exact_any t b _ ht hb)) | (go_at_call 89; exact quiet_b (trounded_any (exN t b) (exD t b) t.round _ (by omega) (by omega) (by omega) (by omega) hw1 hw2)))))
          refine wpQuiet_nil ?_
          intro _ hw'
          obtain ⟨⟨dq, osq⟩, hw''⟩ := hw'
          subst hw''
          go_wp2
          go_ret2
          refine ⟨by rw [H1.out, if_neg (by omega)]; rfl, ?_⟩
          repeat' (first
            | (with_reducible exact Below.refl _ _)
            | (with_reducible assumption)
            | (with_reducible refine below_drewN ?_ _)
            | (with_reducible refine Below.drew ?_)
            | (with_reducible refine below_regrown_up _ _ ?_ ?_)
            | (with_reducible refine Below.alloc ?_ ?_ _)
            | (with_reducible refine Below.setCell ?_ ?_ _)
            | (with_reducible refine below_up ?_ ?_ (by assumption))
            | (with_reducible exact Nat.le_refl _)
            | omega
            | (simp; done)
            | (simp; omega))
      · have hp1 : (t.place != b.place) = true := by simpa using hp
        have h1 : one t b = (0, 0) := by unfold one; simp [ht, hb, hp]
        have H1 := Lib.hid h1
        clear h1
        go_enter Try.func66, Try.ntmps66
        go_wp2_with (first
          | (go_at_call 59; refine (wrong_any t _).mono ?_; rintro e w1 ⟨rfl, hb1⟩; have hz1 := hb1.size; (try simp only [World.size_alloc, World.size_setCell, World.size_drew, size_drewN', size_grow, size_redrawn] at hz1); obtain ⟨hc1, hf1⟩ := bcellB (B := w.heap.size + 1 + 1) hb1 (by first | omega | (simp only [World.size_alloc, World.size_setCell, World.size_drew, size_drewN', size_grow, size_redrawn]; omega)))
          | (go_at_call 34; refine (right_any b _).mono ?_; rintro e w2 ⟨rfl, hb2⟩; have hz2 := hb2.size; (try simp only [World.size_alloc, World.size_setCell, World.size_drew, size_drewN', size_grow, size_redrawn] at hz2); obtain ⟨hc2, hf2⟩ := bcellB (B := w.heap.size + 1 + 1) hb2 (by first | omega | (simp only [World.size_alloc, World.size_setCell, World.size_drew, size_drewN', size_grow, size_redrawn]; omega))))
        go_ret2
        refine ⟨by rw [H1.out]; rfl, ?_⟩
        repeat' (first
          | (with_reducible exact Below.refl _ _)
          | (with_reducible assumption)
          | (with_reducible refine below_drewN ?_ _)
          | (with_reducible refine Below.drew ?_)
          | (with_reducible refine below_regrown_up _ _ ?_ ?_)
          | (with_reducible refine Below.alloc ?_ ?_ _)
          | (with_reducible refine Below.setCell ?_ ?_ _)
          | (with_reducible refine below_up ?_ ?_ (by assumption))
          | (with_reducible exact Nat.le_refl _)
          | omega
          | (simp; done)
          | (simp; omega))
end Go.Proofs.Ytmlhoojcdidgkaa
