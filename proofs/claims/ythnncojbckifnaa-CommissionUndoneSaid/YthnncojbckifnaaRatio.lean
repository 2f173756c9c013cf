/-
  Contracts of package ratio (as far as it is reached) and of its reference.
-/
import Derived.Test.YthnncojbckifnaaProg
import Derived.Test.YthnncojbckifnaaBase
import Derived.Test.YthnncojbckifnaaEqs
import Derived.Test.YthnncojbckifnaaPlain
namespace Go.Proofs.Ythnncojbckifnaa
set_option linter.unusedSimpArgs false
set_option linter.unusedVariables false
open Go.RowKit
open Go.Sort (grow size_grow)

set_option maxHeartbeats 1000000

theorem size_any (n : Int) (w : World) (h1 : -9000000000000000000 ≤ n) (h2 : n ≤ 9000000000000000000) :
    Calls Try.prog 75 #[.int .i64 n] w fun e w' => e = .returned (.int .i64 n.natAbs) ∧ w = w' := by
  go_enter Try.func75, Try.ntmps75
  go_wp2
  all_goals
    go_ret
    exact ⟨ret_int (by omega), rfl⟩

theorem common_any (k : Nat) : ∀ (a b : Int) (w : World) (pc : Addr), b.toNat ≤ k → 0 ≤ a → 0 ≤ b → a ≤ 9000000000000000000 → b ≤ 9000000000000000000 →
    w.cell? pc = some (.func (.func 110) #[] #[.pointer (some pc)]) →
    Calls Try.prog 110 #[.int .i64 a, .int .i64 b, .pointer (some pc)] w fun e w' => e = .returned (.int .i64 (Int.gcd a b)) ∧ ∃ n, w' = w.drewN n := by
  induction k with
  | zero =>
    intro a b w pc hk ha hb ha2 hb2 hc
    obtain rfl : b = 0 := by omega
    go_enter Try.func110, Try.ntmps110
    go_wp2_with fail
    go_ret
    exact ⟨ret_int (by simp [Int.natAbs_of_nonneg ha]), 0, rfl⟩
  | succ k ih =>
    intro a b w pc hk ha hb ha2 hb2 hc
    by_cases h0 : b = 0
    · subst h0
      go_enter Try.func110, Try.ntmps110
      go_wp2_with fail
      go_ret
      exact ⟨ret_int (by simp [Int.natAbs_of_nonneg ha]), 0, rfl⟩
    · have h1 : 1 ≤ b := by omega
      have h3 : (b == 0) = false := by simpa using h0
      have hr := Int.emod_lt_of_pos a (show 0 < b by omega)
      have hr0 := Int.emod_nonneg a h0
      have htm : a.tmod b = a % b := Int.tmod_eq_emod_of_nonneg ha
      go_enter Try.func110, Try.ntmps110
      go_wp2_with fail
      go_quiet ((go_at_call 110; exact Calls.quiet_of (ih b (a % b) _ pc (by omega) (by omega) (by omega) (by omega) (by omega) hc)))
      go_wp2_with fail
      go_ret
      exact ⟨ret_int (by rw [← gcd_step a b]), _, rfl⟩

theorem quiet_l {P : Program} {f : FuncId} {args : Array Value} {w : World} {n : Nat} {v : Value}
    (h : Calls P f args (w.drewN n) fun e w' => e = .returned v ∧ w.drewN n = w') : Calls P f args (w.drewN n) fun e w'' => e = .returned v ∧ ∃ m, w'' = w.drewN m :=
  h.mono fun _ _ ⟨he, hm⟩ => ⟨he, n, hm.symm⟩

theorem reduced_any (n d : Int) (w : World) (h1 : -1000000000000000000 ≤ n) (h2 : n ≤ 1000000000000000000) (h3 : 1 ≤ d) (h4 : d ≤ 1000000000000000000) :
    Calls Try.prog 97 #[.agg #[.int .i64 n, .int .i64 d]] w fun e w' => e = .returned (.agg #[.int .i64 (n.tdiv (Int.gcd n d)), .int .i64 (d.tdiv (Int.gcd n d))]) ∧ Below w.heap.size w w' := by
  have g1 : ((n.natAbs : Int)).gcd d = n.gcd d := by simp [Int.gcd]
  have g2 := gcd_lo (n := n) h3
  have g3 := gcd_hi (n := n) h3
  have g4 : d.tdiv (Int.gcd n d) = d / (Int.gcd n d) := tdiv_nn (by omega)
  have G4 := Lib.hid g4
  clear g4
  go_enter Try.func97, Try.ntmps97
  go_wp2_with fail
  go_quiet (first
    | (go_at_call 75; exact quiet_l (size_any n _ (by omega) (by omega)))
    | (go_at_call 110; exact Calls.quiet_of (common_any d.toNat n.natAbs d _ _ (by omega) (by omega) (by omega) (by omega) (by omega) (by go_simp))))
  go_wp2_with fail
  go_region
  go_wp2
  refine bodyPost_ret (v := .agg #[.int .i64 (n.tdiv (Int.gcd n d)), .int .i64 (d / (Int.gcd n d))]) (by simp [results, Try.results97, go_sem]) rfl ⟨by rw [G4.out], ?_⟩
  repeat' (first
    | (with_reducible exact Below.refl _ _)
    | (with_reducible assumption)
    | (with_reducible refine below_drewN ?_ _)
    | (with_reducible refine Below.drew ?_)
    | (with_reducible refine below_regrown_up _ _ ?_ ?_)
    | (with_reducible refine Below.alloc ?_ ?_ _)
    | (with_reducible refine Below.setCell ?_ ?_ _)
    | (with_reducible refine below_up ?_ ?_ (by assumption))
    | (with_reducible exact Nat.le_refl _)
    | omega
    | (simp; done)
    | (simp; omega))

theorem ratValid_any (n d : Int) (w : World) :
    Calls Try.prog 72 #[.agg #[.int .i64 n, .int .i64 d]] w fun e w' => e = .returned (.bool (ratOk n d)) ∧ Below w.heap.size w w' := by
  by_cases hb : 1 ≤ d ∧ d ≤ 1000000 ∧ -1000000000 ≤ n ∧ n ≤ 1000000000
  · obtain ⟨h1, h2, h3, h4⟩ := hb
    have hg := gcd_same (n := n) h1
    have hr := ratOk_gcd h1 h2 h3 h4
    have HG := Lib.hid hg
    have HR := Lib.hid hr
    clear hg hr
    go_enter Try.func72, Try.ntmps72
    go_wp2_with fail
    refine wp_region_quiet_below (by kernel_rfl) (by kernel_rfl) ?_
    repeat (quiet_step ((go_at_call 97; exact quiet_b (reduced_any n d _ (by omega) (by omega) (by omega) (by omega)))))
    refine wpQuiet_nil ?_
    intro _ hw'
    obtain ⟨⟨dq, osq⟩, hw''⟩ := hw'
    subst hw''
    go_wp2_with fail
    go_ret
    refine ⟨ret_bool ?_, ?_⟩
    · rw [HR.out, Bool.eq_iff_iff]
      simpa using HG.out
    repeat' (first
      | (with_reducible exact Below.refl _ _)
      | (with_reducible assumption)
      | (with_reducible refine below_drewN ?_ _)
      | (with_reducible refine Below.drew ?_)
      | (with_reducible refine below_regrown_up _ _ ?_ ?_)
      | (with_reducible refine Below.alloc ?_ ?_ _)
      | (with_reducible refine Below.setCell ?_ ?_ _)
      | (with_reducible refine below_up ?_ ?_ (by assumption))
      | (with_reducible exact Nat.le_refl _)
      | omega
      | (simp; done)
      | (simp; omega))
  · go_enter Try.func72, Try.ntmps72
    go_wp2_with fail
    all_goals
      go_ret
      refine ⟨ret_bool ?_, (Below.refl _ _).alloc (Nat.le_refl _) _⟩
      first
        | exact (ratOk_f (by omega)).symm
        | (exfalso; omega)

theorem abs_any (n : Int) (w : World) (h1 : -9000000000000000000 ≤ n) (h2 : n ≤ 9000000000000000000) :
    Calls Try.prog 86 #[.int .i64 n] w fun e w' => e = .returned (.int .i64 n.natAbs) ∧ w = w' := by
  go_enter Try.func86, Try.ntmps86
  go_wp2
  all_goals
    go_ret
    exact ⟨ret_int (by omega), rfl⟩

theorem gcd_any (a b : Int) (w : World) (ha : 0 ≤ a) (hb : 0 ≤ b) (ha2 : a ≤ 9000000000000000000) (hb2 : b ≤ 9000000000000000000) :
    Calls Try.prog 85 #[.int .i64 a, .int .i64 b] w fun e w' => e = .returned (.int .i64 (Int.gcd a b)) ∧ w = w' := by
  go_enter Try.func85, Try.ntmps85
  go_wp2
  go_loop [0, 1, 5] (fun x y _ => ∃ p q : Int, x = .int .i64 p ∧ y = .int .i64 q ∧ 0 ≤ p ∧ 0 ≤ q ∧ p ≤ 9000000000000000000 ∧ q ≤ 9000000000000000000 ∧ Hid (Int.gcd p q = Int.gcd a b)) (fun _ y _ => (intOf y).toNat)
  case atStart => exact ⟨a, b, rfl, rfl, ha, hb, ha2, hb2, Lib.hid rfl⟩
  case round =>
    obtain ⟨p, q, rfl, rfl, hp, hq, hp2, hq2, hg⟩ := hrel
    by_cases h0 : q = 0
    · subst h0
      go_wp2
      go_ret
      refine ⟨ret_int ?_, rfl⟩
      rw [← hg.out]
      simp [Int.natAbs_of_nonneg hp]
    · have h1 : 1 ≤ q := by omega
      have h3 : (q != 0) = true := by simpa using h0
      have hr := Int.emod_lt_of_pos p (show 0 < q by omega)
      have hr0 := Int.emod_nonneg p h0
      go_wp2
      go_round
      case rel => exact ⟨q, p % q, rfl, rfl, by omega, by omega, by omega, by omega, Lib.hid ((gcd_step p q).trans hg.out)⟩
      case measure => simp [intOf]; omega

theorem rvalid_any (n d : Int) (w : World) :
    Calls Try.prog 59 #[.agg #[.int .i64 n, .int .i64 d]] w fun e w' => e = .returned (.bool (ratOk n d)) ∧ Below w.heap.size w w' := by
  by_cases hb : 1 ≤ d ∧ d ≤ 1000000 ∧ -1000000000 ≤ n ∧ n ≤ 1000000000
  · obtain ⟨h1, h2, h3, h4⟩ := hb
    have g1 : ((n.natAbs : Int)).gcd d = n.gcd d := by simp [Int.gcd]
    have hr := ratOk_gcd h1 h2 h3 h4
    have HG := Lib.hid g1
    have HR := Lib.hid hr
    clear g1 hr
    go_enter Try.func59, Try.ntmps59
    go_wp2_with fail
    refine wp_region_quiet_below (by kernel_rfl) (by kernel_rfl) ?_
    repeat (quiet_step ((first | (go_at_call 86; exact quiet_s (abs_any n _ (by omega) (by omega))) | (go_at_call 85; exact quiet_s (gcd_any n.natAbs d _ (by omega) (by omega) (by omega) (by omega))))))
    refine wpQuiet_nil ?_
    intro _ hw'
    obtain ⟨⟨dq, osq⟩, hw''⟩ := hw'
    subst hw''
    go_wp2_with fail
    go_ret
    refine ⟨ret_bool ?_, ?_⟩
    · rw [HR.out, Bool.eq_iff_iff, HG.out]
      simp
      omega
    repeat' (first
      | (with_reducible exact Below.refl _ _)
      | (with_reducible assumption)
      | (with_reducible refine below_drewN ?_ _)
      | (with_reducible refine Below.drew ?_)
      | (with_reducible refine below_regrown_up _ _ ?_ ?_)
      | (with_reducible refine Below.alloc ?_ ?_ _)
      | (with_reducible refine Below.setCell ?_ ?_ _)
      | (with_reducible refine below_up ?_ ?_ (by assumption))
      | (with_reducible exact Nat.le_refl _)
      | omega
      | (simp; done)
      | (simp; omega))
  · go_enter Try.func59, Try.ntmps59
    go_wp2_with fail
    all_goals
      go_ret
      refine ⟨ret_bool ?_, (Below.refl _ _).alloc (Nat.le_refl _) _⟩
      first
        | exact (ratOk_f (by omega)).symm
        | (exfalso; omega)

theorem floor_any (n d : Int) (w : World) (h1 : -9000000000000000000 ≤ n) (h2 : n ≤ 9000000000000000000) (h3 : 1 ≤ d) (h4 : d ≤ 1000000000000000000) :
    Calls Try.prog 101 #[.int .i64 n, .int .i64 d] w fun e w' => e = .returned (.int .i64 (n / d)) ∧ w = w' := by
  have hq := tdiv_floor n h3
  have hb := tdiv_bd n (d := d)
  have HQ := Lib.hid hq
  clear hq
  by_cases hm : n.tmod d < 0
  · rw [if_pos hm] at HQ
    go_enter Try.func101, Try.ntmps101
    go_wp2
    go_ret
    exact ⟨ret_int (by have := HQ.out; omega), rfl⟩
  · rw [if_neg hm] at HQ
    go_enter Try.func101, Try.ntmps101
    go_wp2
    go_ret
    exact ⟨ret_int (by have := HQ.out; omega), rfl⟩

theorem rounded_any (n d way : Int) (w : World) (h1 : 0 ≤ n) (h2 : n ≤ 9000000000000000000) (h3 : 1 ≤ d) (h4 : d ≤ 1000000000000000000) :
    Calls Try.prog 76 #[.int .i64 n, .int .i64 d, .int .i64 way] w fun e w' => e = .returned (.int .i64 (rnd n d way)) ∧ w = w' := by
  have hm : n - n / d * d = n % d := by have := Int.emod_add_mul_ediv n d; rw [Int.mul_comm] at this; omega
  have hr0 := Int.emod_nonneg n (show d ≠ 0 by omega)
  have hr1 := Int.emod_lt_of_pos n (show 0 < d by omega)
  have hq0 := Int.ediv_nonneg h1 (show 0 ≤ d by omega)
  have hq1 : n / d ≤ n := Int.ediv_le_self d h1
  have hp0 := Int.mul_nonneg hq0 (show 0 ≤ d by omega)
  have hp1 : n / d * d ≤ n := by omega
  generalize hqd : n / d = q at *
  generalize hrd : n % d = r at *
  have HR : Hid (rnd n d way = if (way = 2 ∧ 0 < r) ∨ (way = 3 ∧ (d < 2 * r ∨ (2 * r = d ∧ q % 2 ≠ 0))) then q + 1 else q) := by
    refine Lib.hid ?_
    unfold rnd
    rw [hqd, hrd]
  have HQ := Lib.hid hqd
  clear hqd hrd
  by_cases e2 : way = 2
  · subst e2
    go_enter Try.func76, Try.ntmps76
    go_wp2_with (go_at_call 101; refine (floor_any _ _ _ (by omega) (by omega) (by omega) (by omega)).mono ?_; rintro e w' ⟨rfl, rfl⟩; rw [HQ.out])
    all_goals
      go_ret
      refine ⟨ret_int ?_, rfl⟩
      rw [HR.out]
      first | (rw [if_pos (by simp; omega)]; done) | (rw [if_neg (by simp; omega)]; done)
  · by_cases e3 : way = 3
    · subst e3
      by_cases g1 : d - r < r
      · go_enter Try.func76, Try.ntmps76
        go_wp2_with (go_at_call 101; refine (floor_any _ _ _ (by omega) (by omega) (by omega) (by omega)).mono ?_; rintro e w' ⟨rfl, rfl⟩; rw [HQ.out])
        go_ret
        refine ⟨ret_int ?_, rfl⟩
        rw [HR.out]
        rw [if_pos (by simp; omega)]
      · by_cases g2 : r = d - r
        · have g3 : (r == d - r) = true := by simpa using g2
          have G2 := Lib.hid g2
          clear g2
          by_cases g4 : q % 2 = 0
          · have g5 : (q % 2 != 0) = false := by simp [g4]
            have G4 := Lib.hid g4
            clear g4
            go_enter Try.func76, Try.ntmps76
            go_wp2_with (go_at_call 101; refine (floor_any _ _ _ (by omega) (by omega) (by omega) (by omega)).mono ?_; rintro e w' ⟨rfl, rfl⟩; rw [HQ.out])
            go_ret
            refine ⟨ret_int ?_, rfl⟩
            rw [HR.out]
            rw [if_neg (by have := G2.out; have := G4.out; simp; omega)]
          · have g5 : (q % 2 != 0) = true := by simpa using g4
            have G4 := Lib.hid g4
            clear g4
            go_enter Try.func76, Try.ntmps76
            go_wp2_with (go_at_call 101; refine (floor_any _ _ _ (by omega) (by omega) (by omega) (by omega)).mono ?_; rintro e w' ⟨rfl, rfl⟩; rw [HQ.out])
            go_ret
            refine ⟨ret_int ?_, rfl⟩
            rw [HR.out]
            rw [if_pos (by have := G2.out; have := G4.out; simp; omega)]
        · have g3 : (r == d - r) = false := by simpa using g2
          go_enter Try.func76, Try.ntmps76
          go_wp2_with (go_at_call 101; refine (floor_any _ _ _ (by omega) (by omega) (by omega) (by omega)).mono ?_; rintro e w' ⟨rfl, rfl⟩; rw [HQ.out])
          go_ret
          refine ⟨ret_int ?_, rfl⟩
          rw [HR.out]
          rw [if_neg (by simp; omega)]
    · have f2 : (way == 2) = false := by simpa using e2
      have f3 : (way == 3) = false := by simpa using e3
      go_enter Try.func76, Try.ntmps76
      go_wp2_with (go_at_call 101; refine (floor_any _ _ _ (by omega) (by omega) (by omega) (by omega)).mono ?_; rintro e w' ⟨rfl, rfl⟩; rw [HQ.out])
      go_ret
      refine ⟨ret_int ?_, rfl⟩
      rw [HR.out, if_neg (by omega)]
end Go.Proofs.Ythnncojbckifnaa
