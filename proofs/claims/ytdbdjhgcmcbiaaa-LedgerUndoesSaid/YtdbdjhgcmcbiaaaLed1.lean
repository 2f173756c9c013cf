/-
  Contracts of package ledger and of its reference: entries; what is a ledger.
-/
import Derived.Test.YtdbdjhgcmcbiaaaLPlain
import Derived.Test.YtdbdjhgcmcbiaaaEqs
namespace Go.Proofs.Ytdbdjhgcmcbiaaa
set_option linter.unusedSimpArgs false
set_option linter.unusedVariables false
open Go.RowKit
open Go.Sort (grow size_grow)

set_option maxHeartbeats 2000000
set_option maxRecDepth 100000

abbrev Entry.v (e : Entry) : Value := .agg #[.int .i64 e.day, .int .i64 e.debit, .int .i64 e.credit, .int .i64 e.cents, .int .i64 e.ref]
def Entry.cs (e : Entry) : List Value := [.int .i64 e.day, .int .i64 e.debit, .int .i64 e.credit, .int .i64 e.cents, .int .i64 e.ref]
abbrev SlEnt (w : World) (A : Option Addr) (l : List Entry) : Prop := Sl w w.heap.size 5 Entry.cs A l

theorem led_within_any (n lo hi : Int) (w : World) :
    Calls Try.prog 64 #[.int .i64 n, .int .i64 lo, .int .i64 hi] w fun e w' => e = .returned (.bool (inB n lo hi)) ∧ w = w' := by
  by_cases h1 : lo ≤ n
  · by_cases h2 : n ≤ hi
    · go_enter Try.func64, Try.ntmps64
      go_wp2
      go_ret
      exact ⟨ret_bool (by rw [inB_t h1 h2]), rfl⟩
    · go_enter Try.func64, Try.ntmps64
      go_wp2
      go_ret
      exact ⟨ret_bool (by rw [inB_f (by omega)]), rfl⟩
  · go_enter Try.func64, Try.ntmps64
    go_wp2
    go_ret
    exact ⟨ret_bool (by rw [inB_f (by omega)]), rfl⟩
theorem isAccount_any (n : Int) (w : World) : Calls Try.prog 58 #[.int .i64 n] w fun e w' => e = .returned (.bool (inB n 100 999)) ∧ w = w' := by
  go_enter Try.func58, Try.ntmps58
  go_wp2_with (go_at_call 64; refine (led_within_any _ _ _ _).mono ?_; rintro e w1 ⟨rfl, rfl⟩)
  go_ret
  exact ⟨rfl, rfl⟩
theorem isDay_any (n : Int) (w : World) : Calls Try.prog 59 #[.int .i64 n] w fun e w' => e = .returned (.bool (inB n 0 366)) ∧ w = w' := by
  go_enter Try.func59, Try.ntmps59
  go_wp2_with (go_at_call 64; refine (led_within_any _ _ _ _).mono ?_; rintro e w1 ⟨rfl, rfl⟩)
  go_ret
  exact ⟨rfl, rfl⟩
theorem r28_in_any (n lo hi : Int) (w : World) :
    Calls Try.prog 62 #[.int .i64 n, .int .i64 lo, .int .i64 hi] w fun e w' => e = .returned (.bool (inB n lo hi)) ∧ w = w' := by
  by_cases h1 : lo ≤ n
  · by_cases h2 : n ≤ hi
    · go_enter Try.func62, Try.ntmps62
      go_wp2
      go_ret
      exact ⟨ret_bool (by rw [inB_t h1 h2]), rfl⟩
    · go_enter Try.func62, Try.ntmps62
      go_wp2
      go_ret
      exact ⟨ret_bool (by rw [inB_f (by omega)]), rfl⟩
  · go_enter Try.func62, Try.ntmps62
    go_wp2
    go_ret
    exact ⟨ret_bool (by rw [inB_f (by omega)]), rfl⟩
theorem rAccount_any (n : Int) (w : World) : Calls Try.prog 61 #[.int .i64 n] w fun e w' => e = .returned (.bool (inB n 100 999)) ∧ w = w' := by
  go_enter Try.func61, Try.ntmps61
  go_wp2_with (go_at_call 62; refine (r28_in_any _ _ _ _).mono ?_; rintro e w1 ⟨rfl, rfl⟩)
  go_ret
  exact ⟨rfl, rfl⟩

theorem formed_any (x : Entry) (w : World) : Calls Try.prog 49 #[x.v] w fun e w' => e = .returned (.bool x.ok) ∧ Below w.heap.size w w' := by
  go_enter Try.func49, Try.ntmps49
  go_wp2_with (first
    | (go_at_call 59; refine (isDay_any _ _).mono ?_; rintro e w1 ⟨rfl, rfl⟩)
    | (go_at_call 58; refine (isAccount_any _ _).mono ?_; rintro e w1 ⟨rfl, rfl⟩)
    | (go_at_call 64; refine (led_within_any _ _ _ _).mono ?_; rintro e w1 ⟨rfl, rfl⟩))
  all_goals
    go_ret
    refine ⟨ret_bool ?_, ?_⟩
    · unfold Entry.ok
      first | (simp [*]; done) | (simp_all; done) | (simp [*]; intros; omega)
    · repeat' (first
        | (with_reducible exact Below.refl _ _)
        | (with_reducible assumption)
        | (with_reducible refine below_drewN ?_ _)
        | (with_reducible refine Below.drew ?_)
        | (with_reducible refine below_regrown_up _ _ ?_ ?_)
        | (with_reducible refine Below.alloc ?_ ?_ _)
        | (with_reducible refine Below.setCell ?_ ?_ _)
        | (with_reducible refine below_up ?_ ?_ (by assumption))
        | (with_reducible exact Nat.le_refl _)
        | omega
        | (simp; done)
        | (simp; omega))
theorem rentry_any (x : Entry) (w : World) : Calls Try.prog 52 #[x.v] w fun e w' => e = .returned (.bool x.ok) ∧ Below w.heap.size w w' := by
  go_enter Try.func52, Try.ntmps52
  go_wp2_with (first
    | (go_at_call 61; refine (rAccount_any _ _).mono ?_; rintro e w1 ⟨rfl, rfl⟩)
    | (go_at_call 62; refine (r28_in_any _ _ _ _).mono ?_; rintro e w1 ⟨rfl, rfl⟩))
  all_goals
    go_ret
    refine ⟨ret_bool ?_, ?_⟩
    · unfold Entry.ok
      first | (simp [*]; done) | (simp_all; done) | (simp [*]; intros; omega)
    · repeat' (first
        | (with_reducible exact Below.refl _ _)
        | (with_reducible assumption)
        | (with_reducible refine below_drewN ?_ _)
        | (with_reducible refine Below.drew ?_)
        | (with_reducible refine below_regrown_up _ _ ?_ ?_)
        | (with_reducible refine Below.alloc ?_ ?_ _)
        | (with_reducible refine Below.setCell ?_ ?_ _)
        | (with_reducible refine below_up ?_ ?_ (by assumption))
        | (with_reducible exact Nat.le_refl _)
        | omega
        | (simp; done)
        | (simp; omega))
theorem valid1_any (x : Entry) (w : World) : Calls Try.prog 54 #[x.v] w fun e w' => e = .returned (.bool (!x.ok)) ∧ Below w.heap.size w w' := by
  go_enter Try.func54, Try.ntmps54
  go_wp2_with (go_at_call 49; refine (formed_any x _).mono ?_; rintro e w1 ⟨rfl, hb⟩)
  go_ret
  refine ⟨rfl, ?_⟩
  repeat' (first
    | (with_reducible exact Below.refl _ _)
    | (with_reducible assumption)
    | (with_reducible refine below_drewN ?_ _)
    | (with_reducible refine Below.drew ?_)
    | (with_reducible refine below_regrown_up _ _ ?_ ?_)
    | (with_reducible refine Below.alloc ?_ ?_ _)
    | (with_reducible refine Below.setCell ?_ ?_ _)
    | (with_reducible refine below_up ?_ ?_ (by assumption))
    | (with_reducible exact Nat.le_refl _)
    | omega
    | (simp; done)
    | (simp; omega))
theorem valid2_any (x y : Entry) (w : World) : Calls Try.prog 56 #[x.v, y.v] w fun e w' => e = .returned (.int .i64 (wrap64 (x.day - y.day))) ∧ Below w.heap.size w w' := by
  go_enter Try.func56, Try.ntmps56
  go_wp2
  go_ret
  refine ⟨rfl, ?_⟩
  repeat' (first
    | (with_reducible exact Below.refl _ _)
    | (with_reducible assumption)
    | (with_reducible refine below_drewN ?_ _)
    | (with_reducible refine Below.drew ?_)
    | (with_reducible refine below_regrown_up _ _ ?_ ?_)
    | (with_reducible refine Below.alloc ?_ ?_ _)
    | (with_reducible refine Below.setCell ?_ ?_ _)
    | (with_reducible refine below_up ?_ ?_ (by assumption))
    | (with_reducible exact Nat.le_refl _)
    | omega
    | (simp; done)
    | (simp; omega))
end Go.Proofs.Ytdbdjhgcmcbiaaa
