/-
  Contracts of package ledger and of its reference: entries; what is a ledger.
-/
import Derived.Test.YthnncojbckifnaaLPlain
import Derived.Test.YthnncojbckifnaaEqs
namespace Go.Proofs.Ythnncojbckifnaa
set_option linter.unusedSimpArgs false
set_option linter.unusedVariables false
open Go.RowKit
open Go.Sort (grow size_grow)

set_option maxHeartbeats 2000000
set_option maxRecDepth 100000

abbrev Entry.v (e : Entry) : Value := .agg #[.int .i64 e.day, .int .i64 e.debit, .int .i64 e.credit, .int .i64 e.cents, .int .i64 e.ref]
def Entry.cs (e : Entry) : List Value := [.int .i64 e.day, .int .i64 e.debit, .int .i64 e.credit, .int .i64 e.cents, .int .i64 e.ref]
abbrev SlEnt (w : World) (A : Option Addr) (l : List Entry) : Prop := Sl w w.heap.size 5 Entry.cs A l

theorem led_within_any (n lo hi : Int) (w : World) :
    Calls Try.prog 67 #[.int .i64 n, .int .i64 lo, .int .i64 hi] w fun e w' => e = .returned (.bool (inB n lo hi)) ∧ w = w' := by
  by_cases h1 : lo ≤ n
  · by_cases h2 : n ≤ hi
    · go_enter Try.func67, Try.ntmps67
      go_wp2
      go_ret
      exact ⟨ret_bool (by rw [inB_t h1 h2]), rfl⟩
    · go_enter Try.func67, Try.ntmps67
      go_wp2
      go_ret
      exact ⟨ret_bool (by rw [inB_f (by omega)]), rfl⟩
  · go_enter Try.func67, Try.ntmps67
    go_wp2
    go_ret
    exact ⟨ret_bool (by rw [inB_f (by omega)]), rfl⟩
theorem isAccount_any (n : Int) (w : World) : Calls Try.prog 64 #[.int .i64 n] w fun e w' => e = .returned (.bool (inB n 100 999)) ∧ w = w' := by
  go_enter Try.func64, Try.ntmps64
  go_wp2_with (go_at_call 67; refine (led_within_any _ _ _ _).mono ?_; rintro e w1 ⟨rfl, rfl⟩)
  go_ret
  exact ⟨rfl, rfl⟩
theorem isDay_any (n : Int) (w : World) : Calls Try.prog 65 #[.int .i64 n] w fun e w' => e = .returned (.bool (inB n 0 366)) ∧ w = w' := by
  go_enter Try.func65, Try.ntmps65
  go_wp2_with (go_at_call 67; refine (led_within_any _ _ _ _).mono ?_; rintro e w1 ⟨rfl, rfl⟩)
  go_ret
  exact ⟨rfl, rfl⟩
theorem r28_in_any (n lo hi : Int) (w : World) :
    Calls Try.prog 87 #[.int .i64 n, .int .i64 lo, .int .i64 hi] w fun e w' => e = .returned (.bool (inB n lo hi)) ∧ w = w' := by
  by_cases h1 : lo ≤ n
  · by_cases h2 : n ≤ hi
    · go_enter Try.func87, Try.ntmps87
      go_wp2
      go_ret
      exact ⟨ret_bool (by rw [inB_t h1 h2]), rfl⟩
    · go_enter Try.func87, Try.ntmps87
      go_wp2
      go_ret
      exact ⟨ret_bool (by rw [inB_f (by omega)]), rfl⟩
  · go_enter Try.func87, Try.ntmps87
    go_wp2
    go_ret
    exact ⟨ret_bool (by rw [inB_f (by omega)]), rfl⟩
theorem rAccount_any (n : Int) (w : World) : Calls Try.prog 88 #[.int .i64 n] w fun e w' => e = .returned (.bool (inB n 100 999)) ∧ w = w' := by
  go_enter Try.func88, Try.ntmps88
  go_wp2_with (go_at_call 87; refine (r28_in_any _ _ _ _).mono ?_; rintro e w1 ⟨rfl, rfl⟩)
  go_ret
  exact ⟨rfl, rfl⟩

theorem formed_any (x : Entry) (w : World) : Calls Try.prog 60 #[x.v] w fun e w' => e = .returned (.bool x.ok) ∧ Below w.heap.size w w' := by
  go_enter Try.func60, Try.ntmps60
  go_wp2_with (first
    | (go_at_call 65; refine (isDay_any _ _).mono ?_; rintro e w1 ⟨rfl, rfl⟩)
    | (go_at_call 64; refine (isAccount_any _ _).mono ?_; rintro e w1 ⟨rfl, rfl⟩)
    | (go_at_call 67; refine (led_within_any _ _ _ _).mono ?_; rintro e w1 ⟨rfl, rfl⟩))
  all_goals
    go_ret
    refine ⟨ret_bool ?_, ?_⟩
    · unfold Entry.ok
      first | (simp [*]; done) | (simp_all; done) | (simp [*]; intros; omega)
    · repeat' (first
        | (with_reducible exact Below.refl _ _)
        | (with_reducible assumption)
        | (with_reducible refine below_drewN ?_ _)
        | (with_reducible refine Below.drew ?_)
        | (with_reducible refine below_regrown_up _ _ ?_ ?_)
        | (with_reducible refine Below.alloc ?_ ?_ _)
        | (with_reducible refine Below.setCell ?_ ?_ _)
        | (with_reducible refine below_up ?_ ?_ (by assumption))
        | (with_reducible exact Nat.le_refl _)
        | omega
        | (simp; done)
        | (simp; omega))
theorem rentry_any (x : Entry) (w : World) : Calls Try.prog 63 #[x.v] w fun e w' => e = .returned (.bool x.ok) ∧ Below w.heap.size w w' := by
  go_enter Try.func63, Try.ntmps63
  go_wp2_with (first
    | (go_at_call 88; refine (rAccount_any _ _).mono ?_; rintro e w1 ⟨rfl, rfl⟩)
    | (go_at_call 87; refine (r28_in_any _ _ _ _).mono ?_; rintro e w1 ⟨rfl, rfl⟩))
  all_goals
    go_ret
    refine ⟨ret_bool ?_, ?_⟩
    · unfold Entry.ok
      first | (simp [*]; done) | (simp_all; done) | (simp [*]; intros; omega)
    · repeat' (first
        | (with_reducible exact Below.refl _ _)
        | (with_reducible assumption)
        | (with_reducible refine below_drewN ?_ _)
        | (with_reducible refine Below.drew ?_)
        | (with_reducible refine below_regrown_up _ _ ?_ ?_)
        | (with_reducible refine Below.alloc ?_ ?_ _)
        | (with_reducible refine Below.setCell ?_ ?_ _)
        | (with_reducible refine below_up ?_ ?_ (by assumption))
        | (with_reducible exact Nat.le_refl _)
        | omega
        | (simp; done)
        | (simp; omega))
theorem valid1_any (x : Entry) (w : World) : Calls Try.prog 81 #[x.v] w fun e w' => e = .returned (.bool (!x.ok)) ∧ Below w.heap.size w w' := by
  go_enter Try.func81, Try.ntmps81
  go_wp2_with (go_at_call 60; refine (formed_any x _).mono ?_; rintro e w1 ⟨rfl, hb⟩)
  go_ret
  refine ⟨rfl, ?_⟩
  repeat' (first
    | (with_reducible exact Below.refl _ _)
    | (with_reducible assumption)
    | (with_reducible refine below_drewN ?_ _)
    | (with_reducible refine Below.drew ?_)
    | (with_reducible refine below_regrown_up _ _ ?_ ?_)
    | (with_reducible refine Below.alloc ?_ ?_ _)
    | (with_reducible refine Below.setCell ?_ ?_ _)
    | (with_reducible refine below_up ?_ ?_ (by assumption))
    | (with_reducible exact Nat.le_refl _)
    | omega
    | (simp; done)
    | (simp; omega))
theorem valid2_any (x y : Entry) (w : World) : Calls Try.prog 83 #[x.v, y.v] w fun e w' => e = .returned (.int .i64 (wrap64 (x.day - y.day))) ∧ Below w.heap.size w w' := by
  go_enter Try.func83, Try.ntmps83
  go_wp2
  go_ret
  refine ⟨rfl, ?_⟩
  repeat' (first
    | (with_reducible exact Below.refl _ _)
    | (with_reducible assumption)
    | (with_reducible refine below_drewN ?_ _)
    | (with_reducible refine Below.drew ?_)
    | (with_reducible refine below_regrown_up _ _ ?_ ?_)
    | (with_reducible refine Below.alloc ?_ ?_ _)
    | (with_reducible refine Below.setCell ?_ ?_ _)
    | (with_reducible refine below_up ?_ ?_ (by assumption))
    | (with_reducible exact Nat.le_refl _)
    | omega
    | (simp; done)
    | (simp; omega))
end Go.Proofs.Ythnncojbckifnaa
