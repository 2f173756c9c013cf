/-
  The laws of package deposit: the head that each of them calls.
-/
import Derived.Test.YthnncojbckifnaaDep2
import Derived.Test.YthnncojbckifnaaDep3
import Derived.Test.YthnncojbckifnaaLedHead
namespace Go.Proofs.Ythnncojbckifnaa
set_option linter.unusedSimpArgs false
set_option linter.unusedVariables false
open Go.RowKit
open Go.Sort (grow size_grow)

set_option maxHeartbeats 4000000
set_option maxRecDepth 100000
theorem rentries_any (b : Bill) (paid day : Int) (w : World) :
    Calls Try.prog 19 #[b.v, .int .i64 paid, .int .i64 day] w fun e w' => RetE (entriesR b paid day) e w' ∧ Below w.heap.size w w' := by
  by_cases h : (!b.ok || !amt paid || !inB day 0 366) = true
  · exact rentries_no b paid day w h
  · have h' : (b.ok = true ∧ amt paid = true) ∧ inB day 0 366 = true := by simpa using h
    rw [entriesR_ok h'.1.1 h'.1.2 h'.2]
    exact rentries_ok b paid day _ _ w h'.1.1 h'.2 (refundR_ok h'.1.1 h'.1.2)
theorem entries_lit {b : Bill} {paid day er : Int} {r : List Entry} (h : entriesR b paid day = (r, er)) (w : World) :
    Calls Try.prog 18 #[b.v, .int .i64 paid, .int .i64 day] w fun e w' => OutE r er e w' ∧ Below w.heap.size w w' := by
  have := entries_any b paid day w
  rw [h] at this
  exact this
theorem rentries_lit {b : Bill} {paid day er : Int} {r : List Entry} (h : entriesR b paid day = (r, er)) (w : World) :
    Calls Try.prog 19 #[b.v, .int .i64 paid, .int .i64 day] w fun e w' => OutE r er e w' ∧ Below w.heap.size w w' := by
  have := rentries_any b paid day w
  rw [h] at this
  exact this
theorem voucher_lit {d v x y z : Int} (h : voucherR d v = (x, y, z)) (w : World) :
    Calls Try.prog 16 #[.int .i64 d, .int .i64 v] w fun e w' => e = .returned (.tuple #[.int .i64 x, .int .i64 y, .int .i64 z]) ∧ w = w' := by
  have := voucher_any d v w
  rw [h] at this
  exact this
theorem rvoucher_lit {d v x y z : Int} (h : voucherR d v = (x, y, z)) (w : World) :
    Calls Try.prog 17 #[.int .i64 d, .int .i64 v] w fun e w' => e = .returned (.tuple #[.int .i64 x, .int .i64 y, .int .i64 z]) ∧ w = w' := by
  have := rvoucher_any d v w
  rw [h] at this
  exact this
def exB31 : Bill := ⟨205, 1, 7, 1, 12, 14, 2, 9000, 5000⟩
def zB31 : Bill := ⟨0, 0, 0, 0, 0, 0, 0, 0, 0⟩
def dE1 : Entry := ⟨9, 505, 307, 5000, 205⟩
def dE2 : Entry := ⟨9, 505, 900, 3000, 205⟩
theorem h31_1 : refundR exB31 8000 = (3000, 5000, 0) := by decide +kernel
theorem h31_2 : refundR exB31 4000 = (0, 4000, 0) := by decide +kernel
theorem h31_3 : entriesR exB31 8000 9 = ([dE1, dE2], 0) := by decide +kernel
theorem h31_4 : voucherR 4000 6000 = (4000, 2000, 0) := by decide +kernel
theorem h31_5 : refundR zB31 4000 = (0, 0, 1) := by decide +kernel
theorem ex31_any (w : World) : Calls Try.prog 41 #[] w fun e w' => e = .returned exB31.v ∧ Below w.heap.size w w' := by
  go_enter Try.func41, Try.ntmps41
  go_wp2
  refine bodyPost_ret (v := exB31.v) (by simp [results, Try.results41, go_sem, exB31]) rfl ⟨rfl, ?_⟩
  repeat' (first
    | (with_reducible exact Below.refl _ _)
    | (with_reducible assumption)
    | (with_reducible refine below_drewN ?_ _)
    | (with_reducible refine Below.drew ?_)
    | (with_reducible refine below_regrown_up _ _ ?_ ?_)
    | (with_reducible refine Below.alloc ?_ ?_ _)
    | (with_reducible refine Below.setCell ?_ ?_ _)
    | (with_reducible refine below_up ?_ ?_ (by assumption))
    | (with_reducible exact Nat.le_refl _)
    | omega
    | (simp; done)
    | (simp; omega))
def wantCells : Array Value := #[.int .i64 9, .int .i64 505, .int .i64 307, .int .i64 5000, .int .i64 205, .int .i64 9, .int .i64 505, .int .i64 900, .int .i64 3000, .int .i64 205]
theorem wantSl (W : World) : SlEnt (W.alloc (.cells wantCells 63)) (some ⟨W.heap.size, 0, none⟩) [dE1, dE2] :=
  sl_of_box (cs := wantCells) (fun _ => rfl) (fun o => World.cell?_alloc_new W wantCells 63 o) (by simp) rfl
theorem head31_any (w : World) : Calls Try.prog 13 #[] w fun e w' => e = .returned (.bool true) ∧ Below w.heap.size w w' := by
  go_enter Try.func13, Try.ntmps13
  go_wp2_with fail
  refine (ex31_any _).mono ?_
  rintro e w1 ⟨rfl, hb1⟩
  go_wp2_with fail
  refine (refund_lit h31_1 _).mono ?_
  rintro e w2 ⟨rfl, hb2⟩
  go_wp2_with fail
  refine (ex31_any _).mono ?_
  rintro e w3 ⟨rfl, hb3⟩
  go_wp2_with fail
  refine (refund_lit h31_2 _).mono ?_
  rintro e w4 ⟨rfl, hb4⟩
  go_wp2_with fail
  refine (ex31_any _).mono ?_
  rintro e w5 ⟨rfl, hb5⟩
  go_wp2_with fail
  refine (entries_lit h31_3 _).mono ?_
  rintro e w6 ⟨⟨A6, c6, rfl, hc6, hs6⟩, hb6⟩
  go_wp2_with fail
  refine (voucher_lit h31_4 _).mono ?_
  rintro e w' ⟨rfl, rfl⟩
  go_wp2_with fail
  refine (refund_lit (b := zB31) h31_5 _).mono ?_
  rintro e w7 ⟨rfl, hb7⟩
  go_wp2_with fail
  have hb7a : Below w6.heap.size w6 (w7.alloc (.cells wantCells 63)) := hb7.alloc hb7.size _
  refine (rsame_any [dE1, dE2] [dE1, dE2] _ _ c6 2 (w7.alloc (.cells wantCells 63)) (hs6.up hb7a) (wantSl w7) (by decide) (by decide)).mono ?_
  rintro e w8 ⟨rfl, hb8⟩
  rw [decide_eq_true rfl]
  have hz1 := hb1.size
  have hz2 := hb2.size
  have hz3 := hb3.size
  have hz4 := hb4.size
  have hz5 := hb5.size
  have hz6 := hb6.size
  have hz7 := hb7.size
  go_wp2_with fail
  go_ret
  refine ⟨ret_bool (by simp), ?_⟩
  have a2 := below_up hb1 hz1 hb2
  have a3 := below_up a2 a2.size hb3
  have a4 := below_up a3 a3.size hb4
  have a5 := below_up a4 a4.size hb5
  have a6 := below_up a5 a5.size hb6
  have a7 := below_up a6 a6.size hb7a
  exact below_up a7 a7.size hb8
end Go.Proofs.Ythnncojbckifnaa
