/-
  Contracts of the reference of package ledger: balances.
-/
import Derived.Test.YthnncojbckifnaaLed4
namespace Go.Proofs.Ythnncojbckifnaa
set_option linter.unusedSimpArgs false
set_option linter.unusedVariables false
open Go.RowKit
open Go.Sort (grow size_grow)

set_option maxHeartbeats 2000000
set_option maxRecDepth 100000
theorem bal_snoc {p : Int → Bool} {l : List Entry} {m : Nat} {day : Int} (h : m < l.length) : bal p (l.take (m + 1)) day = bal p (l.take m) day + (if l[m].day ≤ day then mv p l[m] else 0) := by
  rw [List.take_succ_eq_append_getElem h, bal_append]
  congr 1
  unfold bal upto mvs
  by_cases hd : l[m].day ≤ day
  · rw [List.filter_cons, if_pos (by simpa using hd), if_pos hd]
    simp
  · rw [List.filter_cons, if_neg (by simpa using hd), if_neg hd]
    simp
theorem bal_take_bd (p : Int → Bool) {l : List Entry} {m : Nat} {day : Int} (h : ∀ e ∈ l, e.ok = true) (hm : m ≤ l.length) : -(1000000000 * (m : Int)) ≤ bal p (l.take m) day ∧ bal p (l.take m) day ≤ 1000000000 * (m : Int) := by
  have h1 := mvs_bd p (l := upto (l.take m) day) (fun e he => h e (List.mem_of_mem_take (upto_mem he)))
  have h2 := upto_len (l.take m) day
  rw [List.length_take] at h2
  unfold bal
  omega
theorem bal_congr {p q : Int → Bool} (h : ∀ a, p a = q a) (l : List Entry) (day : Int) : bal p l day = bal q l day := by
  have : p = q := funext h
  rw [this]
theorem inB_self (a x : Int) : inB a x x = (a == x) := by
  rw [Bool.eq_iff_iff, inB_iff, beq_iff_eq]
  omega

theorem balR_cases (l : List Entry) (a day : Int) : ((!ledOk l || !inB a 100 999 || !inB day 0 366) = true ∧ balR l a day = (0, 1)) ∨ (ledOk l = true ∧ inB a 100 999 = true ∧ inB day 0 366 = true ∧ balR l a day = (bal (fun x => x == a) l day, 0)) := by
  unfold balR
  by_cases h1 : (!ledOk l || !inB a 100 999 || !inB day 0 366) = true
  · rw [if_pos h1]; exact .inl ⟨h1, rfl⟩
  · rw [if_neg h1]
    have h2 : (ledOk l = true ∧ inB a 100 999 = true) ∧ inB day 0 366 = true := by simpa using h1
    exact .inr ⟨h2.1.1, h2.1.2, h2.2, rfl⟩
theorem kindR_cases (l : List Entry) (a day : Int) : ((!ledOk l || !inB a 1 9 || !inB day 0 366) = true ∧ kindR l a day = (0, 1)) ∨ (ledOk l = true ∧ inB a 1 9 = true ∧ inB day 0 366 = true ∧ kindR l a day = (bal (ofKind a) l day, 0)) := by
  unfold kindR
  by_cases h1 : (!ledOk l || !inB a 1 9 || !inB day 0 366) = true
  · rw [if_pos h1]; exact .inl ⟨h1, rfl⟩
  · rw [if_neg h1]
    have h2 : (ledOk l = true ∧ inB a 1 9 = true) ∧ inB day 0 366 = true := by simpa using h1
    exact .inr ⟨h2.1.1, h2.1.2, h2.2, rfl⟩
end Go.Proofs.Ythnncojbckifnaa
