/-
  The law 'LedgerZero': the walk.
-/
import Derived.Test.YthnncojbckifnaaLedMatches
namespace Go.Proofs.Ythnncojbckifnaa
set_option linter.unusedSimpArgs false
set_option linter.unusedVariables false
open Go.RowKit
open Go.Sort (grow size_grow)

set_option maxHeartbeats 4000000
set_option maxRecDepth 100000

theorem bal_split {p q r : Int → Bool} (h : ∀ a, p a = (q a || r a)) (hd : ∀ a, (q a && r a) = false) (l : List Entry) (day : Int) : bal p l day = bal q l day + bal r l day := by
  unfold bal mvs
  generalize upto l day = es
  induction es with
  | nil => rfl
  | cons e es ih =>
    rw [List.map_cons, List.map_cons, List.map_cons, List.sum_cons, List.sum_cons, List.sum_cons, ih]
    have h1 : mv p e = mv q e + mv r e := by
      unfold mv
      rw [h e.debit, h e.credit]
      have d1 := hd e.debit
      have d2 := hd e.credit
      cases hq1 : q e.debit <;> cases hr1 : r e.debit <;> cases hq2 : q e.credit <;> cases hr2 : r e.credit <;> simp [hq1, hr1, hq2, hr2] at d1 d2 ⊢ <;> omega
    rw [h1]
    omega
theorem bal_none {p : Int → Bool} (h : ∀ a, p a = false) (l : List Entry) (day : Int) : bal p l day = 0 := by
  unfold bal mvs
  generalize upto l day = es
  induction es with
  | nil => rfl
  | cons e es ih =>
    rw [List.map_cons, List.sum_cons, ih]
    unfold mv
    rw [h, h]
    simp
theorem bal_all {p : Int → Bool} (h : ∀ a, 100 ≤ a → a ≤ 999 → p a = true) {l : List Entry} (hl : ∀ e ∈ l, e.ok = true) (day : Int) : bal p l day = 0 := by
  have hu : ∀ e ∈ upto l day, e.ok = true := fun e he => hl e (upto_mem he)
  unfold bal mvs
  generalize upto l day = es at *
  induction es with
  | nil => rfl
  | cons e es ih =>
    rw [List.map_cons, List.sum_cons, ih (fun x hx => hu x (by simp [hx]))]
    obtain ⟨_, h1, h2, _⟩ := Entry.ok_iff.1 (hu e (by simp))
    unfold mv
    rw [h _ h1.1 h1.2, h _ h2.1 h2.2]
    simp
theorem bal_next {lo hi mid : Int} (h1 : lo ≤ mid + 1) (h2 : mid ≤ hi) (l : List Entry) (day : Int) : bal (fun a => inB a lo hi) l day = bal (fun a => inB a lo mid) l day + bal (fun a => inB a (mid + 1) hi) l day := by
  refine bal_split (fun a => ?_) (fun a => ?_) l day
  · rw [Bool.eq_iff_iff, Bool.or_eq_true, inB_iff, inB_iff, inB_iff]; omega
  · rw [Bool.and_eq_false_iff]
    by_cases ha : a ≤ mid
    · exact .inr (inB_f (by omega))
    · exact .inl (inB_f (by omega))
theorem kindR_ok {l : List Entry} {k day : Int} (h : ledOk l = true) (hk : 1 ≤ k ∧ k ≤ 9) (hd : 0 ≤ day ∧ day ≤ 366) : kindR l k day = (bal (ofKind k) l day, 0) := by
  rcases kindR_cases l k day with ⟨h1, _⟩ | ⟨_, _, _, h1⟩
  · rw [h, inB_t hk.1 hk.2, inB_t hd.1 hd.2] at h1; simp at h1
  · exact h1
theorem balR_ok {l : List Entry} {a day : Int} (h : ledOk l = true) (hk : 100 ≤ a ∧ a ≤ 999) (hd : 0 ≤ day ∧ day ≤ 366) : balR l a day = (bal (fun x => x == a) l day, 0) := by
  rcases balR_cases l a day with ⟨h1, _⟩ | ⟨_, _, _, h1⟩
  · rw [h, inB_t hk.1 hk.2, inB_t hd.1 hd.2] at h1; simp at h1
  · exact h1

end Go.Proofs.Ythnncojbckifnaa
