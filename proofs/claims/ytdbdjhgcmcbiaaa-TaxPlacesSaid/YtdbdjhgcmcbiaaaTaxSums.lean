/-
  All taxes of a bill, in another order or without those of other places: plain laws.
-/
import Derived.Test.YtdbdjhgcmcbiaaaPlain
namespace Go.Proofs.Ytdbdjhgcmcbiaaa
set_option linter.unusedSimpArgs false
set_option linter.unusedVariables false

theorem one_err {t : Tax} {b : Bill} (ht : t.ok = true) (hb : b.ok = true) (h : (one t b).2 ≠ 0) : (one t b).2 = 3 := by
  unfold one at h ⊢
  rw [if_neg (by simp [ht, hb])] at h ⊢
  split at h
  · exact absurd rfl h
  · rename_i h1
    split at h
    · rename_i h2
      rw [if_neg h1, if_pos h2]
    · exact absurd rfl h
def allE (l : List Tax) (b : Bill) : Bool := (l.any fun t => (one t b).2 != 0) || decide (1000000000 < (onesT l b).sum)
theorem allT_bad {l : List Tax} {b : Bill} (h : (taxesOk l && b.ok) = false) : allT l b = ([], 0, 1) := allT_arg (by rw [Bool.and_eq_false_iff] at h; rcases h with h | h <;> simp [h])
theorem allT_good {l : List Tax} {b : Bill} (h : (taxesOk l && b.ok) = true) : allT l b = if allE l b = true then ([], 0, 3) else (onesT l b, (onesT l b).sum, 0) := by
  rw [Bool.and_eq_true] at h
  unfold allE
  cases ha : l.any fun t => (one t b).2 != 0 with
  | true =>
    rw [if_pos (by simp)]
    unfold allT
    rw [if_neg (by simp [h])]
    cases hf : l.find? (fun t => (one t b).2 != 0) with
    | none =>
      rw [List.find?_eq_none] at hf
      rw [List.any_eq_true] at ha
      obtain ⟨t, ht, hx⟩ := ha
      exact absurd hx (hf t ht)
    | some t =>
      have h1 := List.find?_some hf
      have h2 := List.mem_of_find?_eq_some hf
      have ht : t.ok = true := by
        obtain ⟨j, hj, rfl⟩ := List.getElem_of_mem h2
        exact (taxesOk_iff.1 h.1).2.1 j hj
      simp only
      rw [one_err ht h.2 (by simpa using h1)]
  | false =>
    rw [allT_ok (by simp [h]) (fun j hj => by
      rw [List.any_eq_false] at ha
      have := ha _ (List.getElem_mem hj)
      simpa using this)]
    simp only [Bool.false_or, decide_eq_true_eq]
theorem onesT_rev (l : List Tax) (b : Bill) : onesT l.reverse b = (onesT l b).reverse := by simp [onesT]
theorem taxesOk_rev (l : List Tax) : taxesOk l.reverse = taxesOk l := by
  unfold taxesOk
  rw [List.length_reverse, List.all_reverse, List.map_reverse]
  congr 1
  exact decide_eq_decide.2 (List.pairwise_reverse.trans ⟨fun h => h.imp Ne.symm, fun h => h.imp Ne.symm⟩)
theorem sum_rev (l : List Int) : l.reverse.sum = l.sum := by
  induction l with
  | nil => rfl
  | cons x l ih => rw [List.reverse_cons, List.sum_append, ih, List.sum_cons]; simp; omega
theorem allE_rev (l : List Tax) (b : Bill) : allE l.reverse b = allE l b := by
  unfold allE
  rw [List.any_reverse, onesT_rev, sum_rev]
/-- In the opposite order. -/
theorem allT_rev (l : List Tax) (b : Bill) : (allT l.reverse b).2 = (allT l b).2 := by
  cases h : taxesOk l && b.ok with
  | false => rw [allT_bad h, allT_bad (by rw [taxesOk_rev]; exact h)]
  | true =>
    rw [allT_good h, allT_good (by rw [taxesOk_rev]; exact h), allE_rev]
    split
    · rfl
    · rw [onesT_rev, sum_rev]
def ownT (l : List Tax) (b : Bill) : List Tax := l.filter fun t => decide (t.place = b.place)
theorem one_far {t : Tax} {b : Bill} (ht : t.ok = true) (hb : b.ok = true) (h : t.place ≠ b.place) : one t b = (0, 0) := by
  unfold one
  rw [if_neg (by simp [ht, hb]), if_pos h]
theorem own_sums {b : Bill} (hb : b.ok = true) : ∀ {l : List Tax}, (∀ t ∈ l, t.ok = true) → (onesT (ownT l b) b).sum = (onesT l b).sum ∧ ((ownT l b).any fun t => (one t b).2 != 0) = l.any fun t => (one t b).2 != 0
  | [], _ => ⟨rfl, rfl⟩
  | t :: l, h => by
    obtain ⟨h1, h2⟩ := own_sums hb (l := l) (fun x hx => h x (by simp [hx]))
    by_cases hp : t.place = b.place
    · have e : ownT (t :: l) b = t :: ownT l b := by unfold ownT; rw [List.filter_cons, if_pos (by simpa using hp)]
      rw [e]
      exact ⟨by show (_ :: onesT (ownT l b) b).sum = (_ :: onesT l b).sum; rw [List.sum_cons, List.sum_cons, h1], by rw [List.any_cons, List.any_cons, h2]⟩
    · have e : ownT (t :: l) b = ownT l b := by unfold ownT; rw [List.filter_cons, if_neg (by simpa using hp)]
      have e2 := one_far (h t (by simp)) hb hp
      rw [e]
      exact ⟨by rw [h1]; show _ = (_ :: onesT l b).sum; rw [List.sum_cons]; simp [e2], by rw [List.any_cons, h2, e2]; simp⟩
theorem ownT_ok {l : List Tax} (b : Bill) (h : taxesOk l = true) : taxesOk (ownT l b) = true := by
  unfold taxesOk at h ⊢
  simp only [Bool.and_eq_true, decide_eq_true_eq, List.all_eq_true] at h ⊢
  exact ⟨⟨Nat.le_trans (List.length_filter_le _ _) h.1.1, fun t ht => h.1.2 t (List.mem_filter.1 ht).1⟩, h.2.sublist (List.filter_sublist.map _)⟩
/-- Without those of other places. -/
theorem allT_own {l : List Tax} {b : Bill} (h : (taxesOk l && b.ok) = true) : (allT (ownT l b) b).2 = (allT l b).2 := by
  have h' := h
  rw [Bool.and_eq_true] at h'
  obtain ⟨e1, e2⟩ := own_sums h'.2 (l := l) (fun t ht => by
    obtain ⟨j, hj, rfl⟩ := List.getElem_of_mem ht
    exact (taxesOk_iff.1 h'.1).2.1 j hj)
  rw [allT_good h, allT_good (by rw [ownT_ok b h'.1, h'.2]; rfl)]
  have e3 : allE (ownT l b) b = allE l b := by unfold allE; rw [e1, e2]
  rw [e3]
  split
  · rfl
  · rw [e1]
/-- What comes of all taxes: refused; too great; each one, and the sum. -/
theorem allT_cases (l : List Tax) (b : Bill) : ((taxesOk l && b.ok) = false ∧ allT l b = ([], 0, 1)) ∨ ((taxesOk l && b.ok) = true ∧ allT l b = ([], 0, 3)) ∨
    ((taxesOk l && b.ok) = true ∧ allT l b = (onesT l b, (onesT l b).sum, 0) ∧ (∀ j (h : j < l.length), (one l[j] b).2 = 0) ∧ 0 ≤ (onesT l b).sum ∧ (onesT l b).sum ≤ 1000000000) := by
  cases h : taxesOk l && b.ok with
  | false => exact .inl ⟨rfl, allT_bad h⟩
  | true =>
    rw [allT_good h]
    by_cases he : allE l b = true
    · rw [if_pos he]
      exact .inr (.inl ⟨rfl, rfl⟩)
    · rw [if_neg he]
      have he' : allE l b = false := by simpa using he
      unfold allE at he'
      rw [Bool.or_eq_false_iff, List.any_eq_false, decide_eq_false_iff_not] at he'
      exact .inr (.inr ⟨rfl, rfl, fun j hj => by simpa using he'.1 _ (List.getElem_mem hj), (onesT_sum_bd l b).1, by omega⟩)
end Go.Proofs.Ytdbdjhgcmcbiaaa
