/-
  What an undoing leaves, in plain Lean: no open entry; the balances of the entries of other refs.
-/
import Derived.Test.YthnncojbckifnaaLed12
namespace Go.Proofs.Ythnncojbckifnaa
set_option linter.unusedSimpArgs false
set_option linter.unusedVariables false
theorem mv_undone (p : Int → Bool) (day : Int) (e : Entry) : mv p (undone day e) = -mv p e := by
  show (if p e.credit then e.cents else 0) - (if p e.debit then e.cents else 0) = -((if p e.debit then e.cents else 0) - (if p e.credit then e.cents else 0))
  omega
theorem mvs_undone (p : Int → Bool) (day : Int) : ∀ l : List Entry, mvs p (l.map (undone day)) = -mvs p l
  | [] => rfl
  | e :: l => by rw [List.map_cons, mvs_cons, mvs_cons, mv_undone, mvs_undone p day l]; omega
theorem mv_against (p : Int → Bool) {e x : Entry} (h : against e x = true) : mv p x = -mv p e := by
  unfold against at h
  rw [decide_eq_true_eq] at h
  unfold mv
  rw [h.1, h.2.1, h.2.2.1]
  omega
theorem erase_perm {α : Type} : ∀ (l : List α) (i : Nat) (h : i < l.length), (l[i] :: l.eraseIdx i).Perm l
  | a :: l, 0, _ => List.Perm.refl _
  | a :: l, i + 1, h => by
    have h1 : i < l.length := by simpa using h
    exact (List.Perm.swap a l[i] (l.eraseIdx i)).trans ((erase_perm l i h1).cons a)
theorem mvs_erase (p : Int → Bool) : ∀ (l : List Entry) (i : Nat) (h : i < l.length), mvs p (l.eraseIdx i) = mvs p l - mv p l[i]
  | a :: l, 0, _ => by
    show mvs p l = mvs p (a :: l) - mv p a
    rw [mvs_cons]
    omega
  | a :: l, i + 1, h => by
    have h1 : i < l.length := by simpa using h
    show mvs p (a :: l.eraseIdx i) = mvs p (a :: l) - mv p l[i]
    rw [mvs_cons, mvs_cons, mvs_erase p l i h1]
    omega
theorem mvs_step (p : Int → Bool) (ref : Int) (out : List Entry) (e : Entry) : mvs p (openStep ref out e) = mvs p out + (if e.ref = ref then mv p e else 0) := by
  by_cases h : e.ref = ref
  · rw [if_pos h]
    cases hi : lastIx (against e) out with
    | none =>
      rw [openStep_none h hi, mvs_append, mvs_cons, mvs_nil]
      omega
    | some i =>
      obtain ⟨hlt, hag, _⟩ := lastIx_some hi
      rw [openStep_some h hi, mvs_erase p out i hlt, mv_against p hag]
      omega
  · rw [if_neg h, openStep_other h]
    omega
theorem mvs_fold (p : Int → Bool) (ref : Int) : ∀ (l out : List Entry), mvs p (l.foldl (openStep ref) out) = mvs p out + mvs p (l.filter fun e => decide (e.ref = ref))
  | [], out => by simp [mvs_nil]
  | e :: l, out => by
    rw [List.foldl_cons, mvs_fold p ref l, mvs_step, List.filter_cons]
    by_cases h : e.ref = ref
    · simp [h, mvs_cons]; omega
    · simp [h]
def key (e : Entry) : Int × Int × Int := (e.debit, e.credit, e.cents)
theorem undo_clears (ref day : Int) : ∀ (rem out : List Entry), (out.map key).Perm (rem.map key) → (∀ x ∈ out, x.ref = ref) → (∀ x ∈ rem, x.ref = ref) → (rem.map (undone day)).foldl (openStep ref) out = []
  | [], out, h, _, _ => by
    have : out.map key = [] := List.Perm.eq_nil h
    simpa using this
  | e :: r, out, h, ho, hr => by
    rw [List.map_cons, List.foldl_cons]
    have hk : key e ∈ out.map key := h.mem_iff.2 (by simp)
    obtain ⟨x, hx, hxe⟩ := List.mem_map.1 hk
    have her := hr e (by simp)
    have hag : ∀ y, y ∈ out → (against (undone day e) y = true ↔ key y = key e) := by
      intro y hy
      have hyr := ho y hy
      unfold against undone key
      rw [decide_eq_true_eq, Prod.mk.injEq, Prod.mk.injEq]
      constructor
      · rintro ⟨a, b, c, _⟩; exact ⟨b, a, c⟩
      · rintro ⟨a, b, c⟩; exact ⟨b, a, c, hyr.trans her.symm⟩
    have hst : ∃ j, ∃ hj : j < out.length, openStep ref out (undone day e) = out.eraseIdx j ∧ key out[j] = key e := by
      have h1 : (undone day e).ref = ref := her
      cases hl : lastIx (against (undone day e)) out with
      | none =>
        have := lastIx_none_iff.1 hl x hx
        rw [(hag x hx).2 hxe] at this
        cases this
      | some j =>
        obtain ⟨hj, ha, _⟩ := lastIx_some hl
        exact ⟨j, hj, openStep_some h1 hl, (hag _ (List.getElem_mem hj)).1 ha⟩
    obtain ⟨j, hj, he, hkj⟩ := hst
    rw [he]
    refine undo_clears ref day r _ ?_ (fun y hy => ho y (List.mem_of_mem_eraseIdx hy)) (fun y hy => hr y (by simp [hy]))
    have h2 := ((erase_perm out j hj).map key).trans h
    rw [List.map_cons, List.map_cons, hkj] at h2
    exact h2.cons_inv
theorem openE_undone (l : List Entry) (ref day : Int) : openE (l ++ (openE l ref).map (undone day)) ref = [] := by
  unfold openE
  rw [List.foldl_append]
  exact undo_clears ref day _ _ (List.Perm.refl _) (openE_ref l ref) (openE_ref l ref)
theorem upto_le {l : List Entry} {day : Int} (h : ∀ e ∈ l, e.day ≤ day) : upto l day = l := by
  unfold upto
  exact List.filter_eq_self.2 (fun e he => by simpa using h e he)
theorem bal_undone (p : Int → Bool) {l : List Entry} {ref day : Int} (h : ∀ e ∈ l, e.day ≤ day) :
    bal p (l ++ (openE l ref).map (undone day)) day = bal p (l.filter fun e => decide (e.ref ≠ ref)) day := by
  have h1 : ∀ e ∈ (openE l ref).map (undone day), e.day ≤ day := by
    intro e he
    obtain ⟨x, _, rfl⟩ := List.mem_map.1 he
    exact Int.le_refl _
  unfold bal
  rw [upto_append, upto_le h, upto_le h1, upto_le (fun e he => h e (List.mem_filter.1 he).1), mvs_append, mvs_undone]
  have h2 := mvs_fold p ref l []
  have h3 : mvs p l = mvs p (l.filter fun e => decide (e.ref = ref)) + mvs p (l.filter fun e => decide (e.ref ≠ ref)) := by
    clear h h1 h2
    induction l with
    | nil => rfl
    | cons e l ih =>
      rw [List.filter_cons, List.filter_cons, mvs_cons, ih]
      by_cases he : e.ref = ref <;> simp [he, mvs_cons] <;> omega
  unfold openE
  rw [mvs_nil] at h2
  omega
theorem begun_days {l : List Entry} {day : Int} (h : begun l day = false) (hr : Rises l) : ∀ e ∈ l, e.day ≤ day := by
  intro e he
  obtain ⟨j, hj, rfl⟩ := List.getElem_of_mem he
  rw [begun_at (by omega), decide_eq_false_iff_not] at h
  have h1 : l[j].day ≤ l[l.length - 1].day := by
    rcases Nat.lt_or_ge j (l.length - 1) with h2 | h2
    · exact (List.pairwise_iff_getElem.1 hr) j (l.length - 1) hj (by omega) h2
    · have : j = l.length - 1 := by omega
      subst this
      exact Int.le_refl _
  omega
theorem fold_mem {ref : Int} : ∀ (l out : List Entry), ∀ x ∈ l.foldl (openStep ref) out, x ∈ out ∨ x ∈ l
  | [], out, x, h => .inl h
  | e :: l, out, x, h => by
    rw [List.foldl_cons] at h
    rcases fold_mem l _ x h with h | h
    · unfold openStep at h
      split at h
      · exact .inl h
      · split at h
        · exact .inl (List.mem_of_mem_eraseIdx h)
        · rcases List.mem_append.1 h with h | h
          · exact .inl h
          · exact .inr (by simp at h; simp [h])
    · exact .inr (by simp [h])
theorem openE_mem {l : List Entry} {ref : Int} {x : Entry} (h : x ∈ openE l ref) : x ∈ l := by
  rcases fold_mem l [] x h with h | h
  · cases h
  · exact h
/-- What an undoing that went through leaves. -/
theorem undo_done {l : List Entry} {ref day : Int} (hk : ledOk l = true) (hr : inB ref 1 1000000 = true) (hd : inB day 0 366 = true) (hb : begun l day = false) (ho : openE l ref ≠ []) (hlen : l.length + (openE l ref).length ≤ 5000) :
    let m := l ++ (openE l ref).map (undone day)
    ledOk m = true ∧ undoR m ref day = ([], 4) ∧ (∀ e ∈ l, e.day ≤ day) ∧ (∀ p, bal p m day = bal p (l.filter fun e => decide (e.ref ≠ ref)) day) ∧ (∀ x ∈ (openE l ref).map (undone day), x.ref = ref ∧ x.day = day) := by
  intro m
  obtain ⟨h1, h2, h3⟩ := ledOk_iff.1 hk
  have hdays := begun_days hb h3
  have hnew : ∀ x ∈ (openE l ref).map (undone day), x.ref = ref ∧ x.day = day := by
    intro x hx
    obtain ⟨y, hy, rfl⟩ := List.mem_map.1 hx
    exact ⟨openE_ref l ref y hy, rfl⟩
  have hm : ledOk m = true := by
    refine ledOk_iff.2 ⟨by simp [m]; omega, fun e he => ?_, ?_⟩
    · rcases List.mem_append.1 he with he | he
      · exact h2 e he
      · obtain ⟨y, hy, rfl⟩ := List.mem_map.1 he
        obtain ⟨_, y2, y3, y4, y5, y6⟩ := Entry.ok_iff.1 (h2 y (openE_mem hy))
        exact Entry.ok_iff.2 ⟨inB_iff.1 hd, y3, y2, fun e => y4 e.symm, y5, y6⟩
    · unfold Rises
      refine List.pairwise_append.2 ⟨h3, ?_, fun a ha b hb' => ?_⟩
      · refine List.pairwise_iff_getElem.2 fun i j hi hj _ => ?_
        rw [(hnew _ (List.getElem_mem hi)).2, (hnew _ (List.getElem_mem hj)).2]
        exact Int.le_refl _
      · rw [(hnew b hb').2]
        exact hdays a ha
  have hlast : begun m day = false := by
    have hpos : 0 < m.length := by
      have : 0 < (openE l ref).length := List.length_pos_iff.2 ho
      simp [m]; omega
    rw [begun_at hpos, decide_eq_false_iff_not]
    have : m[m.length - 1] ∈ m := List.getElem_mem _
    rcases List.mem_append.1 this with h | h
    · have := hdays _ h; omega
    · have := (hnew _ h).2; omega
  refine ⟨hm, ?_, hdays, fun p => bal_undone p hdays, hnew⟩
  unfold undoR
  rw [hm, hr, hd, hlast, openE_undone]
  rfl
end Go.Proofs.Ythnncojbckifnaa
