/-
  Folio: deeds that were done, and states (no Go in sight).
-/
import Derived.Test.YtmlhoojcdidgkaaFoRefused
namespace Go.Proofs.Ytmlhoojcdidgkaa
set_option linter.unusedSimpArgs false
set_option linter.unusedVariables false
set_option maxHeartbeats 1000000
theorem didR_snoc {l : List Deed} {errs : List Int} (h : errs.length = l.length) (x : Deed) (e : Int) (k s : Int) : didR (l ++ [x]) (errs ++ [e]) k s = (didR l errs k s || ((e == 0) && (x.kind == k) && (x.stay == s))) := by
  unfold didR
  rw [List.zip_append h.symm, List.any_append]
  simp
structure DidOk (l : List Deed) (errs : List Int) (a : Acc) : Prop where
  left : didR l errs 5 a.b.stay = decide (a.st = 3)
  canc : didR l errs 3 a.b.stay = decide (a.st = 4)
  walk : didR l errs 6 a.b.stay = decide (a.st = 5)
theorem DidOk.no {l : List Deed} {errs : List Int} {a : Acc} (h : DidOk l errs a) (hl : errs.length = l.length) {x : Deed} {e : Int} (hx : e ≠ 0 ∨ x.kind = 9 ∨ x.stay ≠ a.b.stay) : DidOk (l ++ [x]) (errs ++ [e]) a := by
  obtain ⟨h1, h2, h3⟩ := h
  have key : ∀ k, (k = 5 ∨ k = 3 ∨ k = 6) → ((e == 0) && (x.kind == k) && (x.stay == a.b.stay)) = false := by
    intro k hk
    rcases hx with hx | hx | hx
    · simp [hx]
    · have : (x.kind == k) = false := by rw [beq_eq_false_iff_ne]; omega
      simp [this]
    · simp [hx]
  exact ⟨by rw [didR_snoc hl, key 5 (by simp), Bool.or_false]; exact h1, by rw [didR_snoc hl, key 3 (by simp), Bool.or_false]; exact h2, by rw [didR_snoc hl, key 6 (by simp), Bool.or_false]; exact h3⟩
theorem Deeds.did {V : Env} {es : List Entry} {a : Acc} {x : Deed} {ys : List Entry} {a' : Acc} (h : Deeds V es a x ys a') {l : List Deed} {errs : List Int} (hl : errs.length = l.length) (hs : x.stay = a.b.stay) (hd : DidOk l errs a) : DidOk (l ++ [x]) (errs ++ [0]) a' := by
  obtain ⟨h1, h2, h3⟩ := hd
  have e0 : ∀ k, ((0 : Int) == 0 && (x.kind == k) && (x.stay == a.b.stay)) = decide (x.kind = k) := fun k => by rw [hs]; simp; rfl
  cases h
  all_goals
    refine ⟨?_, ?_, ?_⟩
    all_goals
      rw [didR_snoc hl]
      first | rw [h1] | rw [h2] | rw [h3]
      rw [e0]
      rw [Bool.eq_iff_iff]
      simp only [Bool.or_eq_true, decide_eq_true_eq]
      first | omega | (rw [iff_true]; omega)
/-- All that holds behind a run. -/
structure RunOk (V : Env) (bills : List Bill) (l : List Deed) (c : Crs) (errs : List Int) : Prop where
  len : errs.length = l.length
  ok : CrsOk c l.length
  bills : (c.ac.map fun a => a.b) = bills
  acct : ∀ a ∈ c.ac, Acct V c.es a
  did : ∀ a ∈ c.ac, DidOk l errs a
theorem CrsOk.more {c : Crs} {n : Nat} (h : CrsOk c n) : CrsOk c (n + 1) := ⟨h.day, h.es, h.rises, by have := h.len; omega, fun a ha => ⟨(h.ac a ha).b, (h.ac a ha).st, by have := (h.ac a ha).paid; omega, (h.ac a ha).early⟩, h.stays⟩
theorem run_all {V : Env} {bills : List Bill} (hV : EnvOk V) (hb : billsOk bills = true) (l : List Deed) : RunOk V bills l (runAll V bills l).1 (runAll V bills l).2 := by
  have hbk := (billsOk_iff.1 hb).1
  refine run_ind (V := V) (bills := bills) (RunOk V bills) ⟨rfl, crs0_ok hb, by simp [crs0, Function.comp_def], crs0_acct V hbk, fun a ha => ?_⟩ ?_ ?_ l
  · obtain ⟨b, hb, rfl⟩ := List.mem_map.1 ha
    exact ⟨rfl, rfl, rfl⟩
  · rintro l x c c' er ⟨h1, h2, h3, h4, h5⟩ hf hs
    obtain ⟨g1, g2, g3⟩ := hs.ok hV hf h2
    refine ⟨by simp [h1], by rw [List.length_append]; exact g1, g3.trans h3, hs.acct hV hf h2 h4, ?_⟩
    cases hs
    case broke k m => exact fun a ha => (h5 a ha).no h1 (.inr (.inl k))
    case deed k i a hi ha ys a' hd =>
      obtain ⟨hlt, hat⟩ := List.getElem?_eq_some_iff.1 ha
      obtain ⟨_, hst⟩ := idx_at hi
      rw [hat] at hst
      have ham := List.mem_of_getElem? ha
      intro b hb
      obtain ⟨j, hj, rfl⟩ := List.getElem_of_mem hb
      have hj' : j < c.ac.length := by simpa using hj
      show DidOk (l ++ [x]) (er ++ [0]) (c.ac.set i a')[j]
      rw [List.getElem_set]
      split
      · exact hd.did h1 hst.symm (h5 a ham)
      · next hne =>
        refine (h5 _ (List.getElem_mem hj')).no h1 (.inr (.inr ?_))
        rw [← hst, ← hat]
        intro heq
        have hn := List.pairwise_iff_getElem.1 h2.stays
        rcases Nat.lt_or_gt_of_ne hne with hlt' | hlt'
        · have := hn i j (by simpa using hlt) (by simpa using hj') hlt'
          simp at this
          exact this heq
        · have := hn j i (by simpa using hj') (by simpa using hlt) hlt'
          simp at this
          exact this heq.symm
  · rintro l x c er e ⟨h1, h2, h3, h4, h5⟩ he
    exact ⟨by simp [h1], by rw [List.length_append]; exact h2.more, h3, h4, fun a ha => (h5 a ha).no h1 (.inl he)⟩
theorem RunOk.at_ {V : Env} {bills : List Bill} {l : List Deed} {c : Crs} {errs : List Int} (h : RunOk V bills l c errs) {m : Nat} (hm : m < bills.length) : ∃ a ∈ c.ac, a.b = bills[m] := by
  have hlen : c.ac.length = bills.length := by rw [← h.bills]; simp
  refine ⟨c.ac[m]'(by omega), List.getElem_mem _, ?_⟩
  have := h.bills
  have h2 : (c.ac.map fun a => a.b)[m]'(by simp; omega) = bills[m] := List.getElem_of_eq this _
  rw [List.getElem_map] at h2
  exact h2
theorem comes_all {ts : List Tax} {b : Bill} {n c : Int} (h : comesR ts b = some (n, c)) : ∃ r, allT ts b = (r, n, 0) := by
  unfold comesR at h
  split at h
  · next h0 =>
    injection h with h
    injection h with h1 h2
    exact ⟨(allT ts b).1, by rw [← h1, ← h0]⟩
  · cases h
end Go.Proofs.Ytmlhoojcdidgkaa
