/-
  Contracts of the reference of package ledger: open entries; undoing.
-/
import Derived.Test.YthnncojbckifnaaLed11
namespace Go.Proofs.Ythnncojbckifnaa
set_option linter.unusedSimpArgs false
set_option linter.unusedVariables false
open Go.RowKit
open Go.Sort (grow size_grow)

set_option maxHeartbeats 4000000
set_option maxRecDepth 100000
section
variable {α : Type} {w : World} {B size : Nat} {enc : α → List Value} {A : Option Addr} {l : List α}
theorem Sl.drewN (h : Sl w B size enc A l) (n : Nat) : Sl (w.drewN n) B size enc A l := h
theorem Sl.take (h : Sl w B size enc A l) (k : Nat) : Sl w B size enc A (l.take k) := fun hne => by
  have hl : l ≠ [] := by rintro rfl; simp at hne
  obtain ⟨b, off, e, hb, hc⟩ := h hl
  refine ⟨b, off, e, hb, fun j hj r v hv => ?_⟩
  rw [List.length_take] at hj
  rw [List.getElem_take] at hv
  exact hc j (by omega) r v hv
theorem Sl.drop {b off : Nat} (h : Sl w B size enc (some ⟨b, off, none⟩) l) (k : Nat) : Sl w B size enc (some ⟨b, off + k * size, none⟩) (l.drop k) := fun hne => by
  have hl : l ≠ [] := by rintro rfl; simp at hne
  obtain ⟨b', off', e, hb, hc⟩ := h hl
  injection e with e
  injection e with e1 e2
  subst e1 e2
  refine ⟨b, off + k * size, rfl, hb, fun j hj r v hv => ?_⟩
  rw [List.length_drop] at hj
  rw [List.getElem_drop] at hv
  have := hc (k + j) (by omega) r v hv
  rw [show off + k * size + j * size + r = off + (k + j) * size + r by rw [Nat.add_mul]; omega]
  exact this
/-- 's[k:]' of a slice that reads as a list. -/
theorem Sl.cut {b off cap : Nat} (h : Sl w B size enc (some ⟨b, off, none⟩) l) (k : Nat) (hcap : l.length ≤ cap) : ∃ A', (if cap = k then some (⟨b, off, none⟩ : Addr) else some ⟨b, off + k * size, none⟩) = A' ∧ Sl w B size enc A' (l.drop k) := by
  by_cases hk : cap = k
  · refine ⟨some ⟨b, off, none⟩, by rw [if_pos hk], ?_⟩
    have : l.drop k = [] := List.drop_eq_nil_of_le (by omega)
    rw [this]
    exact Sl.nil_
  · exact ⟨_, by rw [if_neg hk], h.drop k⟩
end
theorem news_at {w : World} {n : Nat} (cs : Array Value) (t : TypeId) (l : List Value) (h : cs = l.toArray) (hn : n = w.heap.size) : ∀ (j : Nat) (u : Value), l[j]? = some u → (w.alloc (.cells cs t)).cell? ⟨n, j, none⟩ = some u := by subst hn; exact news_new w cs t l h
theorem openStep_refs {ref : Int} {out : List Entry} {e : Entry} (h : ∀ x ∈ out, x.ref = ref) : ∀ x ∈ openStep ref out e, x.ref = ref := by
  unfold openStep
  split
  · exact h
  · rename_i hr
    split
    · intro x hx
      exact h x (List.mem_of_mem_eraseIdx hx)
    · intro x hx
      rcases List.mem_append.1 hx with hx | hx
      · exact h x hx
      · simp at hx
        subst hx
        simpa using hr
theorem openE_refs (ref : Int) : ∀ (l : List Entry) (out : List Entry), (∀ x ∈ out, x.ref = ref) → ∀ x ∈ l.foldl (openStep ref) out, x.ref = ref
  | [], _, h => h
  | _ :: l, _, h => openE_refs ref l _ (openStep_refs h)
theorem openE_ref (l : List Entry) (ref : Int) : ∀ x ∈ openE l ref, x.ref = ref := openE_refs ref l [] (by simp)
theorem against3 {e x : Entry} {ref : Int} (he : e.ref = ref) (hx : x.ref = ref) : against e x = true ↔ (x.debit = e.credit ∧ x.credit = e.debit ∧ x.cents = e.cents) := by
  unfold against
  rw [decide_eq_true_eq, he, hx]
  constructor
  · rintro ⟨a, b, c, _⟩; exact ⟨b, a, c⟩
  · rintro ⟨a, b, c⟩; exact ⟨b, a, c, rfl⟩

end Go.Proofs.Ythnncojbckifnaa
