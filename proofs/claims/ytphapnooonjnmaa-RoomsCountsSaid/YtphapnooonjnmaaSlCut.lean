/-
  Parts of a slice that reads as a list; an append to a full slice that came in.
-/
import Derived.Test.YtphapnooonjnmaaOwn
import Derived.ArgAppend
namespace Go.Proofs.Ytphapnooonjnmaa
set_option linter.unusedSimpArgs false
set_option linter.unusedVariables false
open Go.RowKit
section
variable {α : Type} {w : World} {B size : Nat} {enc : α → List Value} {A : Option Addr} {l : List α}
theorem Sl.drewN (h : Sl w B size enc A l) (n : Nat) : Sl (w.drewN n) B size enc A l := h
theorem Sl.take (h : Sl w B size enc A l) (k : Nat) : Sl w B size enc A (l.take k) := fun hne => by
  have hl : l ≠ [] := by rintro rfl; simp at hne
  obtain ⟨b, off, e, hb, hc⟩ := h hl
  refine ⟨b, off, e, hb, fun j hj r v hv => ?_⟩
  rw [List.length_take] at hj
  rw [List.getElem_take] at hv
  exact hc j (by omega) r v hv
theorem Sl.drop {b off : Nat} (h : Sl w B size enc (some ⟨b, off, none⟩) l) (k : Nat) : Sl w B size enc (some ⟨b, off + k * size, none⟩) (l.drop k) := fun hne => by
  have hl : l ≠ [] := by rintro rfl; simp at hne
  obtain ⟨b', off', e, hb, hc⟩ := h hl
  injection e with e
  injection e with e1 e2
  subst e1 e2
  refine ⟨b, off + k * size, rfl, hb, fun j hj r v hv => ?_⟩
  rw [List.length_drop] at hj
  rw [List.getElem_drop] at hv
  have := hc (k + j) (by omega) r v hv
  rw [show off + k * size + j * size + r = off + (k + j) * size + r by rw [Nat.add_mul]; omega]
  exact this
theorem Sl.cut {b off cap : Nat} (h : Sl w B size enc (some ⟨b, off, none⟩) l) (k : Nat) (hcap : l.length ≤ cap) : ∃ A', (if cap = k then some (⟨b, off, none⟩ : Addr) else some ⟨b, off + k * size, none⟩) = A' ∧ Sl w B size enc A' (l.drop k) := by
  by_cases hk : cap = k
  · refine ⟨some ⟨b, off, none⟩, by rw [if_pos hk], ?_⟩
    have : l.drop k = [] := List.drop_eq_nil_of_le (by omega)
    rw [this]
    exact Sl.nil_
  · exact ⟨_, by rw [if_neg hk], h.drop k⟩
theorem Sl.flat (h : Sl w B size enc A l) (he : ∀ x, (enc x).length = size) {ad : Addr} (hA : A = some ad) : ∀ j u, (l.flatMap enc)[j]? = some u → w.cell? (ad.add j) = some u := by
  intro j u hu
  obtain ⟨k, hk, r, rfl, hr, hu'⟩ := flat_at he hu
  obtain ⟨b, off, e0, _, hc⟩ := h.at_ hk
  rw [hA] at e0
  injection e0 with e0
  subst e0
  have e1 : (⟨b, off, none⟩ : Addr).add (k * size + r) = ⟨b, off + k * size + r, none⟩ := by unfold Addr.add; split <;> simp_all; omega
  rw [e1]
  exact hc r u hu'
end
section
variable {α : Type} {P : Program} (w : World)
/-- append of one element to a slice that came in and is full. -/
theorem step_push_full {ops : Array Oper} {o : Oper} {a : Act} {K : Act → World → Prop} {Q : Exit → Act → World → Prop} {E0 : Prop} (hgd : o.guard = none) (s x : Operand) (t e : TypeId)
    (ho : o.op = .call { callee := .builtin .append, args := #[s, x], argTypes := #[t, t] }) (size bytes : Nat) (enc : α → List Value)
    (E : Elem P t e size bytes) (he : ∀ y, (enc y).length = size) (hone : ∀ y, ∀ u ∈ enc y, u.oneCell' = true) (ad : Addr) (n : Nat) (L : List α) (hL : L.length = n) (hs : a.eval s = .slice (some ad) n n)
    (B : Nat) (hold : Sl w B size enc (some ad) L)
    (g c : Nat) (y : α) (hx : a.eval x = .slice (some ⟨g, 0, none⟩) 1 c) (hc : ∀ j u, (enc y)[j]? = some u → w.cell? ⟨g, j, none⟩ = some u)
    (hn : n ≤ 100000000) (hby : bytes ≤ 1000)
    (h : ∀ v' w', OwnL w' w.heap.size e size enc v' (L ++ [y]) → w.grownBy w' none → K (a.put o.dst v') w') :
    if Region.wanted o (yielded ops a.tmps) = true then Oper.wp P o a w K Q else E0 := by
  obtain ⟨ht, i, z, hi, hz, h1, h2, h3, h4⟩ := E
  have hw : Region.wanted o (yielded ops a.tmps) = true := by simp [Region.wanted, hgd]
  rw [if_pos hw]
  obtain ⟨v', w', hrun, r1, r2⟩ := run_append_arg_grows (P := P) w t o.type e i z size bytes ht hi hz h1 h2 h3 h4 ad n n (L.flatMap enc) (by rw [flat_len he, hL]) (hold.flat he rfl) ⟨g, 0, none⟩ 1 c (enc y) (by rw [he, Nat.one_mul])
    (fun j u hu => by
      have e1 : (⟨g, 0, none⟩ : Addr).add j = ⟨g, j, none⟩ := by unfold Addr.add; split <;> simp_all
      rw [e1]
      exact hc j u hu) (by omega) (by unfold maxLen; omega) (by have := Nat.mul_le_mul (show n + 1 ≤ 100000001 by omega) hby; omega)
  unfold Oper.wp execOp
  simp only [ho, resolve, invoke, builtin, Sem.run_bind, Sem.run_pure, Result.andThen_ok, List.map_toArray, List.map_cons, List.map_nil, hs, hx, hrun]
  refine h v' w' ?_ r2
  unfold OwnL
  rw [List.length_append, List.flatMap_append, List.flatMap_singleton, hL]
  exact r1
end
end Go.Proofs.Ytphapnooonjnmaa
