/-
  Two copies of a struct, made by one statement whose order is open.
-/
import Derived.Test.YtphapnooonjnmaaBase
namespace Go.Proofs.Ytphapnooonjnmaa
set_option linter.unusedSimpArgs false
set_option linter.unusedVariables false
open Go.RowKit

/-- Two new blocks p and q, in either order, that hold cs and ds; nothing else has turned. -/
structure Two (w1 W : World) (p q : Nat) (cs ds : Array Value) : Prop where
  below : Below w1.heap.size w1 W
  size : W.heap.size = w1.heap.size + 1 + 1
  p1 : w1.heap.size ≤ p
  p2 : p < w1.heap.size + 1 + 1
  q1 : w1.heap.size ≤ q
  q2 : q < w1.heap.size + 1 + 1
  ne : p ≠ q
  cp : ∀ o, W.cell? ⟨p, o, none⟩ = cs[o]?
  cq : ∀ o, W.cell? ⟨q, o, none⟩ = ds[o]?
  fp : ∀ o, W.frozen? ⟨p, o, none⟩ = false
  fq : ∀ o, W.frozen? ⟨q, o, none⟩ = false
theorem Two.drew {w1 W : World} {p q : Nat} {cs ds : Array Value} (h : Two w1 W p q cs ds) : Two w1 W.drew p q cs ds :=
  ⟨Below.drew h.below, h.size, h.p1, h.p2, h.q1, h.q2, h.ne, h.cp, h.cq, h.fp, h.fq⟩
theorem two_pq (w1 : World) (cs ds : Array Value) (t t' : TypeId) : Two w1 ((w1.alloc (.cells cs t)).alloc (.cells ds t')).drew w1.heap.size (w1.heap.size + 1) cs ds := by
  refine Two.drew ⟨((Below.refl _ _).alloc (Nat.le_refl _) _).alloc (by simp) _, by simp, by omega, by omega, by omega, by omega, by omega, box_old (box_new w1 cs t) (by simp) _, ?_, ?_, ?_⟩
  · have h := box_new (w1.alloc (.cells cs t)) ds t'
    rw [World.size_alloc] at h
    exact h
  · intro o
    exact (World.frozen?_alloc_old _ _ ⟨w1.heap.size, o, none⟩ (by simp)).trans (World.frozen?_alloc_new w1 cs t o)
  · intro o
    have h := World.frozen?_alloc_new (w1.alloc (.cells cs t)) ds t' o
    rw [World.size_alloc] at h
    exact h
theorem two_qp (w1 : World) (cs ds : Array Value) (t t' : TypeId) : Two w1 ((w1.alloc (.cells ds t')).alloc (.cells cs t)).drew (w1.heap.size + 1) w1.heap.size cs ds := by
  have h := two_pq w1 ds cs t' t
  exact ⟨h.below, h.size, h.q1, h.q2, h.p1, h.p2, Ne.symm h.ne, h.cq, h.cp, h.fq, h.fp⟩
/-- A store into the first one, into the second one. -/
theorem Two.setP {w1 W : World} {p q : Nat} {cs ds : Array Value} (h : Two w1 W p q cs ds) {i : Nat} (hi : i < cs.size) (v : Value) : Two w1 (W.setCell ⟨p, i, none⟩ v) p q (cs.setIfInBounds i v) ds :=
  ⟨h.below.setCell h.p1 _, by simpa using h.size, h.p1, h.p2, h.q1, h.q2, h.ne, box_set h.cp hi v, box_far h.cq (p := ⟨p, i, none⟩) h.ne v, fun o => by rw [World.frozen?_setCell]; exact h.fp o, fun o => by rw [World.frozen?_setCell]; exact h.fq o⟩
theorem Two.setQ {w1 W : World} {p q : Nat} {cs ds : Array Value} (h : Two w1 W p q cs ds) {i : Nat} (hi : i < ds.size) (v : Value) : Two w1 (W.setCell ⟨q, i, none⟩ v) p q cs (ds.setIfInBounds i v) :=
  ⟨h.below.setCell h.q1 _, by simpa using h.size, h.p1, h.p2, h.q1, h.q2, h.ne, box_far h.cp (p := ⟨q, i, none⟩) (Ne.symm h.ne) v, box_set h.cq hi v, fun o => by rw [World.frozen?_setCell]; exact h.fp o, fun o => by rw [World.frozen?_setCell]; exact h.fq o⟩
theorem wf_int_iff (k : IntKind) (n : Int) : (Lit.int k n).wf = true ↔ k.min ≤ n ∧ n ≤ k.max := by simp [Lit.wf]
end Go.Proofs.Ytphapnooonjnmaa
