/-
  Plain helpers for ranges over functions. No program's number stands here.
-/
import Derived.RangeFuncNested
import Derived.RangeFuncBound
import Derived.RangeFuncCalls
import Derived.RangeFuncLeaves
import Derived.RangeFuncBox
import Derived.Shelf.Abstract
import Derived.Shelf.RegionOpen
import Derived.OwnWalkIn
import Derived.TacticsInMore
import Derived.LoopNIn
import Derived.LoopIn
import Derived.Maps.OwnIn
import Derived.Test.YtphapnooonjnmaaBase
namespace Go.Proofs.Ytphapnooonjnmaa
set_option linter.unusedSimpArgs false
set_option linter.unusedVariables false
open Go.RowKit

/-- The blocks of X lie as they lay. -/
def KeepOn (X : Nat → Prop) (A B : World) : Prop := ∀ k, X k → B.heap[k]? = A.heap[k]?
theorem KeepOn.refl (X : Nat → Prop) (A : World) : KeepOn X A A := fun _ _ => rfl
theorem KeepOn.trans {X : Nat → Prop} {A B C : World} (h : KeepOn X A B) (k : KeepOn X B C) : KeepOn X A C := fun i hi => (k i hi).trans (h i hi)
theorem KeepOn.cell {X : Nat → Prop} {A B : World} (h : KeepOn X A B) {p : Addr} (hp : X p.block) : B.cell? p = A.cell? p := World.cell?_of_block (h _ hp)
theorem KeepOn.below {X : Nat → Prop} {A B : World} {n : Nat} (h : Below n A B) (hX : ∀ k, X k → k < n) : KeepOn X A B := fun k hk => h.block k (hX k hk)
theorem KeepOn.alloc {X : Nat → Prop} {A B : World} (h : KeepOn X A B) (hX : ∀ k, X k → k < B.heap.size) (o : Obj) : KeepOn X A (B.alloc o) :=
  h.trans fun k hk => Below.heap_alloc B o k (hX k hk)
theorem KeepOn.setCell {X : Nat → Prop} {A B : World} (h : KeepOn X A B) {p : Addr} (hp : ¬ X p.block) (v : Value) : KeepOn X A (B.setCell p v) :=
  h.trans fun k hk => Below.heap_setCell B p v k (fun e => hp (e ▸ hk))
theorem KeepOn.grown {X : Nat → Prop} {A B C : World} {row : Option Nat} (h : KeepOn X A B) (hX : ∀ k, X k → k < B.heap.size) (hg : B.grownBy C row) (hr : ∀ k, row = some k → ¬ X k) : KeepOn X A C :=
  h.trans fun k hk => hg.block k (hX k hk) (fun e => hr k e.symm hk)
theorem keepOn_t {X : Nat → Prop} {A B C : World} (h : KeepOn X A B) (k : KeepOn X B C) : KeepOn X A C := h.trans k
theorem keepOn_b {X : Nat → Prop} {w : World} (hX : ∀ k, X k → k < w.heap.size) (W : World) (l : Nat) (o o' : Obj) (hl : w.heap.size ≤ l) (_ : W.heap[l]? = some o) (_ : o.isCells = false) (_ : o.isWalk = false) : KeepOn X W (W.putObj l o') :=
  fun k hk => World.putObj_heap_other (by have := hX k hk; omega)
theorem abides_none {β : Type} {B : Nat} {J : β → World → Prop} (h : AbidesFrom B J) {s : β} {W W' : World} (hs : J s W) (hg : W.grownBy W' none) : J s W' := h s W W' none hs hg (fun r e => by cases e)
theorem abides_below {β : Type} {B : Nat} {J : β → World → Prop} (h : AbidesFrom B J) {s : β} {W W' : World} (hs : J s W) (hb : Below W.heap.size W W') : J s W' := abides_none h hs (grownBy_below hb none)
theorem abides_alloc {β : Type} {B : Nat} {J : β → World → Prop} (h : AbidesFrom B J) {s : β} {W : World} (hs : J s W) (o : Obj) : J s (W.alloc o) := abides_none h hs (World.grownBy_alloc W o none)

theorem Sl.keepOn {α : Type} {W W' : World} {B size : Nat} {enc : α → List Value} {A : Option Addr} {l : List α} {X : Nat → Prop} (h : Sl W B size enc A l) (hk : KeepOn X W W') (hX : l ≠ [] → ∀ b off, A = some ⟨b, off, none⟩ → X b) : Sl W' B size enc A l := fun hl => by
  obtain ⟨b, off, e, hlt, hc⟩ := h hl
  exact ⟨b, off, e, hlt, fun k hk' j v hv => (hk.cell (p := ⟨b, _, none⟩) (hX hl b off e)).trans (hc k hk' j v hv)⟩
theorem row_keptN {w w' : World} {base : Nat} {e : TypeId} {size : Nat} {v : Value} {n : Nat} {xs : List Value} {row : Option Nat} (h : w.ownsRow base e size v n xs) (hg : w.grownBy w' row)
    (hr : ∀ r, row = some r → ∃ o : Obj, w.heap[r]? = some o ∧ o.isCells = false) : w'.ownsRow base e size v n xs := by
  refine h.kept hg ?_
  cases hv : v.ownBlock with
  | none => exact .inl rfl
  | some k =>
    refine .inr fun e' => ?_
    obtain ⟨o, ho, hc⟩ := hr k e'.symm
    rcases h.2 with ⟨rfl, _⟩ | ⟨g, cap, cur, rfl, _, hg', _⟩
    · simp [Value.ownBlock] at hv
    · have : g = k := by simpa [Value.ownBlock] using hv
      subst this
      rw [hg'] at ho
      cases ho
      simp [Obj.isCells] at hc
theorem size_keptN {w w' : World} {row : Option Nat} {n : Nat} (h : n ≤ w.heap.size) (hg : w.grownBy w' row) : n ≤ w'.heap.size := Nat.le_trans h hg.size
theorem cells_of_row {w : World} {base : Nat} {e : TypeId} {size : Nat} {v : Value} {n : Nat} {xs : List Value} (h : w.ownsRow base e size v n xs) {k : Nat} (hk : v.ownBlock = some k) {o : Obj} (ho : w.heap[k]? = some o) : o.isCells = true := by
  rcases h.2 with ⟨rfl, _⟩ | ⟨g, cap, cur, rfl, _, hg', _⟩
  · simp [Value.ownBlock] at hk
  · have : g = k := by simpa [Value.ownBlock] using hk
    subst this
    rw [hg'] at ho
    cases ho
    rfl
theorem isCells_of_cell {W : World} {a : Addr} {v : Value} (h : W.cell? a = some v) {o : Obj} (ho : W.heap[a.block]? = some o) : o.isCells = true := by
  obtain ⟨o', ho', hc⟩ := cells_of_cell h
  rw [ho] at ho'
  cases ho'
  exact hc
end Go.Proofs.Ytphapnooonjnmaa
