/-
  The laws of package tax: the head that each of them calls.
-/
import Derived.Test.YthnncojbckifnaaTax7
import Derived.Deep.RegionHeld3
import Derived.Deep.DeepCutAuto
namespace Go.Proofs.Ythnncojbckifnaa
set_option linter.unusedSimpArgs false
set_option linter.unusedVariables false
open Go.RowKit Go.Maps
open Go.Sort (grow size_grow)

set_option maxHeartbeats 4000000
set_option maxRecDepth 100000

def exBill : Bill := ⟨1, 0, 4, 1, 5, 8, 2, 30000, 0⟩
def taxA (t : Tax) : Array Value := #[.int .i64 t.id, .int .i64 t.place, .int .i64 t.night, .int .i64 t.n, .int .i64 t.d, .int .i64 t.first, .int .i64 t.round]
/-- Where the head's taxes lie, once three of them have been copied. -/
structure HeadAt (w : World) (b4 b5 b6 : Nat) (W : World) : Prop where
  below : Below w.heap.size w W
  size : w.heap.size + 6 ≤ W.heap.size
  l4 : w.heap.size + 3 ≤ b4 ∧ b4 < w.heap.size + 6
  l5 : w.heap.size + 3 ≤ b5 ∧ b5 < w.heap.size + 6
  l6 : w.heap.size + 3 ≤ b6 ∧ b6 < w.heap.size + 6
  n45 : b4 ≠ b5
  n46 : b4 ≠ b6
  n56 : b5 ≠ b6
  c1 : ∀ o, W.cell? ⟨w.heap.size, o, none⟩ = (#[Value.int .i64 1, .int .i64 4, .int .i64 200, .int .i64 0, .int .i64 1, .int .i64 0, .int .i64 1] : Array Value)[o]?
  c2 : ∀ o, W.cell? ⟨w.heap.size + 1, o, none⟩ = (#[Value.int .i64 2, .int .i64 4, .int .i64 0, .int .i64 7, .int .i64 100, .int .i64 0, .int .i64 1] : Array Value)[o]?
  c3 : ∀ o, W.cell? ⟨w.heap.size + 1 + 1, o, none⟩ = (#[Value.int .i64 3, .int .i64 4, .int .i64 0, .int .i64 1, .int .i64 3, .int .i64 2, .int .i64 2] : Array Value)[o]?
  c4 : ∀ o, W.cell? ⟨b4, o, none⟩ = (#[Value.int .i64 3, .int .i64 4, .int .i64 0, .int .i64 1, .int .i64 3, .int .i64 2, .int .i64 2] : Array Value)[o]?
  c5 : ∀ o, W.cell? ⟨b5, o, none⟩ = (#[Value.int .i64 3, .int .i64 4, .int .i64 0, .int .i64 1, .int .i64 3, .int .i64 2, .int .i64 2] : Array Value)[o]?
  c6 : ∀ o, W.cell? ⟨b6, o, none⟩ = (#[Value.int .i64 2, .int .i64 4, .int .i64 0, .int .i64 7, .int .i64 100, .int .i64 0, .int .i64 1] : Array Value)[o]?
  f4 : ∀ o, W.frozen? ⟨b4, o, none⟩ = false
  f5 : ∀ o, W.frozen? ⟨b5, o, none⟩ = false
  f6 : ∀ o, W.frozen? ⟨b6, o, none⟩ = false
theorem headAt_drew {w W : World} {b4 b5 b6 : Nat} (h : HeadAt w b4 b5 b6 W) : HeadAt w b4 b5 b6 W.drew :=
  ⟨Below.drew h.below, h.size, h.l4, h.l5, h.l6, h.n45, h.n46, h.n56, h.c1, h.c2, h.c3, h.c4, h.c5, h.c6, h.f4, h.f5, h.f6⟩
theorem box_at {w : World} {n : Nat} (cs : Array Value) (t : TypeId) (hn : n = w.heap.size) : ∀ o, (w.alloc (.cells cs t)).cell? ⟨n, o, none⟩ = cs[o]? := by subst hn; exact box_new w cs t
theorem fr_at {w : World} {n : Nat} (cs : Array Value) (t : TypeId) (hn : n = w.heap.size) : ∀ o, (w.alloc (.cells cs t)).frozen? ⟨n, o, none⟩ = false := by subst hn; intro o; exact World.frozen?_alloc_new w cs t o
theorem fr_old {w : World} {n : Nat} (h : ∀ o, w.frozen? ⟨n, o, none⟩ = false) (hn : n < w.heap.size) (x : Obj) : ∀ o, (w.alloc x).frozen? ⟨n, o, none⟩ = false := fun o => (World.frozen?_alloc_old w x ⟨n, o, none⟩ (by simp only; omega)).trans (h o)
def tNight : Tax := ⟨1, 4, 200, 0, 1, 0, 1⟩
def tPart : Tax := ⟨2, 4, 0, 7, 100, 0, 1⟩
def tThird : Tax := ⟨3, 4, 0, 1, 3, 2, 2⟩
def tEven : Tax := ⟨3, 4, 0, 1, 3, 2, 3⟩
def tDown : Tax := ⟨3, 4, 0, 1, 3, 2, 1⟩
def tFar : Tax := ⟨9, 5, 0, 7, 100, 0, 1⟩
def tZero : Tax := ⟨0, 0, 0, 0, 0, 0, 0⟩
theorem oc1 (w : World) : Calls Try.prog 109 #[tNight.v, exBill.v] w fun e w' => e = .returned (.tuple #[.int .i64 1200, .int .i64 0]) ∧ Below w.heap.size w w' := by
  have h : one tNight exBill = (1200, 0) := by decide +kernel
  have := one_any tNight exBill w
  rw [h] at this
  exact this
theorem oc2 (w : World) : Calls Try.prog 109 #[tPart.v, exBill.v] w fun e w' => e = .returned (.tuple #[.int .i64 2100, .int .i64 0]) ∧ Below w.heap.size w w' := by
  have h : one tPart exBill = (2100, 0) := by decide +kernel
  have := one_any tPart exBill w
  rw [h] at this
  exact this
theorem oc3 (w : World) : Calls Try.prog 109 #[tThird.v, exBill.v] w fun e w' => e = .returned (.tuple #[.int .i64 6667, .int .i64 0]) ∧ Below w.heap.size w w' := by
  have h : one tThird exBill = (6667, 0) := by decide +kernel
  have := one_any tThird exBill w
  rw [h] at this
  exact this
theorem oc4 (w : World) : Calls Try.prog 109 #[tEven.v, exBill.v] w fun e w' => e = .returned (.tuple #[.int .i64 6667, .int .i64 0]) ∧ Below w.heap.size w w' := by
  have h : one tEven exBill = (6667, 0) := by decide +kernel
  have := one_any tEven exBill w
  rw [h] at this
  exact this
theorem oc5 (w : World) : Calls Try.prog 109 #[tDown.v, exBill.v] w fun e w' => e = .returned (.tuple #[.int .i64 6666, .int .i64 0]) ∧ Below w.heap.size w w' := by
  have h : one tDown exBill = (6666, 0) := by decide +kernel
  have := one_any tDown exBill w
  rw [h] at this
  exact this
theorem oc6 (w : World) : Calls Try.prog 109 #[tZero.v, exBill.v] w fun e w' => e = .returned (.tuple #[.int .i64 0, .int .i64 1]) ∧ Below w.heap.size w w' := by
  have h : one tZero exBill = (0, 1) := by decide +kernel
  have := one_any tZero exBill w
  rw [h] at this
  exact this

def headCells : Array Value := #[.int .i64 1, .int .i64 4, .int .i64 200, .int .i64 0, .int .i64 1, .int .i64 0, .int .i64 1, .int .i64 9, .int .i64 5, .int .i64 0, .int .i64 7, .int .i64 100, .int .i64 0, .int .i64 1, .int .i64 2, .int .i64 4, .int .i64 0, .int .i64 7, .int .i64 100, .int .i64 0, .int .i64 1]
theorem headSl (W : World) : SlTax (W.alloc (.cells headCells 125)) (some ⟨W.heap.size, 0, none⟩) [tNight, tFar, tPart] :=
  sl_of_box (cs := headCells) (fun _ => rfl) (fun o => World.cell?_alloc_new W headCells 125 o) (by simp) rfl
theorem headSl2 {W wx : World} (h : Below (W.alloc (.cells headCells 125)).heap.size (W.alloc (.cells headCells 125)) wx) : SlTax wx (some ⟨W.heap.size, 0, none⟩) [tNight, tFar, tPart] :=
  ((headSl W).below h).more h.size
theorem headSl3 {W wx : World} (h : Below (W.alloc (.cells headCells 125)).heap.size (W.alloc (.cells headCells 125)).drew wx) : SlTax wx (some ⟨W.heap.size, 0, none⟩) [tNight, tFar, tPart] :=
  headSl2 ⟨h.os, h.tape, h.output, h.size, h.block⟩
theorem headAll (A : Option Addr) (c : Nat) (w : World) (h : SlTax w A [tNight, tFar, tPart]) :
    Calls Try.prog 70 #[.slice A 3 c, exBill.v] w fun e w' => ∃ A' c', e = .returned (.tuple #[.slice A' 3 c', .int .i64 3300, .int .i64 0]) ∧ SlInt w' A' [1200, 0, 2100] ∧ Below w.heap.size w w' := by
  have h1 : allT [tNight, tFar, tPart] exBill = ([1200, 0, 2100], 3300, 0) := by decide +kernel
  refine (tall_any [tNight, tFar, tPart] exBill A c w h (by decide)).mono ?_
  rintro e w' ⟨⟨A', c', he, hs⟩, hb⟩
  rw [h1] at he hs
  exact ⟨A', c', he, hs, hb⟩

end Go.Proofs.Ythnncojbckifnaa
