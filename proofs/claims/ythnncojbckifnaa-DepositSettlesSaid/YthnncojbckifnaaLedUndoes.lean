/-
  The law 'LedgerUndoes': the walk.
-/
import Derived.Test.YthnncojbckifnaaLedDays
import Derived.Test.YthnncojbckifnaaUndoP
namespace Go.Proofs.Ythnncojbckifnaa
set_option linter.unusedSimpArgs false
set_option linter.unusedVariables false
open Go.RowKit
open Go.Sort (grow size_grow)

set_option maxHeartbeats 4000000
set_option maxRecDepth 100000
theorem cell_alloc_at {w : World} {n : Nat} (h : w.heap.size = n) (cs : Array Value) (t : TypeId) (o : Nat) : (w.alloc (.cells cs t)).cell? ⟨n, o, none⟩ = cs[o]? := by
  subst h
  exact World.cell?_alloc_new _ _ _ _
theorem elemInt : Elem Try.prog 45 3 1 8 := elem_mk Try.underlying45 (by kernel_rfl)
theorem int_len (y : Int) : (intC y).length = 1 := rfl
theorem int_one (y : Int) : ∀ u ∈ intC y, u.oneCell' = true := by simp [intC, Value.oneCell']
def others (ref : Int) (l : List Entry) : List Entry := l.filter fun e => decide (e.ref ≠ ref)
theorem others_step {l : List Entry} {ref : Int} {j : Nat} (h : j < l.length) : others ref (l.take (j + 1)) = if l[j].ref = ref then others ref (l.take j) else others ref (l.take j) ++ [l[j]] := by
  unfold others
  rw [List.take_succ_eq_append_getElem h, List.filter_append]
  by_cases hd : l[j].ref = ref
  · rw [if_pos hd]; simp [hd]
  · rw [if_neg hd]; simp [hd]
end Go.Proofs.Ythnncojbckifnaa
