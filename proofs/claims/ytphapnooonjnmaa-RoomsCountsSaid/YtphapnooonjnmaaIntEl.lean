/-
  Integers as elements of a list that the function owns.
-/
import Derived.Test.YtphapnooonjnmaaOwn
import Derived.Test.YtphapnooonjnmaaEqs
namespace Go.Proofs.Ytphapnooonjnmaa
set_option linter.unusedSimpArgs false
set_option linter.unusedVariables false
open Go.RowKit
set_option maxRecDepth 100000
theorem cell_alloc_at {w : World} {n : Nat} (h : w.heap.size = n) (cs : Array Value) (t : TypeId) (o : Nat) : (w.alloc (.cells cs t)).cell? ⟨n, o, none⟩ = cs[o]? := by
  subst h
  exact World.cell?_alloc_new _ _ _ _
theorem int_len (y : Int) : (intC y).length = 1 := rfl
theorem int_one (y : Int) : ∀ u ∈ intC y, u.oneCell' = true := by simp [intC, Value.oneCell']
end Go.Proofs.Ytphapnooonjnmaa
