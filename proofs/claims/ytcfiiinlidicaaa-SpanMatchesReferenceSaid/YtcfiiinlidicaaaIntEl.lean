/-
  Integers as elements of a list that the function owns.
-/
import Derived.Test.YtcfiiinlidicaaaOwn
import Derived.Test.YtcfiiinlidicaaaEqs
namespace Go.Proofs.Ytcfiiinlidicaaa
set_option linter.unusedSimpArgs false
set_option linter.unusedVariables false
open Go.RowKit
set_option maxRecDepth 100000
theorem cell_alloc_at {w : World} {n : Nat} (h : w.heap.size = n) (cs : Array Value) (t : TypeId) (o : Nat) : (w.alloc (.cells cs t)).cell? ⟨n, o, none⟩ = cs[o]? := by
  subst h
  exact World.cell?_alloc_new _ _ _ _
theorem elemInt : Elem Try.prog 64 3 1 8 := elem_mk Try.underlying64 (by kernel_rfl)
theorem int_len (y : Int) : (intC y).length = 1 := rfl
theorem int_one (y : Int) : ∀ u ∈ intC y, u.oneCell' = true := by simp [intC, Value.oneCell']
end Go.Proofs.Ytcfiiinlidicaaa
