/-
  The law 'LedgerMatchesReference': the walk.
-/
import Derived.Test.YthnncojbckifnaaLedHead
namespace Go.Proofs.Ythnncojbckifnaa
set_option linter.unusedSimpArgs false
set_option linter.unusedVariables false
open Go.RowKit
open Go.Sort (grow size_grow)

set_option maxHeartbeats 4000000
set_option maxRecDepth 100000

theorem postR_len (l : List Entry) (x : Entry) : (postR l x).1.length ≤ l.length + 1 := by
  rcases postR_cases l x with ⟨_, h⟩ | ⟨_, _, _, h⟩ | ⟨_, _, _, _, h⟩ | ⟨_, _, _, _, h⟩ <;> rw [h] <;> simp
theorem undoR_len (l : List Entry) (ref day : Int) : (undoR l ref day).1.length ≤ l.length + l.length := by
  have := openE_le l ref
  rcases undoR_cases l ref day with ⟨_, h⟩ | ⟨_, _, _, ⟨_, h⟩ | ⟨_, _, h⟩ | ⟨_, _, _, h⟩ | ⟨_, _, _, h⟩⟩ <;> rw [h] <;> simp
  omega
end Go.Proofs.Ythnncojbckifnaa
