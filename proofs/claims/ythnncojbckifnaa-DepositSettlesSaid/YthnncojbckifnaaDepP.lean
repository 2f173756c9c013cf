/-
  Package deposit: the plain entries of a refund.
-/
import Derived.Test.YthnncojbckifnaaDep1
import Derived.Test.YthnncojbckifnaaLed12
namespace Go.Proofs.Ythnncojbckifnaa
set_option linter.unusedSimpArgs false
set_option linter.unusedVariables false

def keptE (b : Bill) (kept day : Int) : Entry := ⟨day, 500 + b.stay % 100, 300 + b.place, kept, b.stay⟩
def backE (b : Bill) (back day : Int) : Entry := ⟨day, 500 + b.stay % 100, 900, back, b.stay⟩
def entriesL (b : Bill) (back kept day : Int) : List Entry := (if 0 < kept then [keptE b kept day] else []) ++ (if 0 < back then [backE b back day] else [])
def entriesR (b : Bill) (paid day : Int) : List Entry × Int :=
  if (!b.ok || !amt paid || !inB day 0 366) = true then ([], 1) else (entriesL b (paid - min paid b.keep) (min paid b.keep) day, 0)
theorem entriesR_no {b : Bill} {paid day : Int} (h : (!b.ok || !amt paid || !inB day 0 366) = true) : entriesR b paid day = ([], 1) := by unfold entriesR; rw [if_pos h]
theorem entriesR_ok {b : Bill} {paid day : Int} (h1 : b.ok = true) (h2 : amt paid = true) (h3 : inB day 0 366 = true) : entriesR b paid day = (entriesL b (paid - min paid b.keep) (min paid b.keep) day, 0) := by unfold entriesR; rw [h1, h2, h3]; rfl
end Go.Proofs.Ythnncojbckifnaa
