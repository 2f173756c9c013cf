/-
  Contracts of the reference of package tax: all taxes of a bill; lists of integers that are the same.
-/
import Derived.Test.YthnncojbckifnaaTax4
namespace Go.Proofs.Ythnncojbckifnaa
set_option linter.unusedSimpArgs false
set_option linter.unusedVariables false
open Go.RowKit Go.Maps
open Go.Sort (grow size_grow)

set_option maxHeartbeats 2000000
set_option maxRecDepth 100000

theorem info_int : (Try.prog.info? 3).map (fun i => (i.zero, i.size, i.bytes)) = some (some (.int .i64 0), 1, 8) := by kernel_rfl
/-- What a list of integers, a number and an error hand back. -/
def Ret3 (r : List Int × Int × Int) (e : Ending) (w' : World) : Prop := ∃ A c, e = .returned (.tuple #[.slice A r.1.length c, .int .i64 r.2.1, .int .i64 r.2.2]) ∧ SlInt w' A r.1
theorem ret3_nil {r : List Int × Int × Int} {n er : Int} {w' : World} (h : r = ([], n, er)) : Ret3 r (.returned (.tuple #[.slice none 0 0, .int .i64 n, .int .i64 er])) w' := by
  subst h
  exact ⟨none, 0, rfl, Sl.nil_⟩

end Go.Proofs.Ythnncojbckifnaa
