/-
  '==' on the structs and arrays of the program, as one Bool.
-/
import Derived.Test.YtphapnooonjnmaaProg
import Derived.Test.YtphapnooonjnmaaBase
namespace Go.Proofs.Ytphapnooonjnmaa
set_option linter.unusedSimpArgs false
set_option linter.unusedVariables false
open Go.RowKit

theorem run_equalIn_arr2 (P : Program) (dp : Nat) (t e : TypeId) (k : IntKind) (a b c d : Int) (w : World) (ht : P.underlying t = some (.array 2 e)) (he : P.underlying e = some (.int k)) (hi : (P.info? e).map (·.size) = some 1) :
    (Op.equalIn (dp + 1 + 1) t (.agg #[.int k a, .int k b]) (.agg #[.int k c, .int k d])).run P w = .ok (decide (a = c) && decide (b = d)) w := by
  obtain ⟨i, h1, h2⟩ : ∃ i, P.info? e = some i ∧ i.size = 1 := by
    cases h : P.info? e with
    | none => simp [h] at hi
    | some i => exact ⟨i, rfl, by simpa [h] using hi⟩
  rw [Op.equalIn]
  by_cases e1 : a = c <;> by_cases e2 : b = d <;>
  simp [run_underlying ht, sizeOf, typeInfo, h1, h2, Std.Legacy.Range.forIn_eq_forIn_range', List.range', List.forIn_cons, part, isAgg, run_underlying he, e1, e2, run_equalIn_int _ _ _ _ _ _ _ he]

end Go.Proofs.Ytphapnooonjnmaa
