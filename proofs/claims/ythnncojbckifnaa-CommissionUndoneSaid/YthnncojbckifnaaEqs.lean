/-
  '==' on the structs and arrays of the program, as one Bool.
-/
import Derived.Test.YthnncojbckifnaaProg
import Derived.Test.YthnncojbckifnaaBase
namespace Go.Proofs.Ythnncojbckifnaa
set_option linter.unusedSimpArgs false
set_option linter.unusedVariables false
open Go.RowKit

theorem run_equalIn_arr2 (P : Program) (dp : Nat) (t e : TypeId) (k : IntKind) (a b c d : Int) (w : World) (ht : P.underlying t = some (.array 2 e)) (he : P.underlying e = some (.int k)) (hi : (P.info? e).map (·.size) = some 1) :
    (Op.equalIn (dp + 1 + 1) t (.agg #[.int k a, .int k b]) (.agg #[.int k c, .int k d])).run P w = .ok (decide (a = c) && decide (b = d)) w := by
  obtain ⟨i, h1, h2⟩ : ∃ i, P.info? e = some i ∧ i.size = 1 := by
    cases h : P.info? e with
    | none => simp [h] at hi
    | some i => exact ⟨i, rfl, by simpa [h] using hi⟩
  rw [Op.equalIn]
  by_cases e1 : a = c <;> by_cases e2 : b = d <;>
  simp [run_underlying ht, sizeOf, typeInfo, h1, h2, Std.Legacy.Range.forIn_eq_forIn_range', List.range', List.forIn_cons, part, isAgg, run_underlying he, e1, e2, run_equalIn_int _ _ _ _ _ _ _ he]

@[go_sem high] theorem run_eql_arr2 (a b c d : Int) (w : World) : (binOp .eql 69 (.agg #[.int .i64 a, .int .i64 b]) (.agg #[.int .i64 c, .int .i64 d])).run Try.prog w = .ok (.bool (decide (a = c) && decide (b = d))) w := by
  rw [run_eql_struct, run_equalIn_arr2 Try.prog 9998 69 3 .i64 a b c d w Try.underlying69 Try.underlying3 (by kernel_rfl)]
  rfl
@[go_sem high] theorem run_eql_fraction (a b c d : Int) (w : World) : (binOp .eql 101 (.agg #[.int .i64 a, .int .i64 b]) (.agg #[.int .i64 c, .int .i64 d])).run Try.prog w = .ok (.bool (decide (a = c) && decide (b = d))) w := by
  by_cases h1 : a = c <;> by_cases h2 : b = d <;> simp [go_sem, h1, h2]
@[go_sem high] theorem run_eql_entry (a b c d e a' b' c' d' e' : Int) (w : World) : (binOp .eql 63 (.agg #[.int .i64 a, .int .i64 b, .int .i64 c, .int .i64 d, .int .i64 e]) (.agg #[.int .i64 a', .int .i64 b', .int .i64 c', .int .i64 d', .int .i64 e'])).run Try.prog w = .ok (.bool (decide (a = a') && (decide (b = b') && (decide (c = c') && (decide (d = d') && decide (e = e')))))) w := by
  by_cases h1 : a = a' <;> by_cases h2 : b = b' <;> by_cases h3 : c = c' <;> by_cases h4 : d = d' <;> by_cases h5 : e = e' <;> simp [go_sem, h1, h2, h3, h4, h5]
@[go_sem high] theorem run_neq_entry (a b c d e a' b' c' d' e' : Int) (w : World) : (binOp .neq 63 (.agg #[.int .i64 a, .int .i64 b, .int .i64 c, .int .i64 d, .int .i64 e]) (.agg #[.int .i64 a', .int .i64 b', .int .i64 c', .int .i64 d', .int .i64 e'])).run Try.prog w = .ok (.bool (!(decide (a = a') && (decide (b = b') && (decide (c = c') && (decide (d = d') && decide (e = e'))))))) w := by
  by_cases h1 : a = a' <;> by_cases h2 : b = b' <;> by_cases h3 : c = c' <;> by_cases h4 : d = d' <;> by_cases h5 : e = e' <;> simp [go_sem, h1, h2, h3, h4, h5]
end Go.Proofs.Ythnncojbckifnaa
