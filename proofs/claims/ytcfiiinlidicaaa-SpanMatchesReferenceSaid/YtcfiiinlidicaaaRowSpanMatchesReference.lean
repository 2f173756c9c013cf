/-
  The row of the law 'SpanMatchesReference'.
-/
import Derived.Test.YtcfiiinlidicaaaFrame
import Derived.Test.YtcfiiinlidicaaaTwo
import Derived.Test.YtcfiiinlidicaaaSpArgs
import Derived.Test.YtcfiiinlidicaaaSpMatches
namespace Go.Proofs.Ytcfiiinlidicaaa.spanMatchesReference
set_option linter.unusedSimpArgs false
set_option linter.unusedVariables false
open Go.ChangeShapes Go.WideShapes Go.ChangeAt Go.RowKit Go.Deep
set_option maxRecDepth 100000 in
theorem lifted (os : Os) (started : os.Started) (H : Type) (enc : TypeId × Value → H) :
    ReturnsInHanded {} Try.checked os 3 .any (Rows.spanMatchesReferenceSpec.pre6 enc Try.prog Try.f3 Rows.spanMatchesReferenceRow.domain false) (Rows.spanMatchesReferenceSpec.post enc Try.prog Try.f3 false true false false) := by
  refine returnsInHanded_of_change_shaped (C := Try.checked) own_none started (by kernel_rfl) Try.func3
    (ChangeSpec.witness6 (enc := enc) (C := Try.checked) false ⟨#[], #[.slice none 0 0, .slice none 0 0, .int .i64 0], []⟩ 8 (by kernel_rfl) (by kernel_rfl) (by kernel_rfl) (by kernel_rfl)) ?_
  intro W base args ds gs before hval0 hW hcnd hwt _ _
  have hval : ∀ (j : Nat) t v, Try.f3.params[j]? = some t → args[j]? = some v → Value.okWide Try.prog W .any base t v := hval0
  have hW' := hW
  obtain ⟨p, q, hA0, hV, rfl, hfz, hnd⟩ := hW
  have hA : DataW.TrodAll enc Try.prog W 0 (fun _ => true) true Try.f3.params.toList args.toList ds p := hA0
  rw [Try.params3] at hA hval
  obtain ⟨v0, vs0, d0, ds0, p0, q0, hargs, rfl, rfl, h0, r0⟩ := trodAll_cons hA
  obtain ⟨v1, vs1, d1, ds1, p1, q1, rfl, rfl, rfl, h1, r1⟩ := trodAll_cons r0
  obtain ⟨v2, vs2, d2, ds2, p2, q2, rfl, rfl, rfl, h2, r2⟩ := trodAll_cons r1
  obtain ⟨rfl, rfl, rfl⟩ := trodAll_nil r2
  obtain rfl : args = #[v0, v1, v2] := by cases args; simp_all
  obtain ⟨A0, a0, c0, rfl, hs0, hl0⟩ := arg_spans (hval 0 22 v0 rfl rfl) h0
  obtain ⟨A1, a1, c1, rfl, hs1, hl1⟩ := arg_spans (hval 1 22 v1 rfl rfl) h1
  obtain ⟨a2, rfl, _, _, w2⟩ := open_int Try.underlying3 (hval 2 3 v2 rfl rfl) h2
  have b2 : -9223372036854775808 ≤ a2 ∧ a2 ≤ 9223372036854775807 := (wf_int_iff _ _).1 w2
  rw [Try.params3] at hwt
  simp only [List.cons_append, List.nil_append, DataW.weightsEach, List.all_append, Bool.and_eq_true] at hwt
  have hw0 : (DataW.weights Try.prog 22 d0).all (· ≤ reachBytes) = true := hwt.1
  have hz0 := slice_reach (B := 16) Try.underlying22 (by kernel_rfl) (by omega) (slice_datum Try.underlying22 (hval 0 22 _ rfl rfl) h0 _ _ _ rfl) hw0
  have hw1 : (DataW.weights Try.prog 22 d1).all (· ≤ reachBytes) = true := hwt.2.1
  have hz1 := slice_reach (B := 16) Try.underlying22 (by kernel_rfl) (by omega) (slice_datum Try.underlying22 (hval 1 22 _ rfl rfl) h1 _ _ _ rfl) hw1
  refine (law_spmatches a0 a1 A0 A1 c0 c1 a2 W hs0 hs1 hz0 hz1).mono fun e W' ⟨he, hb⟩ => ?_
  subst he
  exact ⟨_, rfl, law_post laid_out (by kernel_rfl) (by kernel_rfl) Try.underlying4 rfl rfl hW' hb⟩
theorem over : Rows.spanMatchesReferenceRow.holds Try.pinned (OpenSpec.ofChange Rows.spanMatchesReferenceSpec) :=
  OpenClaim.holds_of_wide 3 Try.f3 rfl rfl rfl rfl rfl rfl rfl ⟨rfl, rfl, rfl, rfl, rfl⟩ rfl rfl rfl rfl rfl (by kernel_rfl) Try.func3 (by kernel_rfl)
    (of_decide_eq_true (by kernel_rfl)) (by unfold Func.isWrapper; first | (rw [if_pos (by decide +kernel)]; kernel_rfl) | (rw [if_neg (by decide +kernel)]; exact ⟨rfl, rfl⟩))
    (fun os started H enc _ => lifted os started H enc)
theorem proved : Rows.SpanMatchesReferenceSaid :=
  over
end Go.Proofs.Ytcfiiinlidicaaa.spanMatchesReference
