/-
  The row of the law 'SpanThree'.
-/
import Derived.Test.YtcfiiinlidicaaaFrame
import Derived.Test.YtcfiiinlidicaaaTwo
import Derived.Test.YtcfiiinlidicaaaSpArgs
import Derived.Test.YtcfiiinlidicaaaSpThree
namespace Go.Proofs.Ytcfiiinlidicaaa.spanThree
set_option linter.unusedSimpArgs false
set_option linter.unusedVariables false
open Go.ChangeShapes Go.WideShapes Go.ChangeAt Go.RowKit Go.Deep
set_option maxRecDepth 100000 in
theorem lifted (os : Os) (started : os.Started) (H : Type) (enc : TypeId × Value → H) :
    ReturnsInHanded {} Try.checked os 7 .any (Rows.spanThreeSpec.pre6 enc Try.prog Try.f7 Rows.spanThreeRow.domain false) (Rows.spanThreeSpec.post enc Try.prog Try.f7 false true false false) := by
  refine returnsInHanded_of_change_shaped (C := Try.checked) own_none started (by kernel_rfl) Try.func7
    (ChangeSpec.witness6 (enc := enc) (C := Try.checked) false ⟨#[], #[.slice none 0 0, .slice none 0 0, .slice none 0 0], []⟩ 8 (by kernel_rfl) (by kernel_rfl) (by kernel_rfl) (by kernel_rfl)) ?_
  intro W base args ds gs before hval0 hW hcnd hwt _ _
  have hval : ∀ (j : Nat) t v, Try.f7.params[j]? = some t → args[j]? = some v → Value.okWide Try.prog W .any base t v := hval0
  have hW' := hW
  obtain ⟨p, q, hA0, hV, rfl, hfz, hnd⟩ := hW
  have hA : DataW.TrodAll enc Try.prog W 0 (fun _ => true) true Try.f7.params.toList args.toList ds p := hA0
  rw [Try.params7] at hA hval
  obtain ⟨v0, vs0, d0, ds0, p0, q0, hargs, rfl, rfl, h0, r0⟩ := trodAll_cons hA
  obtain ⟨v1, vs1, d1, ds1, p1, q1, rfl, rfl, rfl, h1, r1⟩ := trodAll_cons r0
  obtain ⟨v2, vs2, d2, ds2, p2, q2, rfl, rfl, rfl, h2, r2⟩ := trodAll_cons r1
  obtain ⟨rfl, rfl, rfl⟩ := trodAll_nil r2
  obtain rfl : args = #[v0, v1, v2] := by cases args; simp_all
  obtain ⟨A0, a0, c0, rfl, hs0, hl0⟩ := arg_spans (hval 0 22 v0 rfl rfl) h0
  obtain ⟨A1, a1, c1, rfl, hs1, hl1⟩ := arg_spans (hval 1 22 v1 rfl rfl) h1
  obtain ⟨A2, a2, c2, rfl, hs2, hl2⟩ := arg_spans (hval 2 22 v2 rfl rfl) h2
  rw [Try.params7] at hwt
  simp only [List.cons_append, List.nil_append, DataW.weightsEach, List.all_append, Bool.and_eq_true] at hwt
  have hw0 : (DataW.weights Try.prog 22 d0).all (· ≤ reachBytes) = true := hwt.1
  have hz0 := slice_reach (B := 16) Try.underlying22 (by kernel_rfl) (by omega) (slice_datum Try.underlying22 (hval 0 22 _ rfl rfl) h0 _ _ _ rfl) hw0
  have hw1 : (DataW.weights Try.prog 22 d1).all (· ≤ reachBytes) = true := hwt.2.1
  have hz1 := slice_reach (B := 16) Try.underlying22 (by kernel_rfl) (by omega) (slice_datum Try.underlying22 (hval 1 22 _ rfl rfl) h1 _ _ _ rfl) hw1
  have hw2 : (DataW.weights Try.prog 22 d2).all (· ≤ reachBytes) = true := hwt.2.2.1
  have hz2 := slice_reach (B := 16) Try.underlying22 (by kernel_rfl) (by omega) (slice_datum Try.underlying22 (hval 2 22 _ rfl rfl) h2 _ _ _ rfl) hw2
  refine (law_three a0 a1 a2 A0 A1 A2 c0 c1 c2 W hs0 hs1 hs2 hz0 hz1 hz2).mono fun e W' ⟨he, hb⟩ => ?_
  subst he
  exact ⟨_, rfl, law_post laid_out (by kernel_rfl) (by kernel_rfl) Try.underlying4 rfl rfl hW' hb⟩
theorem over : Rows.spanThreeRow.holds Try.pinned (OpenSpec.ofChange Rows.spanThreeSpec) :=
  OpenClaim.holds_of_wide 7 Try.f7 rfl rfl rfl rfl rfl rfl rfl ⟨rfl, rfl, rfl, rfl, rfl⟩ rfl rfl rfl rfl rfl (by kernel_rfl) Try.func7 (by kernel_rfl)
    (of_decide_eq_true (by kernel_rfl)) (by unfold Func.isWrapper; first | (rw [if_pos (by decide +kernel)]; kernel_rfl) | (rw [if_neg (by decide +kernel)]; exact ⟨rfl, rfl⟩))
    (fun os started H enc _ => lifted os started H enc)
theorem proved : Rows.SpanThreeSaid :=
  over
end Go.Proofs.Ytcfiiinlidicaaa.spanThree
