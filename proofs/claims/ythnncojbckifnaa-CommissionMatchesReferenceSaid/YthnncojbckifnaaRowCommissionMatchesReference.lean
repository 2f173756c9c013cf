/-
  The row of the law 'CommissionMatchesReference'.
-/
import Derived.Test.YthnncojbckifnaaFrame
import Derived.Test.YthnncojbckifnaaTwo
import Derived.Test.YthnncojbckifnaaComArgs
import Derived.Test.YthnncojbckifnaaLedHead
import Derived.Test.YthnncojbckifnaaComMatches
namespace Go.Proofs.Ythnncojbckifnaa.commissionMatchesReference
set_option linter.unusedSimpArgs false
set_option linter.unusedVariables false
open Go.ChangeShapes Go.WideShapes Go.ChangeAt Go.RowKit Go.Deep
set_option maxRecDepth 100000 in
theorem lifted (os : Os) (started : os.Started) (H : Type) (enc : TypeId × Value → H) :
    ReturnsInHanded {} Try.checked os 7 .any (Rows.commissionMatchesReferenceSpec.pre6 enc Try.prog Try.f7 Rows.commissionMatchesReferenceRow.domain false) (Rows.commissionMatchesReferenceSpec.post enc Try.prog Try.f7 false true false false) := by
  refine returnsInHanded_of_change_shaped (C := Try.checked) own_none started (by kernel_rfl) Try.func7
    (ChangeSpec.witness6 (enc := enc) (C := Try.checked) false ⟨#[], #[.agg #[.int .i64 0, .int .i64 0], .slice none 0 0, .int .i64 0, .slice none 0 0, .slice none 0 0], []⟩ 8 (by kernel_rfl) (by kernel_rfl) (by kernel_rfl) (by kernel_rfl)) ?_
  intro W base args ds gs before hval0 hW hcnd hwt _ _
  have hval : ∀ (j : Nat) t v, Try.f7.params[j]? = some t → args[j]? = some v → Value.okWide Try.prog W .any base t v := hval0
  have hW' := hW
  obtain ⟨p, q, hA0, hV, rfl, hfz, hnd⟩ := hW
  have hA : DataW.TrodAll enc Try.prog W 0 (fun _ => true) true Try.f7.params.toList args.toList ds p := hA0
  rw [Try.params7] at hA hval
  obtain ⟨v0, vs0, d0, ds0, p0, q0, hargs, rfl, rfl, h0, r0⟩ := trodAll_cons hA
  obtain ⟨v1, vs1, d1, ds1, p1, q1, rfl, rfl, rfl, h1, r1⟩ := trodAll_cons r0
  obtain ⟨v2, vs2, d2, ds2, p2, q2, rfl, rfl, rfl, h2, r2⟩ := trodAll_cons r1
  obtain ⟨v3, vs3, d3, ds3, p3, q3, rfl, rfl, rfl, h3, r3⟩ := trodAll_cons r2
  obtain ⟨v4, vs4, d4, ds4, p4, q4, rfl, rfl, rfl, h4, r4⟩ := trodAll_cons r3
  obtain ⟨rfl, rfl, rfl⟩ := trodAll_nil r4
  obtain rfl : args = #[v0, v1, v2, v3, v4] := by cases args; simp_all
  obtain ⟨a0, rfl⟩ := arg_rat (hval 0 43 v0 rfl rfl) h0
  obtain ⟨A1, a1, c1, rfl, hs1, hl1⟩ := arg_bills (hval 1 44 v1 rfl rfl) h1
  obtain ⟨a2, rfl, _, _, w2⟩ := open_int Try.underlying3 (hval 2 3 v2 rfl rfl) h2
  have b2 : -9223372036854775808 ≤ a2 ∧ a2 ≤ 9223372036854775807 := (wf_int_iff _ _).1 w2
  obtain ⟨A3, a3, c3, rfl, hs3, hl3⟩ := arg_intl (hval 3 45 v3 rfl rfl) h3
  obtain ⟨A4, a4, c4, rfl, hs4, hl4⟩ := arg_ents (hval 4 31 v4 rfl rfl) h4
  have hw4 : (DataW.weights Try.prog 31 d4).all (· ≤ reachBytes) = true := by
    rw [Try.params7] at hwt
    simp only [List.cons_append, List.nil_append, DataW.weightsEach, List.all_append, Bool.and_eq_true] at hwt
    exact hwt.2.2.2.2.1
  have hse0 := slice_reach (B := 40) Try.underlying31 (by kernel_rfl) (by omega) (slice_datum Try.underlying31 (hval 4 31 _ rfl rfl) h4 _ _ _ rfl) hw4
  refine (law_cmatches a0.1 a0.2 a1 A1 c1 a2 a3 A3 c3 a4 A4 c4 W hs1 hl1 b2.1 b2.2 hs3 hl3 hs4 hse0).mono fun e W' ⟨he, hb⟩ => ?_
  subst he
  exact ⟨_, rfl, law_post laid_out (by kernel_rfl) (by kernel_rfl) Try.underlying4 rfl rfl hW' hb⟩
theorem over : Rows.commissionMatchesReferenceRow.holds Try.pinned (OpenSpec.ofChange Rows.commissionMatchesReferenceSpec) :=
  OpenClaim.holds_of_wide 7 Try.f7 rfl rfl rfl rfl rfl rfl rfl ⟨rfl, rfl, rfl, rfl, rfl⟩ rfl rfl rfl rfl rfl (by kernel_rfl) Try.func7 (by kernel_rfl)
    (of_decide_eq_true (by kernel_rfl)) (by unfold Func.isWrapper; first | (rw [if_pos (by decide +kernel)]; kernel_rfl) | (rw [if_neg (by decide +kernel)]; exact ⟨rfl, rfl⟩))
    (fun os started H enc _ => lifted os started H enc)
theorem proved : Rows.CommissionMatchesReferenceSaid :=
  over
end Go.Proofs.Ythnncojbckifnaa.commissionMatchesReference
