/-
  The row of the law 'ReturnsCents'.
-/
import Derived.Test.YtmlhoojcdidgkaaGreatM14
import Derived.Test.YtmlhoojcdidgkaaGreatM26
import Derived.Test.YtmlhoojcdidgkaaGreatReCents
namespace Go.Proofs.YtmlhoojcdidgkaaGreat.returnsCents
set_option linter.unusedSimpArgs false
set_option linter.unusedVariables false
open Go.ChangeShapes Go.WideShapes Go.ChangeAt Go.RowKit Go.Deep
set_option maxRecDepth 100000 in
theorem lifted (os : Os) (started : os.Started) (H : Type) (enc : TypeId × Value → H) :
    ReturnsInHanded {} Tryz.checked os 6 .any (Rows.returnsCentsSpec.pre6 enc Tryz.prog Tryz.f6 Rows.returnsCentsRow.domain false) (Rows.returnsCentsSpec.post enc Tryz.prog Tryz.f6 false true false false) := by
  refine returnsInHanded_of_change (C := Tryz.checked) own_none started (by kernel_rfl) Tryz.func6
    (ChangeSpec.witness6 (enc := enc) (C := Tryz.checked) false ⟨#[], #[.slice none 0 0, .slice none 0 0, .agg #[.int .i64 0, .int .i64 0], .agg #[.int .i64 0, .int .i64 0, .int .i64 0, .int .i64 0], .slice none 0 0, .int .u8 0, .int .u8 0, .bool false], []⟩ 8 (by kernel_rfl) (by kernel_rfl) (by kernel_rfl) (by kernel_rfl)) ?_
  intro W base args ds gs before hval0 hW hcnd _
  have hval : ∀ (j : Nat) t v, Tryz.f6.params[j]? = some t → args[j]? = some v → Value.okWide Tryz.prog W .any base t v := hval0
  have hW' := hW
  obtain ⟨p, q, hA0, hV, rfl, hfz, hnd⟩ := hW
  have hA : DataW.TrodAll enc Tryz.prog W 0 (fun _ => true) true Tryz.f6.params.toList args.toList ds p := hA0
  rw [Tryz.params6] at hA hval
  obtain ⟨v0, vs0, d0, ds0, p0, q0, hargs, rfl, rfl, h0, r0⟩ := trodAll_cons hA
  obtain ⟨v1, vs1, d1, ds1, p1, q1, rfl, rfl, rfl, h1, r1⟩ := trodAll_cons r0
  obtain ⟨v2, vs2, d2, ds2, p2, q2, rfl, rfl, rfl, h2, r2⟩ := trodAll_cons r1
  obtain ⟨v3, vs3, d3, ds3, p3, q3, rfl, rfl, rfl, h3, r3⟩ := trodAll_cons r2
  obtain ⟨v4, vs4, d4, ds4, p4, q4, rfl, rfl, rfl, h4, r4⟩ := trodAll_cons r3
  obtain ⟨v5, vs5, d5, ds5, p5, q5, rfl, rfl, rfl, h5, r5⟩ := trodAll_cons r4
  obtain ⟨v6, vs6, d6, ds6, p6, q6, rfl, rfl, rfl, h6, r6⟩ := trodAll_cons r5
  obtain ⟨v7, vs7, d7, ds7, p7, q7, rfl, rfl, rfl, h7, r7⟩ := trodAll_cons r6
  obtain ⟨rfl, rfl, rfl⟩ := trodAll_nil r7
  obtain rfl : args = #[v0, v1, v2, v3, v4, v5, v6, v7] := by cases args; simp_all
  obtain ⟨A0, a0, c0, rfl, hs0, hl0⟩ := arg_bills (hval 0 22 v0 rfl rfl) h0
  obtain ⟨A1, a1, c1, rfl, hs1, hl1⟩ := arg_taxes (hval 1 23 v1 rfl rfl) h1
  obtain ⟨a2, rfl⟩ := arg_rat (hval 2 40 v2 rfl rfl) h2
  obtain ⟨a3, rfl⟩ := arg_con (hval 3 42 v3 rfl rfl) h3
  obtain ⟨A4, a4, c4, rfl, hs4, hd4⟩ := arg_deeds (hval 4 43 v4 rfl rfl) h4
  obtain ⟨a5, rfl, _, _, w5⟩ := open_int Tryz.underlying5 (hval 5 5 v5 rfl rfl) h5
  have b5 : 0 ≤ a5 ∧ a5 ≤ 255 := (wf_int_iff _ _).1 w5
  obtain ⟨a6, rfl, _, _, w6⟩ := open_int Tryz.underlying5 (hval 6 5 v6 rfl rfl) h6
  have b6 : 0 ≤ a6 ∧ a6 ≤ 255 := (wf_int_iff _ _).1 w6
  obtain ⟨a7, rfl, _⟩ := open_bool Tryz.underlying4 (hval 7 4 v7 rfl rfl) h7
  refine (law_cents ⟨a1, a2.1, a2.2, a3⟩ a0 a4 a5 a6 a7 A0 A1 A4 c0 c1 c4 W hs0 hs1 hs4 hd4 b5.1 b5.2 b6.1 b6.2).mono fun e W' ⟨he, hb⟩ => ?_
  subst he
  exact ⟨_, rfl, law_post laid_out (by kernel_rfl) (by kernel_rfl) Tryz.underlying4 rfl rfl hW' hb⟩
theorem over : Rows.returnsCentsRow.holds Tryz.pinned (OpenSpec.ofChange Rows.returnsCentsSpec) :=
  OpenClaim.holds_of_wide 6 Tryz.f6 rfl rfl rfl rfl rfl rfl rfl ⟨rfl, rfl, rfl, rfl, rfl⟩ rfl rfl rfl rfl rfl (by kernel_rfl) Tryz.func6 (by kernel_rfl)
    (of_decide_eq_true (by kernel_rfl)) (by unfold Func.isWrapper; first | (rw [if_pos (by decide +kernel)]; kernel_rfl) | (rw [if_neg (by decide +kernel)]; exact ⟨rfl, rfl⟩))
    (fun os started H enc _ => lifted os started H enc)
theorem proved : Rows.ReturnsCentsSaid :=
  over
end Go.Proofs.YtmlhoojcdidgkaaGreat.returnsCents
