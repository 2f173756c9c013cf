/-
  The row of the law 'RoomsBlocks'.
-/
import Derived.Test.YtphapnooonjnmaaFrame
import Derived.Test.YtphapnooonjnmaaTwo
import Derived.Test.YtphapnooonjnmaaRmArgs
import Derived.Test.YtphapnooonjnmaaRmBlocks
namespace Go.Proofs.Ytphapnooonjnmaa.roomsBlocks
set_option linter.unusedSimpArgs false
set_option linter.unusedVariables false
open Go.ChangeShapes Go.WideShapes Go.ChangeAt Go.RowKit Go.Deep
set_option maxRecDepth 100000 in
theorem lifted (os : Os) (started : os.Started) (H : Type) (enc : TypeId × Value → H) :
    ReturnsInHanded {} Try.checked os 4 .any (Rows.roomsBlocksSpec.pre6 enc Try.prog Try.f4 Rows.roomsBlocksRow.domain false) (Rows.roomsBlocksSpec.post enc Try.prog Try.f4 false true false false) := by
  refine returnsInHanded_of_change (C := Try.checked) own_none started (by kernel_rfl) Try.func4
    (ChangeSpec.witness6 (enc := enc) (C := Try.checked) false ⟨#[], #[.slice none 0 0, .int .u8 0, .agg #[.int .i64 0, .int .i64 0], .int .u16 0], []⟩ 8 (by kernel_rfl) (by kernel_rfl) (by kernel_rfl) (by kernel_rfl)) ?_
  intro W base args ds gs before hval0 hW hcnd _
  have hval : ∀ (j : Nat) t v, Try.f4.params[j]? = some t → args[j]? = some v → Value.okWide Try.prog W .any base t v := hval0
  have hW' := hW
  obtain ⟨p, q, hA0, hV, rfl, hfz, hnd⟩ := hW
  have hA : DataW.TrodAll enc Try.prog W 0 (fun _ => true) true Try.f4.params.toList args.toList ds p := hA0
  rw [Try.params4] at hA hval
  obtain ⟨v0, vs0, d0, ds0, p0, q0, hargs, rfl, rfl, h0, r0⟩ := trodAll_cons hA
  obtain ⟨v1, vs1, d1, ds1, p1, q1, rfl, rfl, rfl, h1, r1⟩ := trodAll_cons r0
  obtain ⟨v2, vs2, d2, ds2, p2, q2, rfl, rfl, rfl, h2, r2⟩ := trodAll_cons r1
  obtain ⟨v3, vs3, d3, ds3, p3, q3, rfl, rfl, rfl, h3, r3⟩ := trodAll_cons r2
  obtain ⟨rfl, rfl, rfl⟩ := trodAll_nil r3
  obtain rfl : args = #[v0, v1, v2, v3] := by cases args; simp_all
  obtain ⟨A0, a0, c0, rfl, hs0, hi0, hl0⟩ := arg_rooms (hval 0 22 v0 rfl rfl) h0
  have room0 := slice_room3 Try.underlying22 (hval 0 22 _ rfl rfl) h0 _ _ _ rfl
  obtain ⟨a1, rfl, _, _, w1⟩ := open_int Try.underlying5 (hval 1 5 v1 rfl rfl) h1
  have b1 : 0 ≤ a1 ∧ a1 ≤ 255 := (wf_int_iff _ _).1 w1
  obtain ⟨a2, rfl⟩ := arg_span1 (hval 2 27 v2 rfl rfl) h2
  obtain ⟨a3, rfl, _, _, w3⟩ := open_int Try.underlying41 (hval 3 41 v3 rfl rfl) h3
  have b3 : 0 ≤ a3 ∧ a3 ≤ 65535 := (wf_int_iff _ _).1 w3
  refine (law_rmblocks a0 A0 c0 a1 a2 a3 W hs0 hi0 b1.1 b1.2 b3.1 b3.2 room0.1).mono fun e W' ⟨he, hb⟩ => ?_
  subst he
  exact ⟨_, rfl, law_post laid_out (by kernel_rfl) (by kernel_rfl) Try.underlying4 rfl rfl hW' hb⟩
theorem over : Rows.roomsBlocksRow.holds Try.pinned (OpenSpec.ofChange Rows.roomsBlocksSpec) :=
  OpenClaim.holds_of_wide 4 Try.f4 rfl rfl rfl rfl rfl rfl rfl ⟨rfl, rfl, rfl, rfl, rfl⟩ rfl rfl rfl rfl rfl (by kernel_rfl) Try.func4 (by kernel_rfl)
    (of_decide_eq_true (by kernel_rfl)) (by unfold Func.isWrapper; first | (rw [if_pos (by decide +kernel)]; kernel_rfl) | (rw [if_neg (by decide +kernel)]; exact ⟨rfl, rfl⟩))
    (fun os started H enc _ => lifted os started H enc)
theorem proved : Rows.RoomsBlocksSaid :=
  over
end Go.Proofs.Ytphapnooonjnmaa.roomsBlocks
