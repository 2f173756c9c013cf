/-
  The laws of package span: their arguments.
-/
import Derived.Test.YtphapnooonjnmaaFrame
import Derived.Test.YtphapnooonjnmaaSpW1
import Derived.HandedShaped
namespace Go.Proofs.Ytphapnooonjnmaa
set_option linter.unusedSimpArgs false
set_option linter.unusedVariables false
open Go.ChangeShapes Go.WideShapes Go.ChangeAt Go.RowKit Go.Deep
set_option maxRecDepth 100000
theorem dec_spn (cs : List Value) (h : cs.length = 2) (hc : ∀ (i : Nat) (c : Value), cs[i]? = some c → isI64 c) : ∃ s : Spn, cs = s.cs := by
  match cs, h with
  | [a, b], _ =>
    obtain ⟨a, rfl, _⟩ := hc 0 _ rfl
    obtain ⟨b, rfl, _⟩ := hc 1 _ rfl
    exact ⟨⟨a, b⟩, rfl⟩
section
variable {H : Type} {enc : TypeId × Value → H} {w : World} {r : Reach} {b0 : Nat} {v : Value} {d : DataW H} {p : List MemPlace}
theorem arg_spans (hv : Value.okWide Try.prog w r b0 23 v) (h : DataW.Trod enc Try.prog w 0 (fun _ => true) true 23 v d p) : ∃ (A : Option Addr) (l : List Spn) (c : Nat), v = .slice A l.length c ∧ SlSpn w A l ∧ l.length ≤ maxLen :=
  open_slice_ints (n := 4) (size := 2) (code := Spn.cs) Try.underlying23 (by kernel_rfl) (by kernel_rfl) (by decide) dec_spn hv h
end
/-- The datum of a slice has as many elements as the slice. -/
theorem slice_datum {H : Type} {enc : TypeId × Value → H} {P : Program} {w : World} {spare : Nat → Bool} {held : Bool} {r : Reach} {b0 : Nat} {t e : TypeId} {v : Value} {d : DataW H} {p : List MemPlace} (hs : P.underlying t = some (.slice e)) (hv : Value.okWide P w r b0 t v) (h : DataW.Trod enc P w 0 spare held t v d p) :
    ∀ (A : Option Addr) (n c : Nat), v = .slice A n c → n = 0 ∨ ∃ el sp, d = .slice el sp ∧ el.length = n := by
  obtain ⟨a, len, cap, rfl⟩ := okWide_slice hs hv
  obtain ⟨fuel, hf⟩ := h
  intro A n c hA
  injection hA with e1 e2 e3
  subst e1 e2 e3
  rcases open_slice hs hf with ⟨h1, _⟩ | ⟨a', len', cap', m, n', D, Pl, h1, _, hlc, hcm, hm, hx, hel⟩
  · simp [Value.cells] at h1
    exact .inl h1.2.1
  · simp [Value.cells] at h1
    obtain ⟨rfl, rfl, rfl⟩ := h1
    injection hx with hx _
    exact .inr ⟨_, _, hx, by simp⟩
theorem slice_reach {H : Type} {P : Program} {t e : TypeId} {d : DataW H} {n B : Nat} (hs : P.underlying t = some (.slice e)) (hB : P.bytesOf e = B) (h1 : 1 ≤ B) (hd : n = 0 ∨ ∃ el sp, d = .slice el sp ∧ el.length = n) (hw : (DataW.weights P t d).all (· ≤ reachBytes) = true) : n ≤ 140737488355328 := by
  rcases hd with rfl | ⟨el, sp, rfl, rfl⟩
  · omega
  · unfold DataW.weights at hw
    rw [hs] at hw
    simp only [List.all_cons, Bool.and_eq_true, decide_eq_true_eq, hB] at hw
    have h2 := hw.1
    unfold reachBytes at h2
    have h3 : (el.length + sp.length) * 1 ≤ (el.length + sp.length) * B := Nat.mul_le_mul_left _ h1
    omega
end Go.Proofs.Ytphapnooonjnmaa
