/-
  A region that draws its order, inside a round of a range over a function: as outside of it, where no operation defers.
-/
import Derived.Test.YtphapnooonjnmaaOwn
import Derived.Test.YtphapnooonjnmaaIter
import Derived.OrdersIn
namespace Go.Proofs.Ytphapnooonjnmaa
set_option linter.unusedSimpArgs false
set_option linter.unusedVariables false
open Go.RowKit
def noDefer (ops : Array Oper) : Bool := ops.toList.all fun o => match o.op with | .defer _ => false | _ => true
theorem noDefer_at {ops : Array Oper} (h : noDefer ops = true) {i : Nat} {o : Oper} (ho : ops[i]? = some o) : ∀ c, o.op ≠ .defer c := by
  intro c e
  have hm : o ∈ ops.toList := by
    rw [← Array.getElem?_toList] at ho
    exact List.mem_of_getElem? ho
  have := List.all_eq_true.1 h o hm
  rw [e] at this
  cases this
theorem wpIn_round {F : Fence} {n l : Nat} {P : Program} {o : Oper} {a : Act} {w : World} {K : Act → World → Prop} {Q : Exit → Act → World → Prop} (hd : ∀ c, o.op ≠ .defer c) (h : o.wpIn F n P a w K Q) : o.wpIn (F.inRound l) n P a w K Q := by
  unfold Oper.wpIn at *
  refine ⟨h.1, ?_⟩
  have h2 := h.2
  rw [Oper.semAt_eq _ _ _ hd] at h2 ⊢
  generalize (execOp a.eval o).run P w = r at *
  cases r with
  | ok x w' => cases x <;> exact h2
  | halt x w' => cases x <;> exact h2
theorem wpAnyIn_round {F : Fence} {n l : Nat} {P : Program} {md : Region.Mode} {ops : Array Oper} {Q : Exit → Act → World → Prop} (hd : noDefer ops = true) : ∀ (fuel : Nat) (listed : Array Bool) (a : Act) (w : World),
    wpAnyIn F n P md ops Q fuel listed a w → wpAnyIn (F.inRound l) n P md ops Q fuel listed a w
  | 0, _, _, _, h => h
  | fuel + 1, listed, a, w, h => by
    refine ⟨h.1, fun i hi => ?_⟩
    have h2 := h.2 i hi
    unfold wpOpIn at *
    split
    · rename_i hn
      rw [hn] at h2
      exact wpAnyIn_round hd fuel _ _ _ h2
    · rename_i o ho
      rw [ho] at h2
      simp only at h2
      split
      · rename_i hw
        rw [if_pos hw] at h2
        exact wpIn_round (noDefer_at hd ho) (Oper.wpIn_mono (fun a w h => wpAnyIn_round hd fuel _ a w h) h2)
      · rename_i hw
        rw [if_neg hw] at h2
        exact ⟨h2.1, wpAnyIn_round hd fuel _ _ _ h2.2⟩
theorem region_round {F : Fence} {n l id : Nat} {P : Program} {ops : Array Oper} {Q : Exit → Act → World → Prop} {a : Act} {w : World} (hm : P.follows .mixedOrders = true) (hd : noDefer ops = true)
    (h : wpAnyIn F n P .any ops Q ops.size (Array.replicate ops.size false) a w.drew) : (Code.region id ops true).wpIn (F.inRound l) n P Q a w :=
  wpIn_region_any hm (wpAnyIn_round hd _ _ _ _ h)
/-- append, run ahead, as one step of a region that draws. -/
theorem stepIn_run {F : Fence} {n : Nat} {P : Program} {ops : Array Oper} {o : Oper} {a : Act} {w : World} {K : Act → World → Prop} {Q : Exit → Act → World → Prop} {E0 : Prop} (hg : o.guard = none) (s x : Operand) (t : TypeId)
    (ho : o.op = .call { callee := .builtin .append, args := #[s, x], argTypes := #[t, t] }) (v1 v2 v' : Value) (w' : World) (h1 : a.eval s = v1) (h2 : a.eval x = v2) (hrun : (Builtin.append_ #[t, t] o.type #[v1, v2]).run P w = .ok v' w') (hK : K (a.put o.dst v') w') :
    if Region.wanted o (yielded ops a.tmps) = true then Oper.wpIn F n P o a w K Q else E0 := by
  have hw : Region.wanted o (yielded ops a.tmps) = true := by simp [Region.wanted, hg]
  rw [if_pos hw]
  unfold Oper.wpIn
  refine ⟨by simp [Oper.about, ho, resolve, builtin, Target.leads], ?_⟩
  rw [Oper.semAt_eq _ _ _ (by rw [ho]; intro c e; cases e)]
  subst h1
  subst h2
  simp [execOp, ho, resolve, invoke, builtin, hrun, Result.andThen]
  exact hK
end Go.Proofs.Ytphapnooonjnmaa
