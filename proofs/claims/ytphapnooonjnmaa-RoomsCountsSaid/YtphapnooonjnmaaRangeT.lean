/-
  A range over a function whose iterator writes cells of its own between two rounds: the border between the iterator and the rounds is drawn by the types of the blocks (T: what the iterator owns).
-/
import Derived.Test.YtphapnooonjnmaaIter
namespace Go.Proofs.Ytphapnooonjnmaa
set_option linter.unusedSimpArgs false
set_option linter.unusedVariables false
open Go.RowKit
def ownKind (T : TypeId → Bool) (o : Obj) : Bool := match o with | .cells _ t _ => T t | _ => false
theorem ownKind_no {T : TypeId → Bool} {o : Obj} (h : o.isCells = false) : ownKind T o = false := by cases o <;> first | rfl | (simp [Obj.isCells] at h)
/-- The iterator's word: it turns blocks of its types alone that lie at or beyond B. -/
structure Mild (T : TypeId → Bool) (B : Nat) (U U' : World) : Prop where
  os : U'.os = U.os
  tape : U'.tape = U.tape
  output : U'.output = U.output
  size : U.heap.size ≤ U'.heap.size
  keep : ∀ (k : Nat) (o : Obj), U.heap[k]? = some o → (k < B ∨ ownKind T o = false) → U'.heap[k]? = some o
theorem Mild.refl (T : TypeId → Bool) (B : Nat) (U : World) : Mild T B U U := ⟨rfl, rfl, rfl, Nat.le_refl _, fun _ _ h _ => h⟩
theorem Mild.trans {T : TypeId → Bool} {B : Nat} {U V W : World} (h : Mild T B U V) (k : Mild T B V W) : Mild T B U W :=
  ⟨k.os.trans h.os, k.tape.trans h.tape, k.output.trans h.output, Nat.le_trans h.size k.size, fun i o hi hb => k.keep i o (h.keep i o hi hb) hb⟩
theorem Mild.less {T : TypeId → Bool} {B B' : Nat} {U V : World} (h : Mild T B U V) (hB : B' ≤ B) : Mild T B' U V := ⟨h.os, h.tape, h.output, h.size, fun i o hi hb => h.keep i o hi (hb.imp (fun h => by omega) id)⟩
theorem Mild.alloc {T : TypeId → Bool} {B : Nat} {U V : World} (h : Mild T B U V) (o : Obj) : Mild T B U (V.alloc o) :=
  h.trans ⟨rfl, rfl, rfl, by simp, fun k o' hk _ => (Below.heap_alloc V o k (Array.getElem?_eq_some_iff.1 hk).1).trans hk⟩
theorem Mild.drew {T : TypeId → Bool} {B : Nat} {U V : World} (h : Mild T B U V) : Mild T B U V.drew := h.trans ⟨rfl, rfl, rfl, Nat.le_refl _, fun _ _ h _ => h⟩
theorem Mild.below {T : TypeId → Bool} {B : Nat} {U V W : World} (h : Mild T B U V) (hb : Below V.heap.size V W) : Mild T B U W :=
  h.trans ⟨hb.os, hb.tape, hb.output, hb.size, fun k o hk _ => (hb.block k (Array.getElem?_eq_some_iff.1 hk).1).trans hk⟩
theorem Mild.setCell {T : TypeId → Bool} {B : Nat} {U V : World} (h : Mild T B U V) {p : Addr} {o : Obj} (ho : V.heap[p.block]? = some o) (hT : ownKind T o = true) (hB : B ≤ p.block) (v : Value) : Mild T B U (V.setCell p v) :=
  h.trans ⟨rfl, rfl, rfl, by simp, fun k o' hk hb => (Below.heap_setCell V p v k (fun e => by
    subst e
    rw [ho] at hk
    cases hk
    rcases hb with hb | hb
    · omega
    · rw [hT] at hb; cases hb)).trans hk⟩
/-- The rounds' word: whatever is the iterator's lies as it lay. -/
def KeepT (T : TypeId → Bool) (U U' : World) : Prop := U.heap.size ≤ U'.heap.size ∧ ∀ (k : Nat) (o : Obj), U.heap[k]? = some o → ownKind T o = true → U'.heap[k]? = some o
theorem KeepT.refl (T : TypeId → Bool) (U : World) : KeepT T U U := ⟨Nat.le_refl _, fun _ _ h _ => h⟩
theorem KeepT.trans {T : TypeId → Bool} {U V W : World} (h : KeepT T U V) (k : KeepT T V W) : KeepT T U W := ⟨Nat.le_trans h.1 k.1, fun i o hi ho => k.2 i o (h.2 i o hi ho) ho⟩
theorem KeepT.putObj {T : TypeId → Bool} {U : World} {l : Nat} {o : Obj} (h : U.heap[l]? = some o) (ho : o.isCells = false) (o' : Obj) : KeepT T U (U.putObj l o') :=
  ⟨by simp [World.putObj], fun k x hk hx => (World.putObj_heap_other (fun e => by subst e; rw [h] at hk; cases hk; rw [ownKind_no ho] at hx; cases hx)).trans hk⟩
theorem KeepT.alloc {T : TypeId → Bool} {U V : World} (h : KeepT T U V) (o : Obj) : KeepT T U (V.alloc o) :=
  h.trans ⟨by simp, fun k o' hk _ => (Below.heap_alloc V o k (Array.getElem?_eq_some_iff.1 hk).1).trans hk⟩
theorem KeepT.drew {T : TypeId → Bool} {U V : World} (h : KeepT T U V) : KeepT T U V.drew := h
theorem KeepT.below {T : TypeId → Bool} {U V W : World} (h : KeepT T U V) (hb : Below V.heap.size V W) : KeepT T U W :=
  h.trans ⟨hb.size, fun k o hk _ => (hb.block k (Array.getElem?_eq_some_iff.1 hk).1).trans hk⟩
theorem KeepT.setCell {T : TypeId → Bool} {U V : World} (h : KeepT T U V) {p : Addr} {o : Obj} (ho : V.heap[p.block]? = some o) (hT : ownKind T o = false) (v : Value) : KeepT T U (V.setCell p v) :=
  h.trans ⟨by simp, fun k o' hk hb => (Below.heap_setCell V p v k (fun e => by
    subst e
    rw [ho] at hk
    cases hk
    rw [hT] at hb; cases hb)).trans hk⟩
theorem KeepT.grown {T : TypeId → Bool} {U V W : World} (h : KeepT T U V) {row : Option Nat} (hg : V.grownBy W row) (hr : ∀ r, row = some r → ∃ o : Obj, V.heap[r]? = some o ∧ ownKind T o = false) : KeepT T U W :=
  h.trans ⟨hg.size, fun k o hk ho => (hg.block k (Array.getElem?_eq_some_iff.1 hk).1 (fun e => by
    obtain ⟨o', h1, h2⟩ := hr k e.symm
    rw [hk] at h1
    cases h1
    rw [ho] at h2
    cases h2)).trans hk⟩
/-- An iterator that gives some xs with S xs, fewer than N, to whatever rounds. -/
def SeqT {α : Type} (T : TypeId → Bool) (F : Fence) (n : Nat) (P : Program) (g : Nat) (lb : Array Value) (encs : α → Array Value) (S : List α → Prop) (N : Nat) (w : World) : Prop :=
  ∀ (l : Nat) (J : List α → World → Prop) (W : World), Below w.heap.size w W → (∀ pre U U', J pre U → Mild T W.heap.size U U' → J pre U') →
    (∀ pre x U, J pre U → pre.length < N → YieldAt F (n - 1) P l (encs x) U fun e U' => e = .returned (.bool true) ∧ J (pre ++ [x]) U' ∧ KeepT T U U') →
    J [] W → CallsIn F n P g (#[.func (.yield l) #[] #[]] ++ lb) W fun e W' => (∃ v, e = .returned v) ∧ ∃ xs, S xs ∧ J xs W'
/-- How the body of a round ends. -/
def postT {α : Type} (T : TypeId → Bool) (I : List α → World → Prop) (xs : List α) (U : World) : Exit → Act → World → Prop
  | .normal, _, U' => KeepsOthers U U' ∧ KeepT T U U' ∧ I xs U'
  | _, _, _ => False
/-- The loop's record. -/
def recT (fn : FuncId) (a : Act) (ps : Array Tmp) (assign body : Code) (D : Nat) (st : LoopState) : Loop := { state := st, pending := none, fn, tmps := a.tmps, params := ps, assign, body, defers := D }
theorem wpIn_rangeFuncT {α : Type} {T : TypeId → Bool} {F : Fence} {n : Nat} {P : Program} {g : Operand} {ps : Array Tmp} {assign body : Code} {Q : Exit → Act → World → Prop} {a : Act} {w : World}
    (hro : F.round = none) (h1 : 1 ≤ n) {gf : Nat} {lb : Array Value} (hg : a.eval g = .func (.func gf) #[] lb) (hFg : F.fn gf) (eg : ∀ args w, (callFunc gf args).run P w = .ok (.enter gf args) w)
    {encs : α → Array Value} {S : List α → Prop} {N : Nat} (hseq : SeqT T F (n - 1) P gf lb encs S N w) (hps : ∀ x, (encs x).size = ps.size)
    (I : List α → World → Prop) (Ax : α → Act → World → Prop) (hI : ∀ pre U U', I pre U → Mild T w.heap.size U U' → I pre U')
    (hIl : ∀ pre U l r o', I pre U → w.heap.size ≤ l → U.heap[l]? = some (.loop r) → I pre (U.putObj l o'))
    (hAl : ∀ x a' U l r o', Ax x a' U → U.heap[l]? = some (.loop r) → Ax x a' (U.putObj l o')) (h0 : I [] w)
    (hassign : ∀ (l : Nat) (pre : List α) (x : α) (U : World) (K : Act → World → Prop), I pre U → (∀ a' U', KeepsOthers U U' → KeepT T U U' → I pre U' → Ax x a' U' → K a' U') →
      assign.wpIn (F.inRound l) (n - 1 - 1) P (Exit.then K (fun _ _ _ => False)) { tmps := (ps.zip (encs x)).foldl (fun t (p, v) => t.setIfInBounds p v) a.tmps, defers := [] } U)
    (hbody : ∀ (l : Nat) (pre : List α) (x : α) (a' : Act) (U : World), I pre U → Ax x a' U → pre.length < N → body.wpIn (F.inRound l) (n - 1 - 1) P (postT T I (pre ++ [x]) U) a' U)
    (hdone : ∀ (D : Nat) (xs : List α) (U : World), w.heap.size ≤ D → S xs → I xs U → U.heap[D]? = some (.deferred (some [])) → Q .normal { a with defers := { target := .collected D, args := #[] } :: a.defers } U) :
    (Code.rangeFunc g ps assign body).wpIn F n P Q a w := by
  refine wpIn_rangeFunc fun fn hfn => ?_
  rw [hro]
  obtain ⟨W1, hW1⟩ : ∃ W1, W1 = (w.alloc (.deferred (some []))).alloc (.loop (recT fn a ps assign body w.heap.size .ready)) := ⟨_, rfl⟩
  have hL : W1.heap[w.heap.size + 1]? = some (.loop (recT fn a ps assign body w.heap.size .ready)) := by
    rw [hW1]
    have := World.alloc_heap_new (w.alloc (.deferred (some []))) (.loop (recT fn a ps assign body w.heap.size .ready))
    rwa [World.size_alloc] at this
  have hD : W1.heap[w.heap.size]? = some (.deferred (some [])) := by
    rw [hW1]
    exact (Below.heap_alloc _ _ _ (by simp)).trans (World.alloc_heap_new w _)
  have hM : Mild T w.heap.size w W1 := by
    rw [hW1]
    exact ((Mild.refl T _ w).alloc _).alloc _
  have hB : Below w.heap.size w W1 := by
    rw [hW1]
    exact ((Below.refl _ w).alloc (Nat.le_refl _) _).alloc (by simp) _
  refine ⟨w.heap.size + 1, [{ target := .collected w.heap.size, args := #[] }], W1, { target := .fn (.func gf) lb, args := #[.func (.yield (w.heap.size + 1)) #[] #[]] }, W1, gf,
    #[.func (.yield (w.heap.size + 1)) #[] #[]] ++ lb, W1, ?_, ?_, ?_, ?_, fun _ => h1, ?_⟩
  · rw [hW1]; exact run_enterLoop_outer _ _ _ _ _
  · simp only [resolve, hg]
    simp [go_sem]
  · intro f' hf'
    simp [Target.leads] at hf'
    subst hf'
    exact hFg
  · simp [invoke, go_sem, eg]
  · refine (hseq (w.heap.size + 1) (fun pre U => I pre U ∧ U.heap[w.heap.size + 1]? = some (.loop (recT fn a ps assign body w.heap.size .ready)) ∧ U.heap[w.heap.size]? = some (.deferred (some []))) W1 hB
      (fun pre U U' h hm => ⟨hI pre U U' h.1 (hm.less hB.size), hm.keep _ _ h.2.1 (.inr rfl), hm.keep _ _ h.2.2 (.inr rfl)⟩) (fun pre x U h hlen => ?_) ⟨hI [] w W1 h0 hM, hL, hD⟩).mono ?_
    · obtain ⟨hi, hl, hd⟩ := h
      refine ⟨fn, _, assign, body, run_yield hl (by rw [hps]; rfl), roundIn_of_wpIn hfn ?_⟩
      refine hassign (w.heap.size + 1) pre x U _ hi fun a' U2 ho2 hk2 hi2 hax => ?_
      have hl2 := ho2.same _ _ hl rfl
      have hd2 := ho2.same _ _ hd rfl
      have hlt2 : w.heap.size + 1 < U2.heap.size := (Array.getElem?_eq_some_iff.1 hl2).1
      refine ⟨_, run_beginRound hl2 rfl, ?_⟩
      have hl3 : (U2.putObj (w.heap.size + 1) (.loop { recT fn a ps assign body w.heap.size .ready with state := .busy })).heap[w.heap.size + 1]? = some (.loop { recT fn a ps assign body w.heap.size .ready with state := .busy }) := World.putObj_heap_same hlt2
      have hd3 : (U2.putObj (w.heap.size + 1) (.loop { recT fn a ps assign body w.heap.size .ready with state := .busy })).heap[w.heap.size]? = some (.deferred (some [])) := (World.putObj_heap_other (by omega)).trans hd2
      have hk3 := KeepT.putObj (T := T) hl2 rfl (.loop { recT fn a ps assign body w.heap.size .ready with state := .busy })
      refine wpIn_mono (hbody (w.heap.size + 1) pre x a' _ (hIl pre U2 _ _ _ hi2 (by omega) hl2) (hAl x a' U2 _ _ _ hax hl2) hlen) ?_
      intro e a4 U4 h4
      cases e with
      | normal =>
        obtain ⟨ho4, hk4, hi4⟩ := h4
        have hl4 := ho4.same _ _ hl3 rfl
        have hd4 := ho4.same _ _ hd3 rfl
        have hlt4 : w.heap.size + 1 < U4.heap.size := (Array.getElem?_eq_some_iff.1 hl4).1
        refine ⟨_, _, run_endRound none hl4, rfl, ⟨hIl _ U4 _ _ _ hi4 (by omega) hl4, World.putObj_heap_same hlt4, (World.putObj_heap_other (by omega)).trans hd4⟩, ((hk2.trans hk3).trans hk4).trans (KeepT.putObj hl4 rfl _)⟩
      | _ => exact h4.elim
    · rintro e U ⟨⟨v, rfl⟩, xs, hS, hi, hl, hd⟩
      refine ⟨none, _, run_endLoop hl (by simp [recT]), ?_⟩
      exact hdone w.heap.size xs _ (Nat.le_refl _) hS (hIl xs U _ _ _ hi (by omega) hl) ((World.putObj_heap_other (by omega)).trans hd)
end Go.Proofs.Ytphapnooonjnmaa
