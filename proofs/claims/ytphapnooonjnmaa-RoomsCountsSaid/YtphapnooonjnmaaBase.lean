/-
  Plain helpers for walks: frames of worlds, slices that read as lists, regions whose callees make memory. No program's number stands here.
-/
import Derived.WalkKit
import Derived.Outline
import Derived.Deep.QuietTactic
import Derived.BigQuiet
import Derived.Laws.EntriesVeiled
import Derived.Lib.QuietBelow
import Derived.Lib.Hide
import Derived.Deep.LoopGhost
import Derived.Maps.Own
import Derived.Maps.OwnOps
import Derived.Maps.OwnSet
import Derived.Maps.AppendAt
import Derived.Deep.AppendLies
namespace Go.Proofs.Ytphapnooonjnmaa
set_option linter.unusedSimpArgs false
set_option linter.unusedVariables false
open Go.RowKit
open Go.Sort (grow size_grow)

theorem ret_int {k : IntKind} {a b : Int} (h : a = b) : Ending.returned (.int k a) = .returned (.int k b) := by rw [h]
theorem ret_bool {a b : Bool} (h : a = b) : Ending.returned (.bool a) = .returned (.bool b) := by rw [h]

/-! ### Old cells behind 'Below' -/
theorem bcell {W w1 : World} (hb : Below W.heap.size W w1) : (∀ b o, b < W.heap.size → w1.cell? ⟨b, o, none⟩ = W.cell? ⟨b, o, none⟩) ∧ (∀ b o, b < W.heap.size → w1.frozen? ⟨b, o, none⟩ = W.frozen? ⟨b, o, none⟩) :=
  ⟨fun b o h => hb.cell (p := ⟨b, o, none⟩) h, fun b o h => hb.frozen (p := ⟨b, o, none⟩) h⟩
theorem bcellB {W w1 : World} {B : Nat} (hb : Below W.heap.size W w1) (hB : B ≤ W.heap.size) : (∀ b o, b < B → w1.cell? ⟨b, o, none⟩ = W.cell? ⟨b, o, none⟩) ∧ (∀ b o, b < B → w1.frozen? ⟨b, o, none⟩ = W.frozen? ⟨b, o, none⟩) :=
  ⟨fun b o h => hb.cell (p := ⟨b, o, none⟩) (Nat.lt_of_lt_of_le h hB), fun b o h => hb.frozen (p := ⟨b, o, none⟩) (Nat.lt_of_lt_of_le h hB)⟩
theorem below_drewN {B : Nat} {a w : World} (h : Below B a w) (n : Nat) : Below B a (w.drewN n) := ⟨h.os, h.tape, h.output, h.size, h.block⟩
theorem below_up {B : Nat} {a w w' : World} (h : Below B a w) (hB : B ≤ w.heap.size) (h' : Below w.heap.size w w') : Below B a w' := h.trans (h'.mono hB)
@[go_sem] theorem setCell_drewN (w : World) (n : Nat) (p : Addr) (v : Value) : (w.drewN n).setCell p v = (w.setCell p v).drewN n := rfl

/-! ### A region that draws, whose operations read and whose callees' contracts end in 'Below' -/
@[go_sem] theorem cell?_regrown (w : World) (d : Nat) (os : Array Obj) (b o : Nat) (h : b < w.heap.size) : (grow (redrawn w d) os).cell? ⟨b, o, none⟩ = w.cell? ⟨b, o, none⟩ :=
  (below_regrown w d os).cell (p := ⟨b, o, none⟩) h
theorem regrown_cells (w : World) {B : Nat} (hB : B ≤ w.heap.size) : ∀ d os b o, b < B → (grow (redrawn w d) os).cell? ⟨b, o, none⟩ = w.cell? ⟨b, o, none⟩ :=
  fun d os b o h => cell?_regrown w d os b o (by omega)
theorem quiet_b {P : Program} {f : FuncId} {args : Array Value} {w : World} {d : Nat} {os : Array Obj} {v : Value}
    (h : Calls P f args (grow (redrawn w d) os) fun e w' => e = .returned v ∧ Below (grow (redrawn w d) os).heap.size (grow (redrawn w d) os) w') : Calls P f args (grow (redrawn w d) os) fun e w'' => e = .returned v ∧ ∃ p : Regrown, w'' = grow (redrawn w p.d) p.os :=
  Calls.regrown_of h
theorem quiet_s {P : Program} {f : FuncId} {args : Array Value} {w : World} {d : Nat} {os : Array Obj} {v : Value}
    (h : Calls P f args (grow (redrawn w d) os) fun e w' => e = .returned v ∧ grow (redrawn w d) os = w') : Calls P f args (grow (redrawn w d) os) fun e w'' => e = .returned v ∧ ∃ p : Regrown, w'' = grow (redrawn w p.d) p.os :=
  h.mono fun _ _ ⟨he, hm⟩ => ⟨he, ⟨d, os⟩, hm.symm⟩
/-- A contract that says 'w = w'' as one that says 'Below'. -/
theorem same_b {P : Program} {f : FuncId} {args : Array Value} {w : World} {e0 : Ending}
    (h : Calls P f args w fun e w' => e = e0 ∧ w = w') : Calls P f args w fun e w' => e = e0 ∧ Below w.heap.size w w' :=
  h.mono fun _ _ ⟨he, hm⟩ => ⟨he, by subst hm; exact Below.refl _ _⟩
theorem draws_b {P : Program} {f : FuncId} {args : Array Value} {w : World} {e0 : Ending}
    (h : Calls P f args w fun e w' => e = e0 ∧ ∃ n, w' = w.drewN n) : Calls P f args w fun e w' => e = e0 ∧ Below w.heap.size w w' :=
  h.mono fun _ _ ⟨he, n, hm⟩ => ⟨he, by subst hm; exact below_drewN (Below.refl _ _) n⟩

@[simp] theorem size_drewN' (w : World) (n : Nat) : (w.drewN n).heap.size = w.heap.size := rfl
@[simp] theorem size_redrawn (w : World) (d : Nat) : (redrawn w d).heap.size = w.heap.size := rfl
theorem below_regrown_up {B : Nat} {a w : World} (d : Nat) (os : Array Obj) (h : Below B a w) (hB : B ≤ w.heap.size) : Below B a (grow (redrawn w d) os) := below_up h hB (below_regrown w d os)

/-! ### A block of the call's own, known whole; naming the world -/
theorem name_world {P : Program} {c : Code} {Q : Exit → Act → World → Prop} {a : Act} {w : World} (h : ∀ w', w' = w → c.wp P Q a w') : c.wp P Q a w := h w rfl
theorem box_new (w : World) (cs : Array Value) (t : TypeId) : ∀ o, (w.alloc (.cells cs t)).cell? ⟨w.heap.size, o, none⟩ = cs[o]? := fun o => World.cell?_alloc_new w cs t o
theorem box_old {w : World} {b : Nat} {cs : Array Value} (h : ∀ o, w.cell? ⟨b, o, none⟩ = cs[o]?) (hb : b < w.heap.size) (x : Obj) : ∀ o, (w.alloc x).cell? ⟨b, o, none⟩ = cs[o]? := fun o => (World.cell?_alloc_lt w x ⟨b, o, none⟩ hb).trans (h o)
theorem box_below {B : Nat} {w w' : World} {b : Nat} {cs : Array Value} (hb : Below B w w') (hlt : b < B) (h : ∀ o, w.cell? ⟨b, o, none⟩ = cs[o]?) : ∀ o, w'.cell? ⟨b, o, none⟩ = cs[o]? := fun o => (hb.cell (p := ⟨b, o, none⟩) hlt).trans (h o)

theorem box_set {w : World} {b : Nat} {cs : Array Value} (h : ∀ o, w.cell? ⟨b, o, none⟩ = cs[o]?) {i : Nat} (hi : i < cs.size) (v : Value) : ∀ o, (w.setCell ⟨b, i, none⟩ v).cell? ⟨b, o, none⟩ = (cs.setIfInBounds i v)[o]? := fun o => by
  by_cases e : o = i
  · subst e
    rw [World.cell?_setCell_same (u := cs[o]) w ⟨b, o, none⟩ v (by rw [h]; exact Array.getElem?_eq_getElem hi)]
    simp [hi]
  · rw [World.cell?_setCell_other w ⟨b, i, none⟩ ⟨b, o, none⟩ v (fun h => e (by injection h with _ h; exact h.symm)), h]
    rw [Array.getElem?_setIfInBounds_ne (Ne.symm e)]
theorem box_far {w : World} {b : Nat} {cs : Array Value} (h : ∀ o, w.cell? ⟨b, o, none⟩ = cs[o]?) {p : Addr} (hp : p.block ≠ b) (v : Value) : ∀ o, (w.setCell p v).cell? ⟨b, o, none⟩ = cs[o]? := fun o =>
  (World.cell?_setCell_other w p ⟨b, o, none⟩ v (fun e => hp (by rw [e]))).trans (h o)

/-! ### A slice that reads as a list of data, nil let in -/
def Sl {α : Type} (w : World) (B size : Nat) (enc : α → List Value) (A : Option Addr) (l : List α) : Prop :=
  l ≠ [] → ∃ b off, A = some ⟨b, off, none⟩ ∧ b < B ∧ ∀ k (h : k < l.length) j v, (enc l[k])[j]? = some v → w.cell? ⟨b, off + k * size + j, none⟩ = some v
section
variable {α : Type} {w w' : World} {B B' size : Nat} {enc : α → List Value} {A : Option Addr} {l : List α}
theorem Sl.nil_ : Sl w B size enc A ([] : List α) := fun h => absurd rfl h
theorem Sl.at_ {k : Nat} (h : Sl w B size enc A l) (hk : k < l.length) : ∃ b off, A = some ⟨b, off, none⟩ ∧ b < B ∧ ∀ j v, (enc l[k])[j]? = some v → w.cell? ⟨b, off + k * size + j, none⟩ = some v := by
  obtain ⟨b, off, e, hb, hc⟩ := h (by rintro rfl; simp at hk)
  exact ⟨b, off, e, hb, hc k hk⟩
theorem Sl.cells {k b off : Nat} (h : Sl w B size enc (some ⟨b, off, none⟩) l) (hk : k < l.length) : b < B ∧ ∀ j v, (enc l[k])[j]? = some v → w.cell? ⟨b, off + k * size + j, none⟩ = some v := by
  obtain ⟨b', off', e, hb, hc⟩ := h.at_ hk
  injection e with e
  injection e with e1 e2
  subst e1 e2
  exact ⟨hb, hc⟩
theorem Sl.below (h : Sl w B size enc A l) (hb : Below B w w') : Sl w' B size enc A l := fun hl => by
  obtain ⟨b, off, e, hlt, hc⟩ := h hl
  exact ⟨b, off, e, hlt, fun k hk j v hv => (hb.cell (p := ⟨b, _, none⟩) hlt).trans (hc k hk j v hv)⟩
theorem Sl.more (h : Sl w B size enc A l) (hB : B ≤ B') : Sl w B' size enc A l := fun hl => by
  obtain ⟨b, off, e, hlt, hc⟩ := h hl
  exact ⟨b, off, e, Nat.lt_of_lt_of_le hlt hB, hc⟩
end

theorem grownBy_below {w w' : World} (h : Below w.heap.size w w') (row : Option Nat) : w.grownBy w' row := ⟨h.os, h.tape, h.output, h.size, fun i hi _ => h.block i hi⟩
theorem row_below {w w' : World} {base : Nat} {e : TypeId} {size : Nat} {v : Value} {n : Nat} {xs : List Value} (h : w.ownsRow base e size v n xs) (hb : Below w.heap.size w w') : w'.ownsRow base e size v n xs := by
  refine h.kept (grownBy_below hb none) ?_
  cases hv : v.ownBlock with
  | none => exact .inl rfl
  | some k => exact .inr (by simp)
theorem below_append {B : Nat} {a w w' : World} {v : Value} {e : TypeId} {size n : Nat} {xs : List Value} (h : Below B a w) (hown : w.ownsRow B e size v n xs) (hg : w.grownBy w' v.ownBlock) (hB : B ≤ w.heap.size) : Below B a w' :=
  h.grown hg hB (fun k hk => (hown.lt k hk).1)
theorem flatMap_get {α β : Type} {enc : α → List β} {size : Nat} (he : ∀ x, (enc x).length = size) : ∀ (l : List α) (k : Nat) (h : k < l.length) (j : Nat), j < size → (l.flatMap enc)[k * size + j]? = (enc l[k])[j]? := by
  intro l
  induction l with
  | nil => intro k h; simp at h
  | cons x l ih =>
    intro k h j hj
    rw [List.flatMap_cons]
    cases k with
    | zero =>
      rw [Nat.zero_mul, Nat.zero_add, List.getElem?_append_left (by rw [he]; exact hj)]
      rfl
    | succ k =>
      have e : (k + 1) * size + j = size + (k * size + j) := by rw [Nat.add_mul]; omega
      rw [e, List.getElem?_append_right (by rw [he]; omega), he, Nat.add_sub_cancel_left]
      exact ih k (by simpa using h) j hj
/-- A block that is known whole, read as a list. -/
theorem sl_of_box {α : Type} {w : World} {B size b : Nat} {enc : α → List Value} {l : List α} {cs : Array Value} (he : ∀ x, (enc x).length = size) (h : ∀ o, w.cell? ⟨b, o, none⟩ = cs[o]?) (hb : b < B) (hcs : cs.toList = l.flatMap enc) :
    Sl w B size enc (some ⟨b, 0, none⟩) l := fun _ => ⟨b, 0, rfl, hb, fun k hk j v hv => by
  have hj : j < size := by
    rcases Nat.lt_or_ge j size with h1 | h1
    · exact h1
    · rw [List.getElem?_eq_none (by rw [he]; exact h1)] at hv; cases hv
  rw [h, Nat.zero_add, ← Array.getElem?_toList, hcs, flatMap_get he l k hk j hj]
  exact hv⟩
def intC (n : Int) : List Value := [.int .i64 n]
abbrev SlInt (w : World) (A : Option Addr) (l : List Int) : Prop := Sl w w.heap.size 1 intC A l
theorem intC_flat (xs : List Int) : xs.flatMap intC = xs.map (Value.int .i64) := by
  induction xs with
  | nil => rfl
  | cons x xs ih => rw [List.flatMap_cons, ih]; rfl
/-- What the call owns as a row of integers reads as the list. -/
theorem sl_of_row {w : World} {base : Nat} {e : TypeId} {v : Value} {xs : List Int} (h : w.ownsRow base e 1 v xs.length (xs.map (Value.int .i64))) : ∃ A c, v = .slice A xs.length c ∧ SlInt w A xs := by
  rcases h.2 with ⟨rfl, h0⟩ | ⟨g, cap, cur, rfl, hb, hg, h1, h2, h3, h4⟩
  · have : xs = [] := List.eq_nil_of_length_eq_zero h0
    subst this
    exact ⟨none, 0, rfl, Sl.nil_⟩
  · refine ⟨some ⟨g, 0, none⟩, cap, rfl, fun _ => ⟨g, 0, rfl, (Array.getElem?_eq_some_iff.1 hg).1, fun k hk j v hv => ?_⟩⟩
    have hj : j = 0 := by
      rcases j with _ | j
      · rfl
      · simp [intC] at hv
    subst hj
    have hv' : v = .int .i64 xs[k] := by simpa [intC] using hv.symm
    subst hv'
    have e1 : (cur.toList.take (xs.length * 1))[k]? = (xs.map (Value.int .i64))[k]? := by rw [h4]
    rw [List.getElem?_take] at e1
    rw [if_pos (by omega)] at e1
    simp only [World.cell?, hg]
    simp only [Nat.zero_add, Nat.mul_one, Nat.add_zero, Option.isSome_none, Bool.false_eq_true, if_false]
    rw [← Array.getElem?_toList, e1]
    simp [hk]

/-! ### The first index at which something holds, or -1 -/
def ixOf {α : Type} (p : α → Bool) (l : List α) : Int := match l.findIdx? p with | some i => i | none => -1
theorem ixOf_found {α : Type} {p : α → Bool} {l : List α} {m : Nat} (hm : m < l.length) (hp : p l[m] = true) (hn : ∀ j (h : j < l.length), j < m → p l[j] = false) : ixOf p l = m := by
  have : l.findIdx? p = some m := by
    rw [List.findIdx?_eq_some_iff_getElem]
    exact ⟨hm, hp, fun j hj => by simpa using hn j (by omega) hj⟩
  unfold ixOf
  rw [this]
theorem ixOf_none {α : Type} {p : α → Bool} {l : List α} (hn : ∀ j (h : j < l.length), p l[j] = false) : ixOf p l = -1 := by
  have : l.findIdx? p = none := by
    rw [List.findIdx?_eq_none_iff]
    intro x hx
    obtain ⟨j, hj, rfl⟩ := List.getElem_of_mem hx
    exact hn j hj
  unfold ixOf
  rw [this]
theorem ixOf_any {α : Type} (p : α → Bool) (l : List α) : decide (0 ≤ ixOf p l) = l.any p := by
  unfold ixOf
  cases h : l.findIdx? p with
  | none =>
    rw [List.findIdx?_eq_none_iff] at h
    have : l.any p = false := by simpa using h
    rw [this]
    rfl
  | some i =>
    rw [List.findIdx?_eq_some_iff_getElem] at h
    obtain ⟨hi, hp, _⟩ := h
    have : l.any p = true := List.any_eq_true.2 ⟨l[i], List.getElem_mem hi, hp⟩
    rw [this]
    simp

/-! ### A set of integers, kept in a map -/
open Go.Maps in
def idSet (ids : List Int) : DataW Unit := setOf (.lit (.bool true)) (ids.map (Lit.int .i64))
open Go.Maps in
theorem idSet_snoc (ids : List Int) (x : Int) : idSet (ids ++ [x]) = (idSet ids).put (.int .i64 x) (.lit (.bool true)) := by
  unfold idSet
  rw [List.map_append]
  exact setOf_snoc _ _ _
theorem keyLit_int (q : IntKind) (x : Int) : WideAt.IsKeyLit (.int q x) := trivial
open Go.Maps in
theorem addKeys_len (acc : List Lit) (xs : List Int) (hacc : ∀ y ∈ acc, ∃ n, y = Lit.int .i64 n) : ((xs.map (Lit.int .i64)).foldl addKey acc).length ≤ acc.length + xs.length ∧
    (((xs.map (Lit.int .i64)).foldl addKey acc).length = acc.length + xs.length ↔ xs.Nodup ∧ ∀ x ∈ xs, Lit.int .i64 x ∉ acc) := by
  induction xs generalizing acc with
  | nil => simp
  | cons x xs ih =>
    rw [List.map_cons, List.foldl_cons]
    have hany : (acc.any fun y => y.sameKey (Lit.int .i64 x)) = true ↔ Lit.int .i64 x ∈ acc := by
      rw [List.any_eq_true]
      constructor
      · rintro ⟨y, hy, hk⟩
        by_cases e : y = Lit.int .i64 x
        · exact e ▸ hy
        · rw [sameKey_ne e] at hk; cases hk
      · exact fun h => ⟨_, h, WideAt.sameKey_self (keyLit_int .i64 x)⟩
    rw [show addKey acc (Lit.int .i64 x) = if (acc.any fun y => y.sameKey (Lit.int .i64 x)) = true then acc else acc ++ [Lit.int .i64 x] from rfl]
    by_cases hx : Lit.int .i64 x ∈ acc
    · rw [if_pos (hany.2 hx)]
      obtain ⟨h1, h2⟩ := ih acc hacc
      refine ⟨by simp only [List.length_cons]; omega, ⟨fun h => ?_, fun h => absurd hx (h.2 x (by simp))⟩⟩
      simp only [List.length_cons] at h
      omega
    · rw [if_neg (fun h => hx (hany.1 h))]
      obtain ⟨h1, h2⟩ := ih (acc ++ [Lit.int .i64 x]) (by
        intro y hy
        rcases List.mem_append.1 hy with hy | hy
        · exact hacc y hy
        · exact ⟨x, by simpa using hy⟩)
      simp only [List.length_append, List.length_cons, List.length_nil] at h1 h2
      refine ⟨by simp only [List.length_cons]; omega, ?_⟩
      simp only [List.length_cons, List.nodup_cons]
      rw [show acc.length + (xs.length + 1) = acc.length + (0 + 1) + xs.length by omega, h2]
      constructor
      · rintro ⟨hn, hm⟩
        refine ⟨⟨fun hxm => hm x hxm (by simp), hn⟩, fun y hy => ?_⟩
        rcases List.mem_cons.1 hy with rfl | hy
        · exact hx
        · exact fun h => hm y hy (by simp [h])
      · rintro ⟨⟨hxm, hn⟩, hm⟩
        refine ⟨hn, fun y hy h => ?_⟩
        rcases List.mem_append.1 h with h | h
        · exact hm y (by simp [hy]) h
        · have e : y = x := by simpa using h
          exact hxm (e ▸ hy)
open Go.Maps in
theorem idSet_size (ids : List Int) : decide ((Maps.size (idSet ids) : Int) = ids.length) = decide ids.Nodup := by
  have h := (addKeys_len [] ids (by simp)).2
  have hs : Maps.size (idSet ids) = ((ids.map (Lit.int .i64)).foldl addKey []).length := size_setOf _ _ (by simp [keyLit_int])
  rw [hs, decide_eq_decide]
  simp only [List.length_nil, Nat.zero_add, List.not_mem_nil, not_false_eq_true, implies_true, and_true] at h
  rw [← h]
  omega

/-! ### Numbers -/
theorem tdiv_nn {a b : Int} (ha : 0 ≤ a) : a.tdiv b = a / b := Int.tdiv_eq_ediv_of_nonneg ha
theorem tmod_nn {a b : Int} (ha : 0 ≤ a) : a.tmod b = a % b := Int.tmod_eq_emod_of_nonneg ha

end Go.Proofs.Ytphapnooonjnmaa
