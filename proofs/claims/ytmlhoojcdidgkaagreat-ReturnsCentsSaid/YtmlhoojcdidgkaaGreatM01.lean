/-
  Texts, one behind the other: Base, Eqs, Plain, Ratio.
-/
import Derived.WalkKit
import Derived.Outline
import Derived.Deep.QuietTactic
import Derived.BigQuiet
import Derived.Laws.EntriesVeiled
import Derived.Lib.QuietBelow
import Derived.Lib.Hide
import Derived.Deep.LoopGhost
import Derived.Maps.Own
import Derived.Maps.OwnOps
import Derived.Maps.OwnSet
import Derived.Maps.AppendAt
import Derived.Deep.AppendLies
import Derived.Test.YtmlhoojcdidgkaaGreatProg
import Derived.Below
/-
  Plain helpers for walks: frames of worlds, slices that read as lists, regions whose callees make memory. No program's number stands here.
-/
namespace Go.Proofs.YtmlhoojcdidgkaaGreat
set_option linter.unusedSimpArgs false
set_option linter.unusedVariables false
open Go.RowKit
open Go.Sort (grow size_grow)

theorem ret_int {k : IntKind} {a b : Int} (h : a = b) : Ending.returned (.int k a) = .returned (.int k b) := by rw [h]
theorem ret_bool {a b : Bool} (h : a = b) : Ending.returned (.bool a) = .returned (.bool b) := by rw [h]

/-! ### Old cells behind 'Below' -/
theorem bcell {W w1 : World} (hb : Below W.heap.size W w1) : (∀ b o, b < W.heap.size → w1.cell? ⟨b, o, none⟩ = W.cell? ⟨b, o, none⟩) ∧ (∀ b o, b < W.heap.size → w1.frozen? ⟨b, o, none⟩ = W.frozen? ⟨b, o, none⟩) :=
  ⟨fun b o h => hb.cell (p := ⟨b, o, none⟩) h, fun b o h => hb.frozen (p := ⟨b, o, none⟩) h⟩
theorem bcellB {W w1 : World} {B : Nat} (hb : Below W.heap.size W w1) (hB : B ≤ W.heap.size) : (∀ b o, b < B → w1.cell? ⟨b, o, none⟩ = W.cell? ⟨b, o, none⟩) ∧ (∀ b o, b < B → w1.frozen? ⟨b, o, none⟩ = W.frozen? ⟨b, o, none⟩) :=
  ⟨fun b o h => hb.cell (p := ⟨b, o, none⟩) (Nat.lt_of_lt_of_le h hB), fun b o h => hb.frozen (p := ⟨b, o, none⟩) (Nat.lt_of_lt_of_le h hB)⟩
theorem below_drewN {B : Nat} {a w : World} (h : Below B a w) (n : Nat) : Below B a (w.drewN n) := ⟨h.os, h.tape, h.output, h.size, h.block⟩
theorem below_up {B : Nat} {a w w' : World} (h : Below B a w) (hB : B ≤ w.heap.size) (h' : Below w.heap.size w w') : Below B a w' := h.trans (h'.mono hB)
@[go_sem] theorem setCell_drewN (w : World) (n : Nat) (p : Addr) (v : Value) : (w.drewN n).setCell p v = (w.setCell p v).drewN n := rfl

/-! ### A region that draws, whose operations read and whose callees' contracts end in 'Below' -/
@[go_sem] theorem cell?_regrown (w : World) (d : Nat) (os : Array Obj) (b o : Nat) (h : b < w.heap.size) : (grow (redrawn w d) os).cell? ⟨b, o, none⟩ = w.cell? ⟨b, o, none⟩ :=
  (below_regrown w d os).cell (p := ⟨b, o, none⟩) h
theorem regrown_cells (w : World) {B : Nat} (hB : B ≤ w.heap.size) : ∀ d os b o, b < B → (grow (redrawn w d) os).cell? ⟨b, o, none⟩ = w.cell? ⟨b, o, none⟩ :=
  fun d os b o h => cell?_regrown w d os b o (by omega)
theorem quiet_b {P : Program} {f : FuncId} {args : Array Value} {w : World} {d : Nat} {os : Array Obj} {v : Value}
    (h : Calls P f args (grow (redrawn w d) os) fun e w' => e = .returned v ∧ Below (grow (redrawn w d) os).heap.size (grow (redrawn w d) os) w') : Calls P f args (grow (redrawn w d) os) fun e w'' => e = .returned v ∧ ∃ p : Regrown, w'' = grow (redrawn w p.d) p.os :=
  Calls.regrown_of h
theorem quiet_s {P : Program} {f : FuncId} {args : Array Value} {w : World} {d : Nat} {os : Array Obj} {v : Value}
    (h : Calls P f args (grow (redrawn w d) os) fun e w' => e = .returned v ∧ grow (redrawn w d) os = w') : Calls P f args (grow (redrawn w d) os) fun e w'' => e = .returned v ∧ ∃ p : Regrown, w'' = grow (redrawn w p.d) p.os :=
  h.mono fun _ _ ⟨he, hm⟩ => ⟨he, ⟨d, os⟩, hm.symm⟩
/-- A contract that says 'w = w'' as one that says 'Below'. -/
theorem same_b {P : Program} {f : FuncId} {args : Array Value} {w : World} {e0 : Ending}
    (h : Calls P f args w fun e w' => e = e0 ∧ w = w') : Calls P f args w fun e w' => e = e0 ∧ Below w.heap.size w w' :=
  h.mono fun _ _ ⟨he, hm⟩ => ⟨he, by subst hm; exact Below.refl _ _⟩
theorem draws_b {P : Program} {f : FuncId} {args : Array Value} {w : World} {e0 : Ending}
    (h : Calls P f args w fun e w' => e = e0 ∧ ∃ n, w' = w.drewN n) : Calls P f args w fun e w' => e = e0 ∧ Below w.heap.size w w' :=
  h.mono fun _ _ ⟨he, n, hm⟩ => ⟨he, by subst hm; exact below_drewN (Below.refl _ _) n⟩

@[simp] theorem size_drewN' (w : World) (n : Nat) : (w.drewN n).heap.size = w.heap.size := rfl
@[simp] theorem size_redrawn (w : World) (d : Nat) : (redrawn w d).heap.size = w.heap.size := rfl
theorem below_regrown_up {B : Nat} {a w : World} (d : Nat) (os : Array Obj) (h : Below B a w) (hB : B ≤ w.heap.size) : Below B a (grow (redrawn w d) os) := below_up h hB (below_regrown w d os)

/-! ### A block of the call's own, known whole; naming the world -/
theorem name_world {P : Program} {c : Code} {Q : Exit → Act → World → Prop} {a : Act} {w : World} (h : ∀ w', w' = w → c.wp P Q a w') : c.wp P Q a w := h w rfl
theorem box_new (w : World) (cs : Array Value) (t : TypeId) : ∀ o, (w.alloc (.cells cs t)).cell? ⟨w.heap.size, o, none⟩ = cs[o]? := fun o => World.cell?_alloc_new w cs t o
theorem box_old {w : World} {b : Nat} {cs : Array Value} (h : ∀ o, w.cell? ⟨b, o, none⟩ = cs[o]?) (hb : b < w.heap.size) (x : Obj) : ∀ o, (w.alloc x).cell? ⟨b, o, none⟩ = cs[o]? := fun o => (World.cell?_alloc_lt w x ⟨b, o, none⟩ hb).trans (h o)
theorem box_below {B : Nat} {w w' : World} {b : Nat} {cs : Array Value} (hb : Below B w w') (hlt : b < B) (h : ∀ o, w.cell? ⟨b, o, none⟩ = cs[o]?) : ∀ o, w'.cell? ⟨b, o, none⟩ = cs[o]? := fun o => (hb.cell (p := ⟨b, o, none⟩) hlt).trans (h o)

theorem box_set {w : World} {b : Nat} {cs : Array Value} (h : ∀ o, w.cell? ⟨b, o, none⟩ = cs[o]?) {i : Nat} (hi : i < cs.size) (v : Value) : ∀ o, (w.setCell ⟨b, i, none⟩ v).cell? ⟨b, o, none⟩ = (cs.setIfInBounds i v)[o]? := fun o => by
  by_cases e : o = i
  · subst e
    rw [World.cell?_setCell_same (u := cs[o]) w ⟨b, o, none⟩ v (by rw [h]; exact Array.getElem?_eq_getElem hi)]
    simp [hi]
  · rw [World.cell?_setCell_other w ⟨b, i, none⟩ ⟨b, o, none⟩ v (fun h => e (by injection h with _ h; exact h.symm)), h]
    rw [Array.getElem?_setIfInBounds_ne (Ne.symm e)]
theorem box_far {w : World} {b : Nat} {cs : Array Value} (h : ∀ o, w.cell? ⟨b, o, none⟩ = cs[o]?) {p : Addr} (hp : p.block ≠ b) (v : Value) : ∀ o, (w.setCell p v).cell? ⟨b, o, none⟩ = cs[o]? := fun o =>
  (World.cell?_setCell_other w p ⟨b, o, none⟩ v (fun e => hp (by rw [e]))).trans (h o)

/-! ### A slice that reads as a list of data, nil let in -/
def Sl {α : Type} (w : World) (B size : Nat) (enc : α → List Value) (A : Option Addr) (l : List α) : Prop :=
  l ≠ [] → ∃ b off, A = some ⟨b, off, none⟩ ∧ b < B ∧ ∀ k (h : k < l.length) j v, (enc l[k])[j]? = some v → w.cell? ⟨b, off + k * size + j, none⟩ = some v
section
variable {α : Type} {w w' : World} {B B' size : Nat} {enc : α → List Value} {A : Option Addr} {l : List α}
theorem Sl.nil_ : Sl w B size enc A ([] : List α) := fun h => absurd rfl h
theorem Sl.at_ {k : Nat} (h : Sl w B size enc A l) (hk : k < l.length) : ∃ b off, A = some ⟨b, off, none⟩ ∧ b < B ∧ ∀ j v, (enc l[k])[j]? = some v → w.cell? ⟨b, off + k * size + j, none⟩ = some v := by
  obtain ⟨b, off, e, hb, hc⟩ := h (by rintro rfl; simp at hk)
  exact ⟨b, off, e, hb, hc k hk⟩
theorem Sl.cells {k b off : Nat} (h : Sl w B size enc (some ⟨b, off, none⟩) l) (hk : k < l.length) : b < B ∧ ∀ j v, (enc l[k])[j]? = some v → w.cell? ⟨b, off + k * size + j, none⟩ = some v := by
  obtain ⟨b', off', e, hb, hc⟩ := h.at_ hk
  injection e with e
  injection e with e1 e2
  subst e1 e2
  exact ⟨hb, hc⟩
theorem Sl.below (h : Sl w B size enc A l) (hb : Below B w w') : Sl w' B size enc A l := fun hl => by
  obtain ⟨b, off, e, hlt, hc⟩ := h hl
  exact ⟨b, off, e, hlt, fun k hk j v hv => (hb.cell (p := ⟨b, _, none⟩) hlt).trans (hc k hk j v hv)⟩
theorem Sl.more (h : Sl w B size enc A l) (hB : B ≤ B') : Sl w B' size enc A l := fun hl => by
  obtain ⟨b, off, e, hlt, hc⟩ := h hl
  exact ⟨b, off, e, Nat.lt_of_lt_of_le hlt hB, hc⟩
end

theorem grownBy_below {w w' : World} (h : Below w.heap.size w w') (row : Option Nat) : w.grownBy w' row := ⟨h.os, h.tape, h.output, h.size, fun i hi _ => h.block i hi⟩
theorem row_below {w w' : World} {base : Nat} {e : TypeId} {size : Nat} {v : Value} {n : Nat} {xs : List Value} (h : w.ownsRow base e size v n xs) (hb : Below w.heap.size w w') : w'.ownsRow base e size v n xs := by
  refine h.kept (grownBy_below hb none) ?_
  cases hv : v.ownBlock with
  | none => exact .inl rfl
  | some k => exact .inr (by simp)
theorem below_append {B : Nat} {a w w' : World} {v : Value} {e : TypeId} {size n : Nat} {xs : List Value} (h : Below B a w) (hown : w.ownsRow B e size v n xs) (hg : w.grownBy w' v.ownBlock) (hB : B ≤ w.heap.size) : Below B a w' :=
  h.grown hg hB (fun k hk => (hown.lt k hk).1)
theorem flatMap_get {α β : Type} {enc : α → List β} {size : Nat} (he : ∀ x, (enc x).length = size) : ∀ (l : List α) (k : Nat) (h : k < l.length) (j : Nat), j < size → (l.flatMap enc)[k * size + j]? = (enc l[k])[j]? := by
  intro l
  induction l with
  | nil => intro k h; simp at h
  | cons x l ih =>
    intro k h j hj
    rw [List.flatMap_cons]
    cases k with
    | zero =>
      rw [Nat.zero_mul, Nat.zero_add, List.getElem?_append_left (by rw [he]; exact hj)]
      rfl
    | succ k =>
      have e : (k + 1) * size + j = size + (k * size + j) := by rw [Nat.add_mul]; omega
      rw [e, List.getElem?_append_right (by rw [he]; omega), he, Nat.add_sub_cancel_left]
      exact ih k (by simpa using h) j hj
/-- A block that is known whole, read as a list. -/
theorem sl_of_box {α : Type} {w : World} {B size b : Nat} {enc : α → List Value} {l : List α} {cs : Array Value} (he : ∀ x, (enc x).length = size) (h : ∀ o, w.cell? ⟨b, o, none⟩ = cs[o]?) (hb : b < B) (hcs : cs.toList = l.flatMap enc) :
    Sl w B size enc (some ⟨b, 0, none⟩) l := fun _ => ⟨b, 0, rfl, hb, fun k hk j v hv => by
  have hj : j < size := by
    rcases Nat.lt_or_ge j size with h1 | h1
    · exact h1
    · rw [List.getElem?_eq_none (by rw [he]; exact h1)] at hv; cases hv
  rw [h, Nat.zero_add, ← Array.getElem?_toList, hcs, flatMap_get he l k hk j hj]
  exact hv⟩
def intC (n : Int) : List Value := [.int .i64 n]
abbrev SlInt (w : World) (A : Option Addr) (l : List Int) : Prop := Sl w w.heap.size 1 intC A l
theorem intC_flat (xs : List Int) : xs.flatMap intC = xs.map (Value.int .i64) := by
  induction xs with
  | nil => rfl
  | cons x xs ih => rw [List.flatMap_cons, ih]; rfl
/-- What the call owns as a row of integers reads as the list. -/
theorem sl_of_row {w : World} {base : Nat} {e : TypeId} {v : Value} {xs : List Int} (h : w.ownsRow base e 1 v xs.length (xs.map (Value.int .i64))) : ∃ A c, v = .slice A xs.length c ∧ SlInt w A xs := by
  rcases h.2 with ⟨rfl, h0⟩ | ⟨g, cap, cur, rfl, hb, hg, h1, h2, h3, h4⟩
  · have : xs = [] := List.eq_nil_of_length_eq_zero h0
    subst this
    exact ⟨none, 0, rfl, Sl.nil_⟩
  · refine ⟨some ⟨g, 0, none⟩, cap, rfl, fun _ => ⟨g, 0, rfl, (Array.getElem?_eq_some_iff.1 hg).1, fun k hk j v hv => ?_⟩⟩
    have hj : j = 0 := by
      rcases j with _ | j
      · rfl
      · simp [intC] at hv
    subst hj
    have hv' : v = .int .i64 xs[k] := by simpa [intC] using hv.symm
    subst hv'
    have e1 : (cur.toList.take (xs.length * 1))[k]? = (xs.map (Value.int .i64))[k]? := by rw [h4]
    rw [List.getElem?_take] at e1
    rw [if_pos (by omega)] at e1
    simp only [World.cell?, hg]
    simp only [Nat.zero_add, Nat.mul_one, Nat.add_zero, Option.isSome_none, Bool.false_eq_true, if_false]
    rw [← Array.getElem?_toList, e1]
    simp [hk]

/-! ### The first index at which something holds, or -1 -/
def ixOf {α : Type} (p : α → Bool) (l : List α) : Int := match l.findIdx? p with | some i => i | none => -1
theorem ixOf_found {α : Type} {p : α → Bool} {l : List α} {m : Nat} (hm : m < l.length) (hp : p l[m] = true) (hn : ∀ j (h : j < l.length), j < m → p l[j] = false) : ixOf p l = m := by
  have : l.findIdx? p = some m := by
    rw [List.findIdx?_eq_some_iff_getElem]
    exact ⟨hm, hp, fun j hj => by simpa using hn j (by omega) hj⟩
  unfold ixOf
  rw [this]
theorem ixOf_none {α : Type} {p : α → Bool} {l : List α} (hn : ∀ j (h : j < l.length), p l[j] = false) : ixOf p l = -1 := by
  have : l.findIdx? p = none := by
    rw [List.findIdx?_eq_none_iff]
    intro x hx
    obtain ⟨j, hj, rfl⟩ := List.getElem_of_mem hx
    exact hn j hj
  unfold ixOf
  rw [this]
theorem ixOf_any {α : Type} (p : α → Bool) (l : List α) : decide (0 ≤ ixOf p l) = l.any p := by
  unfold ixOf
  cases h : l.findIdx? p with
  | none =>
    rw [List.findIdx?_eq_none_iff] at h
    have : l.any p = false := by simpa using h
    rw [this]
    rfl
  | some i =>
    rw [List.findIdx?_eq_some_iff_getElem] at h
    obtain ⟨hi, hp, _⟩ := h
    have : l.any p = true := List.any_eq_true.2 ⟨l[i], List.getElem_mem hi, hp⟩
    rw [this]
    simp

/-! ### A set of integers, kept in a map -/
open Go.Maps in
def idSet (ids : List Int) : DataW Unit := setOf (.lit (.bool true)) (ids.map (Lit.int .i64))
open Go.Maps in
theorem idSet_snoc (ids : List Int) (x : Int) : idSet (ids ++ [x]) = (idSet ids).put (.int .i64 x) (.lit (.bool true)) := by
  unfold idSet
  rw [List.map_append]
  exact setOf_snoc _ _ _
theorem keyLit_int (q : IntKind) (x : Int) : WideAt.IsKeyLit (.int q x) := trivial
open Go.Maps in
theorem addKeys_len (acc : List Lit) (xs : List Int) (hacc : ∀ y ∈ acc, ∃ n, y = Lit.int .i64 n) : ((xs.map (Lit.int .i64)).foldl addKey acc).length ≤ acc.length + xs.length ∧
    (((xs.map (Lit.int .i64)).foldl addKey acc).length = acc.length + xs.length ↔ xs.Nodup ∧ ∀ x ∈ xs, Lit.int .i64 x ∉ acc) := by
  induction xs generalizing acc with
  | nil => simp
  | cons x xs ih =>
    rw [List.map_cons, List.foldl_cons]
    have hany : (acc.any fun y => y.sameKey (Lit.int .i64 x)) = true ↔ Lit.int .i64 x ∈ acc := by
      rw [List.any_eq_true]
      constructor
      · rintro ⟨y, hy, hk⟩
        by_cases e : y = Lit.int .i64 x
        · exact e ▸ hy
        · rw [sameKey_ne e] at hk; cases hk
      · exact fun h => ⟨_, h, WideAt.sameKey_self (keyLit_int .i64 x)⟩
    rw [show addKey acc (Lit.int .i64 x) = if (acc.any fun y => y.sameKey (Lit.int .i64 x)) = true then acc else acc ++ [Lit.int .i64 x] from rfl]
    by_cases hx : Lit.int .i64 x ∈ acc
    · rw [if_pos (hany.2 hx)]
      obtain ⟨h1, h2⟩ := ih acc hacc
      refine ⟨by simp only [List.length_cons]; omega, ⟨fun h => ?_, fun h => absurd hx (h.2 x (by simp))⟩⟩
      simp only [List.length_cons] at h
      omega
    · rw [if_neg (fun h => hx (hany.1 h))]
      obtain ⟨h1, h2⟩ := ih (acc ++ [Lit.int .i64 x]) (by
        intro y hy
        rcases List.mem_append.1 hy with hy | hy
        · exact hacc y hy
        · exact ⟨x, by simpa using hy⟩)
      simp only [List.length_append, List.length_cons, List.length_nil] at h1 h2
      refine ⟨by simp only [List.length_cons]; omega, ?_⟩
      simp only [List.length_cons, List.nodup_cons]
      rw [show acc.length + (xs.length + 1) = acc.length + (0 + 1) + xs.length by omega, h2]
      constructor
      · rintro ⟨hn, hm⟩
        refine ⟨⟨fun hxm => hm x hxm (by simp), hn⟩, fun y hy => ?_⟩
        rcases List.mem_cons.1 hy with rfl | hy
        · exact hx
        · exact fun h => hm y hy (by simp [h])
      · rintro ⟨⟨hxm, hn⟩, hm⟩
        refine ⟨hn, fun y hy h => ?_⟩
        rcases List.mem_append.1 h with h | h
        · exact hm y (by simp [hy]) h
        · have e : y = x := by simpa using h
          exact hxm (e ▸ hy)
open Go.Maps in
theorem idSet_size (ids : List Int) : decide ((Maps.size (idSet ids) : Int) = ids.length) = decide ids.Nodup := by
  have h := (addKeys_len [] ids (by simp)).2
  have hs : Maps.size (idSet ids) = ((ids.map (Lit.int .i64)).foldl addKey []).length := size_setOf _ _ (by simp [keyLit_int])
  rw [hs, decide_eq_decide]
  simp only [List.length_nil, Nat.zero_add, List.not_mem_nil, not_false_eq_true, implies_true, and_true] at h
  rw [← h]
  omega

/-! ### Numbers -/
theorem tdiv_nn {a b : Int} (ha : 0 ≤ a) : a.tdiv b = a / b := Int.tdiv_eq_ediv_of_nonneg ha
theorem tmod_nn {a b : Int} (ha : 0 ≤ a) : a.tmod b = a % b := Int.tmod_eq_emod_of_nonneg ha

end Go.Proofs.YtmlhoojcdidgkaaGreat

/-
  '==' on the structs and arrays of the program, as one Bool.
-/
namespace Go.Proofs.YtmlhoojcdidgkaaGreat
set_option linter.unusedSimpArgs false
set_option linter.unusedVariables false
open Go.RowKit

theorem run_equalIn_arr2 (P : Program) (dp : Nat) (t e : TypeId) (k : IntKind) (a b c d : Int) (w : World) (ht : P.underlying t = some (.array 2 e)) (he : P.underlying e = some (.int k)) (hi : (P.info? e).map (·.size) = some 1) :
    (Op.equalIn (dp + 1 + 1) t (.agg #[.int k a, .int k b]) (.agg #[.int k c, .int k d])).run P w = .ok (decide (a = c) && decide (b = d)) w := by
  obtain ⟨i, h1, h2⟩ : ∃ i, P.info? e = some i ∧ i.size = 1 := by
    cases h : P.info? e with
    | none => simp [h] at hi
    | some i => exact ⟨i, rfl, by simpa [h] using hi⟩
  rw [Op.equalIn]
  by_cases e1 : a = c <;> by_cases e2 : b = d <;>
  simp [run_underlying ht, sizeOf, typeInfo, h1, h2, Std.Legacy.Range.forIn_eq_forIn_range', List.range', List.forIn_cons, part, isAgg, run_underlying he, e1, e2, run_equalIn_int _ _ _ _ _ _ _ he]

@[go_sem high] theorem run_eql_arr2 (a b c d : Int) (w : World) : (binOp .eql 81 (.agg #[.int .i64 a, .int .i64 b]) (.agg #[.int .i64 c, .int .i64 d])).run Tryz.prog w = .ok (.bool (decide (a = c) && decide (b = d))) w := by
  rw [run_eql_struct, run_equalIn_arr2 Tryz.prog 9998 81 3 .i64 a b c d w Tryz.underlying81 Tryz.underlying3 (by kernel_rfl)]
  rfl
@[go_sem high] theorem run_eql_fraction (a b c d : Int) (w : World) : (binOp .eql 151 (.agg #[.int .i64 a, .int .i64 b]) (.agg #[.int .i64 c, .int .i64 d])).run Tryz.prog w = .ok (.bool (decide (a = c) && decide (b = d))) w := by
  by_cases h1 : a = c <;> by_cases h2 : b = d <;> simp [go_sem, h1, h2]
@[go_sem high] theorem run_eql_entry (a b c d e a' b' c' d' e' : Int) (w : World) : (binOp .eql 60 (.agg #[.int .i64 a, .int .i64 b, .int .i64 c, .int .i64 d, .int .i64 e]) (.agg #[.int .i64 a', .int .i64 b', .int .i64 c', .int .i64 d', .int .i64 e'])).run Tryz.prog w = .ok (.bool (decide (a = a') && (decide (b = b') && (decide (c = c') && (decide (d = d') && decide (e = e')))))) w := by
  by_cases h1 : a = a' <;> by_cases h2 : b = b' <;> by_cases h3 : c = c' <;> by_cases h4 : d = d' <;> by_cases h5 : e = e' <;> simp [go_sem, h1, h2, h3, h4, h5]
@[go_sem high] theorem run_neq_entry (a b c d e a' b' c' d' e' : Int) (w : World) : (binOp .neq 60 (.agg #[.int .i64 a, .int .i64 b, .int .i64 c, .int .i64 d, .int .i64 e]) (.agg #[.int .i64 a', .int .i64 b', .int .i64 c', .int .i64 d', .int .i64 e'])).run Tryz.prog w = .ok (.bool (!(decide (a = a') && (decide (b = b') && (decide (c = c') && (decide (d = d') && decide (e = e'))))))) w := by
  by_cases h1 : a = a' <;> by_cases h2 : b = b' <;> by_cases h3 : c = c' <;> by_cases h4 : d = d' <;> by_cases h5 : e = e' <;> simp [go_sem, h1, h2, h3, h4, h5]
end Go.Proofs.YtmlhoojcdidgkaaGreat

/-
  Plain words for the houses' arithmetic: ratios, rounding, taxes, bills. No Go in sight.
-/
namespace Go.Proofs.YtmlhoojcdidgkaaGreat
set_option linter.unusedSimpArgs false
set_option linter.unusedVariables false

def inB (n lo hi : Int) : Bool := decide (lo ≤ n ∧ n ≤ hi)
theorem inB_t {n lo hi : Int} (h1 : lo ≤ n) (h2 : n ≤ hi) : inB n lo hi = true := by unfold inB; simp; omega
theorem inB_f {n lo hi : Int} (h : n < lo ∨ hi < n) : inB n lo hi = false := by unfold inB; simp; omega
theorem inB_iff {n lo hi : Int} : inB n lo hi = true ↔ lo ≤ n ∧ n ≤ hi := by unfold inB; simp

/-! ### Ratios -/
def ratOk (n d : Int) : Bool := decide (1 ≤ d ∧ d ≤ 1000000 ∧ -1000000000 ≤ n ∧ n ≤ 1000000000 ∧ Int.gcd n d = 1)
theorem ratOk_iff {n d : Int} : ratOk n d = true ↔ 1 ≤ d ∧ d ≤ 1000000 ∧ -1000000000 ≤ n ∧ n ≤ 1000000000 ∧ Int.gcd n d = 1 := by unfold ratOk; simp
theorem ratOk_f {n d : Int} (h : d < 1 ∨ 1000000 < d ∨ n < -1000000000 ∨ 1000000000 < n) : ratOk n d = false := by
  unfold ratOk
  simp only [decide_eq_false_iff_not]
  omega
theorem ratOk_gcd {n d : Int} (h1 : 1 ≤ d) (h2 : d ≤ 1000000) (h3 : -1000000000 ≤ n) (h4 : n ≤ 1000000000) : ratOk n d = decide (Int.gcd n d = 1) := by
  unfold ratOk
  simp [h1, h2, h3, h4]
theorem gcd_step (a b : Int) : Int.gcd b (a % b) = Int.gcd a b := by
  rw [Int.gcd_comm a b, Int.gcd_comm b (a % b), Int.emod_def, Int.gcd_sub_mul_left_left]
  exact Int.gcd_comm _ _
theorem gcd_lo {n d : Int} (h : 1 ≤ d) : 1 ≤ ((n.gcd d : Nat) : Int) := by
  have := Int.gcd_pos_of_ne_zero_right n (show d ≠ 0 by omega)
  omega
theorem gcd_hi {n d : Int} (h : 1 ≤ d) : ((n.gcd d : Nat) : Int) ≤ d := by
  have := Int.le_of_dvd (show 0 < d by omega) (Int.gcd_dvd_right n d)
  omega
/-- n / g = n and d / g = d just where g = 1. -/
theorem gcd_same {n d : Int} (h : 1 ≤ d) : (n.tdiv (Int.gcd n d) = n ∧ d.tdiv (Int.gcd n d) = d) ↔ Int.gcd n d = 1 := by
  constructor
  · rintro ⟨_, h2⟩
    have hd : ((Int.gcd n d : Nat) : Int) ∣ d := Int.gcd_dvd_right n d
    rw [Int.tdiv_eq_ediv_of_nonneg (by omega)] at h2
    have h3 := Int.ediv_mul_cancel hd
    rw [h2] at h3
    have h4 : d * ((Int.gcd n d : Nat) : Int) = d * 1 := by omega
    have := Int.eq_of_mul_eq_mul_left (show d ≠ 0 by omega) h4
    omega
  · intro h1
    rw [h1]
    simp

/-! ### Rounding: n / d for d above 0; 1 down, 2 up, 3 to even -/
def rnd (n d way : Int) : Int :=
  if (way = 2 ∧ 0 < n % d) ∨ (way = 3 ∧ (d < 2 * (n % d) ∨ (2 * (n % d) = d ∧ (n / d) % 2 ≠ 0))) then n / d + 1 else n / d

theorem tdiv_floor (n : Int) {d : Int} (h : 1 ≤ d) : n / d = if n.tmod d < 0 then n.tdiv d - 1 else n.tdiv d := by
  have h1 := Int.tmod_add_mul_tdiv n d
  have h5 := Int.tmod_lt_of_pos n (show 0 < d by omega)
  have h6 := Int.lt_tmod_of_pos n (show 0 < d by omega)
  split
  · have := (Int.ediv_emod_unique (a := n) (b := d) (r := n.tmod d + d) (q := n.tdiv d - 1) (by omega)).2 ⟨by rw [Int.mul_sub]; omega, by omega, by omega⟩
    exact this.1
  · have := (Int.ediv_emod_unique (a := n) (b := d) (r := n.tmod d) (q := n.tdiv d) (by omega)).2 ⟨by omega, by omega, by omega⟩
    exact this.1
theorem tdiv_bd (n : Int) {d : Int} : -(n.natAbs : Int) ≤ n.tdiv d ∧ n.tdiv d ≤ n.natAbs := by
  have h1 : (n.tdiv d).natAbs ≤ n.natAbs := by
    rw [Int.natAbs_tdiv]
    exact Nat.div_le_self _ _
  omega

/-! ### Taxes and bills -/
structure Tax where
  id : Int
  place : Int
  night : Int
  n : Int
  d : Int
  first : Int
  round : Int
structure Bill where
  stay : Int
  channel : Int
  place : Int
  kind : Int
  frm : Int
  til : Int
  persons : Int
  price : Int
  keep : Int
def Tax.ok (t : Tax) : Bool := ratOk t.n t.d && inB t.n 0 t.d && (inB t.id 1 1000000 && inB t.place 1 99 && inB t.night 0 100000) && inB t.first 0 60 && inB t.round 1 3
def nightsOk (frm til : Int) : Bool := decide (0 ≤ frm ∧ frm < til ∧ til ≤ 366 ∧ til - frm ≤ 60)
def askOk (kind frm til persons : Int) : Bool := nightsOk frm til && inB kind 1 20 && inB persons 1 8
def Bill.ok (b : Bill) : Bool := askOk b.kind b.frm b.til b.persons && (inB b.stay 1 1000000 && inB b.channel 0 29 && inB b.place 1 99) && inB b.price 0 1000000000 && inB b.keep 0 b.price
theorem Tax.ok_iff {t : Tax} : t.ok = true ↔ ratOk t.n t.d = true ∧ (0 ≤ t.n ∧ t.n ≤ t.d) ∧ (1 ≤ t.id ∧ t.id ≤ 1000000) ∧ (1 ≤ t.place ∧ t.place ≤ 99) ∧ (0 ≤ t.night ∧ t.night ≤ 100000) ∧ (0 ≤ t.first ∧ t.first ≤ 60) ∧ (1 ≤ t.round ∧ t.round ≤ 3) := by
  unfold Tax.ok
  simp [inB_iff, and_assoc]
theorem Bill.ok_iff {b : Bill} : b.ok = true ↔ (0 ≤ b.frm ∧ b.frm < b.til ∧ b.til ≤ 366 ∧ b.til - b.frm ≤ 60) ∧ (1 ≤ b.kind ∧ b.kind ≤ 20) ∧ (1 ≤ b.persons ∧ b.persons ≤ 8) ∧ (1 ≤ b.stay ∧ b.stay ≤ 1000000) ∧ (0 ≤ b.channel ∧ b.channel ≤ 29) ∧ (1 ≤ b.place ∧ b.place ≤ 99) ∧ (0 ≤ b.price ∧ b.price ≤ 1000000000) ∧ (0 ≤ b.keep ∧ b.keep ≤ b.price) := by
  unfold Bill.ok askOk nightsOk
  simp [inB_iff, and_assoc]
def Bill.nights (b : Bill) : Int := b.til - b.frm
def firstN (t : Tax) (b : Bill) : Int := if 0 < t.first then min (b.til - b.frm) t.first else b.til - b.frm
def exD (t : Tax) (b : Bill) : Int := (b.til - b.frm) * t.d
def exN (t : Tax) (b : Bill) : Int := t.night * firstN t b * b.persons * exD t b + t.n * b.price * firstN t b
def oneV (t : Tax) (b : Bill) : Int := rnd (exN t b) (exD t b) t.round
/-- What one tax of a bill is: the number and the error. -/
def one (t : Tax) (b : Bill) : Int × Int :=
  if (!t.ok || !b.ok) = true then (0, 1) else if t.place ≠ b.place then (0, 0) else if 1000000000 < oneV t b then (0, 3) else (oneV t b, 0)
def taxesOk (l : List Tax) : Bool := decide (l.length ≤ 50) && l.all Tax.ok && decide ((l.map Tax.id).Nodup)
theorem taxesOk_iff {l : List Tax} : taxesOk l = true ↔ l.length ≤ 50 ∧ (∀ j (h : j < l.length), l[j].ok = true) ∧ ∀ j k (hj : j < l.length) (hk : k < l.length), j < k → l[j].id ≠ l[k].id := by
  unfold taxesOk
  rw [Bool.and_eq_true, Bool.and_eq_true, decide_eq_true_eq, decide_eq_true_eq, List.all_eq_true, List.Nodup, List.pairwise_map, List.pairwise_iff_getElem, and_assoc]
  refine and_congr Iff.rfl (and_congr ?_ Iff.rfl)
  exact ⟨fun h j hj => h _ (List.getElem_mem hj), fun h x hx => by obtain ⟨j, hj, rfl⟩ := List.getElem_of_mem hx; exact h j hj⟩
theorem taxesOk_bad {l : List Tax} {j : Nat} (hj : j < l.length) (h : l[j].ok = false) : taxesOk l = false := by
  cases e : taxesOk l with
  | false => rfl
  | true => rw [(taxesOk_iff.1 e).2.1 j hj] at h; cases h
theorem taxesOk_twice {l : List Tax} {j k : Nat} (hj : j < l.length) (hk : k < l.length) (hjk : j < k) (h : l[j].id = l[k].id) : taxesOk l = false := by
  cases e : taxesOk l with
  | false => rfl
  | true => exact absurd h ((taxesOk_iff.1 e).2.2 j k hj hk hjk)
theorem taxesOk_long {l : List Tax} (h : 50 < l.length) : taxesOk l = false := by
  cases e : taxesOk l with
  | false => rfl
  | true => have := (taxesOk_iff.1 e).1; omega
/-- All taxes of a bill: each one, the sum, and the error. -/
def allT (l : List Tax) (b : Bill) : List Int × Int × Int :=
  if (!taxesOk l || !b.ok) = true then ([], 0, 1) else
    match l.find? (fun t => (one t b).2 != 0) with
    | some t => ([], 0, (one t b).2)
    | none => if 1000000000 < (l.map fun t => (one t b).1).sum then ([], 0, 3) else (l.map fun t => (one t b).1, (l.map fun t => (one t b).1).sum, 0)

theorem one_bd (t : Tax) (b : Bill) : 0 ≤ (one t b).1 ∧ (one t b).1 ≤ 1000000000 := by
  unfold one
  split
  · simp
  · rename_i h
    split
    · simp
    · split
      · simp
      · rename_i h3
        refine ⟨?_, by simpa using h3⟩
        have hb : b.ok = true := by simp at h; exact h.2
        have ht : t.ok = true := by simp at h; exact h.1
        obtain ⟨h1, h2, _, _, h5, h6, _⟩ := Tax.ok_iff.1 ht
        obtain ⟨g1, _, g3, _, _, _, g7, _⟩ := Bill.ok_iff.1 hb
        obtain ⟨r1, _⟩ := ratOk_iff.1 h1
        have hf : 0 ≤ firstN t b := by unfold firstN; split <;> omega
        have hd : 0 ≤ exD t b := Int.mul_nonneg (by omega) (by omega)
        have hn : 0 ≤ exN t b := Int.add_nonneg (Int.mul_nonneg (Int.mul_nonneg (Int.mul_nonneg (by omega) hf) (by omega)) hd) (Int.mul_nonneg (Int.mul_nonneg (by omega) (by omega)) hf)
        have hq : 0 ≤ exN t b / exD t b := Int.ediv_nonneg hn hd
        show 0 ≤ rnd _ _ _
        unfold rnd
        split <;> omega
def onesT (l : List Tax) (b : Bill) : List Int := l.map fun t => (one t b).1
theorem sum_bd {l : List Int} {B : Int} (h : ∀ x ∈ l, 0 ≤ x ∧ x ≤ B) : 0 ≤ l.sum ∧ l.sum ≤ l.length * B := by
  induction l with
  | nil => simp
  | cons x l ih =>
    have h1 := ih (fun y hy => h y (by simp [hy]))
    have h2 := h x (by simp)
    rw [List.sum_cons, List.length_cons]
    have e : ((l.length + 1 : Nat) : Int) * B = l.length * B + B := by rw [Int.natCast_add, Int.add_mul]; simp
    omega
theorem onesT_sum_bd (l : List Tax) (b : Bill) : 0 ≤ (onesT l b).sum ∧ (onesT l b).sum ≤ l.length * 1000000000 := by
  have := sum_bd (l := onesT l b) (B := 1000000000) (by
    intro x hx
    obtain ⟨t, _, rfl⟩ := List.mem_map.1 hx
    exact one_bd t b)
  simpa [onesT] using this
theorem onesT_snoc {l : List Tax} {b : Bill} {m : Nat} (h : m < l.length) : onesT (l.take (m + 1)) b = onesT (l.take m) b ++ [(one l[m] b).1] := by
  unfold onesT
  rw [List.take_succ_eq_append_getElem h, List.map_append]
  rfl
theorem allT_arg {l : List Tax} {b : Bill} (h : (!taxesOk l || !b.ok) = true) : allT l b = ([], 0, 1) := by unfold allT; rw [if_pos h]
theorem allT_err {l : List Tax} {b : Bill} {m : Nat} (h : (!taxesOk l || !b.ok) = false) (hm : m < l.length) (he : (one l[m] b).2 ≠ 0) (hn : ∀ j (h : j < l.length), j < m → (one l[j] b).2 = 0) : allT l b = ([], 0, (one l[m] b).2) := by
  have hf : l.find? (fun t => (one t b).2 != 0) = some l[m] := by
    rw [List.find?_eq_some_iff_getElem]
    exact ⟨by simpa using he, m, hm, rfl, fun j hj => by simpa using hn j (by omega) hj⟩
  unfold allT
  rw [if_neg (by rw [h]; simp), hf]
theorem allT_ok {l : List Tax} {b : Bill} (h : (!taxesOk l || !b.ok) = false) (hn : ∀ j (h : j < l.length), (one l[j] b).2 = 0) : allT l b = if 1000000000 < (onesT l b).sum then ([], 0, 3) else (onesT l b, (onesT l b).sum, 0) := by
  have hf : l.find? (fun t => (one t b).2 != 0) = none := by
    rw [List.find?_eq_none]
    intro t ht
    obtain ⟨j, hj, rfl⟩ := List.getElem_of_mem ht
    simpa using hn j hj
  unfold allT
  rw [if_neg (by rw [h]; simp), hf]
  rfl

end Go.Proofs.YtmlhoojcdidgkaaGreat

/-
  Contracts of package ratio (as far as it is reached) and of its reference.
-/
namespace Go.Proofs.YtmlhoojcdidgkaaGreat
set_option linter.unusedSimpArgs false
set_option linter.unusedVariables false
open Go.RowKit
open Go.Sort (grow size_grow)

set_option maxHeartbeats 1000000

theorem size_any (n : Int) (w : World) (h1 : -9000000000000000000 ≤ n) (h2 : n ≤ 9000000000000000000) :
    Calls Tryz.prog 104 #[.int .i64 n] w fun e w' => e = .returned (.int .i64 n.natAbs) ∧ w = w' := by
  go_enter Tryz.func104, Tryz.ntmps104
  go_wp2
  all_goals
    go_ret
    exact ⟨ret_int (by omega), rfl⟩

theorem common_any (k : Nat) : ∀ (a b : Int) (w : World) (pc : Addr), b.toNat ≤ k → 0 ≤ a → 0 ≤ b → a ≤ 9000000000000000000 → b ≤ 9000000000000000000 →
    w.cell? pc = some (.func (.func 129) #[] #[.pointer (some pc)]) →
    Calls Tryz.prog 129 #[.int .i64 a, .int .i64 b, .pointer (some pc)] w fun e w' => e = .returned (.int .i64 (Int.gcd a b)) ∧ ∃ n, w' = w.drewN n := by
  induction k with
  | zero =>
    intro a b w pc hk ha hb ha2 hb2 hc
    obtain rfl : b = 0 := by omega
    go_enter Tryz.func129, Tryz.ntmps129
    go_wp2_with fail
    go_ret
    exact ⟨ret_int (by simp [Int.natAbs_of_nonneg ha]), 0, rfl⟩
  | succ k ih =>
    intro a b w pc hk ha hb ha2 hb2 hc
    by_cases h0 : b = 0
    · subst h0
      go_enter Tryz.func129, Tryz.ntmps129
      go_wp2_with fail
      go_ret
      exact ⟨ret_int (by simp [Int.natAbs_of_nonneg ha]), 0, rfl⟩
    · have h1 : 1 ≤ b := by omega
      have h3 : (b == 0) = false := by simpa using h0
      have hr := Int.emod_lt_of_pos a (show 0 < b by omega)
      have hr0 := Int.emod_nonneg a h0
      have htm : a.tmod b = a % b := Int.tmod_eq_emod_of_nonneg ha
      go_enter Tryz.func129, Tryz.ntmps129
      go_wp2_with fail
      go_quiet ((go_at_call 129; exact Calls.quiet_of (ih b (a % b) _ pc (by omega) (by omega) (by omega) (by omega) (by omega) hc)))
      go_wp2_with fail
      go_ret
      exact ⟨ret_int (by rw [← gcd_step a b]), _, rfl⟩

theorem quiet_l {P : Program} {f : FuncId} {args : Array Value} {w : World} {n : Nat} {v : Value}
    (h : Calls P f args (w.drewN n) fun e w' => e = .returned v ∧ w.drewN n = w') : Calls P f args (w.drewN n) fun e w'' => e = .returned v ∧ ∃ m, w'' = w.drewN m :=
  h.mono fun _ _ ⟨he, hm⟩ => ⟨he, n, hm.symm⟩

theorem reduced_any (n d : Int) (w : World) (h1 : -1000000000000000000 ≤ n) (h2 : n ≤ 1000000000000000000) (h3 : 1 ≤ d) (h4 : d ≤ 1000000000000000000) :
    Calls Tryz.prog 117 #[.agg #[.int .i64 n, .int .i64 d]] w fun e w' => e = .returned (.agg #[.int .i64 (n.tdiv (Int.gcd n d)), .int .i64 (d.tdiv (Int.gcd n d))]) ∧ Below w.heap.size w w' := by
  have g1 : ((n.natAbs : Int)).gcd d = n.gcd d := by simp [Int.gcd]
  have g2 := gcd_lo (n := n) h3
  have g3 := gcd_hi (n := n) h3
  have g4 : d.tdiv (Int.gcd n d) = d / (Int.gcd n d) := tdiv_nn (by omega)
  have G4 := Lib.hid g4
  clear g4
  go_enter Tryz.func117, Tryz.ntmps117
  go_wp2_with fail
  go_quiet (first
    | (go_at_call 104; exact quiet_l (size_any n _ (by omega) (by omega)))
    | (go_at_call 129; exact Calls.quiet_of (common_any d.toNat n.natAbs d _ _ (by omega) (by omega) (by omega) (by omega) (by omega) (by go_simp))))
  go_wp2_with fail
  go_region
  go_wp2
  refine bodyPost_ret (v := .agg #[.int .i64 (n.tdiv (Int.gcd n d)), .int .i64 (d / (Int.gcd n d))]) (by simp [results, Tryz.results117, go_sem]) rfl ⟨by rw [G4.out], ?_⟩
  repeat' (first
    | (with_reducible exact Below.refl _ _)
    | (with_reducible assumption)
    | (with_reducible refine below_drewN ?_ _)
    | (with_reducible refine Below.drew ?_)
    | (with_reducible refine below_regrown_up _ _ ?_ ?_)
    | (with_reducible refine Below.alloc ?_ ?_ _)
    | (with_reducible refine Below.setCell ?_ ?_ _)
    | (with_reducible refine below_up ?_ ?_ (by assumption))
    | (with_reducible exact Nat.le_refl _)
    | omega
    | (simp; done)
    | (simp; omega))

theorem ratValid_any (n d : Int) (w : World) :
    Calls Tryz.prog 94 #[.agg #[.int .i64 n, .int .i64 d]] w fun e w' => e = .returned (.bool (ratOk n d)) ∧ Below w.heap.size w w' := by
  by_cases hb : 1 ≤ d ∧ d ≤ 1000000 ∧ -1000000000 ≤ n ∧ n ≤ 1000000000
  · obtain ⟨h1, h2, h3, h4⟩ := hb
    have hg := gcd_same (n := n) h1
    have hr := ratOk_gcd h1 h2 h3 h4
    have HG := Lib.hid hg
    have HR := Lib.hid hr
    clear hg hr
    go_enter Tryz.func94, Tryz.ntmps94
    go_wp2_with fail
    refine wp_region_quiet_below (by kernel_rfl) (by kernel_rfl) ?_
    repeat (quiet_step ((go_at_call 117; exact quiet_b (reduced_any n d _ (by omega) (by omega) (by omega) (by omega)))))
    refine wpQuiet_nil ?_
    intro _ hw'
    obtain ⟨⟨dq, osq⟩, hw''⟩ := hw'
    subst hw''
    go_wp2_with fail
    go_ret
    refine ⟨ret_bool ?_, ?_⟩
    · rw [HR.out, Bool.eq_iff_iff]
      simpa using HG.out
    repeat' (first
      | (with_reducible exact Below.refl _ _)
      | (with_reducible assumption)
      | (with_reducible refine below_drewN ?_ _)
      | (with_reducible refine Below.drew ?_)
      | (with_reducible refine below_regrown_up _ _ ?_ ?_)
      | (with_reducible refine Below.alloc ?_ ?_ _)
      | (with_reducible refine Below.setCell ?_ ?_ _)
      | (with_reducible refine below_up ?_ ?_ (by assumption))
      | (with_reducible exact Nat.le_refl _)
      | omega
      | (simp; done)
      | (simp; omega))
  · go_enter Tryz.func94, Tryz.ntmps94
    go_wp2_with fail
    all_goals
      go_ret
      refine ⟨ret_bool ?_, (Below.refl _ _).alloc (Nat.le_refl _) _⟩
      first
        | exact (ratOk_f (by omega)).symm
        | (exfalso; omega)

theorem abs_any (n : Int) (w : World) (h1 : -9000000000000000000 ≤ n) (h2 : n ≤ 9000000000000000000) :
    Calls Tryz.prog 92 #[.int .i64 n] w fun e w' => e = .returned (.int .i64 n.natAbs) ∧ w = w' := by
  go_enter Tryz.func92, Tryz.ntmps92
  go_wp2
  all_goals
    go_ret
    exact ⟨ret_int (by omega), rfl⟩

theorem gcd_any (a b : Int) (w : World) (ha : 0 ≤ a) (hb : 0 ≤ b) (ha2 : a ≤ 9000000000000000000) (hb2 : b ≤ 9000000000000000000) :
    Calls Tryz.prog 91 #[.int .i64 a, .int .i64 b] w fun e w' => e = .returned (.int .i64 (Int.gcd a b)) ∧ w = w' := by
  go_enter Tryz.func91, Tryz.ntmps91
  go_wp2
  go_loop [0, 1, 5] (fun x y _ => ∃ p q : Int, x = .int .i64 p ∧ y = .int .i64 q ∧ 0 ≤ p ∧ 0 ≤ q ∧ p ≤ 9000000000000000000 ∧ q ≤ 9000000000000000000 ∧ Hid (Int.gcd p q = Int.gcd a b)) (fun _ y _ => (intOf y).toNat)
  case atStart => exact ⟨a, b, rfl, rfl, ha, hb, ha2, hb2, Lib.hid rfl⟩
  case round =>
    obtain ⟨p, q, rfl, rfl, hp, hq, hp2, hq2, hg⟩ := hrel
    by_cases h0 : q = 0
    · subst h0
      go_wp2
      go_ret
      refine ⟨ret_int ?_, rfl⟩
      rw [← hg.out]
      simp [Int.natAbs_of_nonneg hp]
    · have h1 : 1 ≤ q := by omega
      have h3 : (q != 0) = true := by simpa using h0
      have hr := Int.emod_lt_of_pos p (show 0 < q by omega)
      have hr0 := Int.emod_nonneg p h0
      go_wp2
      go_round
      case rel => exact ⟨q, p % q, rfl, rfl, by omega, by omega, by omega, by omega, Lib.hid ((gcd_step p q).trans hg.out)⟩
      case measure => simp [intOf]; omega

theorem rvalid_any (n d : Int) (w : World) :
    Calls Tryz.prog 60 #[.agg #[.int .i64 n, .int .i64 d]] w fun e w' => e = .returned (.bool (ratOk n d)) ∧ Below w.heap.size w w' := by
  by_cases hb : 1 ≤ d ∧ d ≤ 1000000 ∧ -1000000000 ≤ n ∧ n ≤ 1000000000
  · obtain ⟨h1, h2, h3, h4⟩ := hb
    have g1 : ((n.natAbs : Int)).gcd d = n.gcd d := by simp [Int.gcd]
    have hr := ratOk_gcd h1 h2 h3 h4
    have HG := Lib.hid g1
    have HR := Lib.hid hr
    clear g1 hr
    go_enter Tryz.func60, Tryz.ntmps60
    go_wp2_with fail
    refine wp_region_quiet_below (by kernel_rfl) (by kernel_rfl) ?_
    repeat (quiet_step ((first | (go_at_call 92; exact quiet_s (abs_any n _ (by omega) (by omega))) | (go_at_call 91; exact quiet_s (gcd_any n.natAbs d _ (by omega) (by omega) (by omega) (by omega))))))
    refine wpQuiet_nil ?_
    intro _ hw'
    obtain ⟨⟨dq, osq⟩, hw''⟩ := hw'
    subst hw''
    go_wp2_with fail
    go_ret
    refine ⟨ret_bool ?_, ?_⟩
    · rw [HR.out, Bool.eq_iff_iff, HG.out]
      simp
      omega
    repeat' (first
      | (with_reducible exact Below.refl _ _)
      | (with_reducible assumption)
      | (with_reducible refine below_drewN ?_ _)
      | (with_reducible refine Below.drew ?_)
      | (with_reducible refine below_regrown_up _ _ ?_ ?_)
      | (with_reducible refine Below.alloc ?_ ?_ _)
      | (with_reducible refine Below.setCell ?_ ?_ _)
      | (with_reducible refine below_up ?_ ?_ (by assumption))
      | (with_reducible exact Nat.le_refl _)
      | omega
      | (simp; done)
      | (simp; omega))
  · go_enter Tryz.func60, Tryz.ntmps60
    go_wp2_with fail
    all_goals
      go_ret
      refine ⟨ret_bool ?_, (Below.refl _ _).alloc (Nat.le_refl _) _⟩
      first
        | exact (ratOk_f (by omega)).symm
        | (exfalso; omega)

end Go.Proofs.YtmlhoojcdidgkaaGreat
