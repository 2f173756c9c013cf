/-
  slices.SortFunc at triples.
-/
import Derived.Shelf.SlSortCmp.WholeK
import Derived.Shelf.SlSortCmp.NoneTotal
import Derived.Shelf.SlicesG.Cmp
import Derived.Shelf.Lay
import Derived.Ground.SlsfProg
import Derived.Ground.SlgcProg
import Derived.Test.YtphapnooonjnmaaIntEl
import Derived.Test.YtphapnooonjnmaaSpP
namespace Go.Proofs.Ytphapnooonjnmaa
set_option linter.unusedSimpArgs false
set_option linter.unusedVariables false
open Go.Shelf Go.RowKit Go.Lib Go.Sort
set_option maxRecDepth 100000
shelf_lay_g SlLaysF0.n6 Slsf 6 at Try 60 as sortE
shelf_lay_g SlLaysC2.n5 Slgc 5 at Try 62 as cmpI
@[go_sem high] theorem run_eql_span (a b c d : Int) (w : World) : (binOp .eql 27 (.agg #[.int .i64 a, .int .i64 b]) (.agg #[.int .i64 c, .int .i64 d])).run Try.prog w = .ok (.bool (decide (a = c) && decide (b = d))) w := by
  by_cases h1 : a = c <;> by_cases h2 : b = d <;> simp [go_sem, h1, h2]
@[go_sem high] theorem run_neq_span (a b c d : Int) (w : World) : (binOp .neq 27 (.agg #[.int .i64 a, .int .i64 b]) (.agg #[.int .i64 c, .int .i64 d])).run Try.prog w = .ok (.bool (!(decide (a = c) && decide (b = d)))) w := by
  by_cases h1 : a = c <;> by_cases h2 : b = d <;> simp [go_sem, h1, h2]
@[go_sem high] theorem run_eql_bb (a b c d : Bool) (w : World) : (binOp .eql 66 (.agg #[.bool a, .bool b]) (.agg #[.bool c, .bool d])).run Try.prog w = .ok (.bool (a == c && b == d)) w := by
  cases a <;> cases b <;> cases c <;> cases d <;> kernel_rfl
@[go_sem high] theorem run_neq_bb (a b c d : Bool) (w : World) : (binOp .neq 66 (.agg #[.bool a, .bool b]) (.agg #[.bool c, .bool d])).run Try.prog w = .ok (.bool (!(a == c && b == d))) w := by
  cases a <;> cases b <;> cases c <;> cases d <;> kernel_rfl
abbrev E3 := Int × Int × Int
def e3C (x : E3) : List Value := [.int .i64 x.1, .int .i64 x.2.1, .int .i64 x.2.2]
theorem e3_len (x : E3) : (e3C x).length = 3 := rfl
theorem e3_one (x : E3) : ∀ u ∈ e3C x, u.oneCell' = true := by simp [e3C, Value.oneCell']
abbrev SlE3 (w : World) (A : Option Addr) (l : List E3) : Prop := Sl w w.heap.size 3 e3C A l
theorem cmp_any (x y : Int) (w : World) : Calls Try.prog 62 #[.int .i64 x, .int .i64 y] w fun e w' => e = .returned (.int .i64 (Lib.compareInt x y)) ∧ w' = w := AnyG.cmp_Compare_int cmpI x y w
theorem holds_of_sl {w : World} {B blk off : Nat} {l : List E3} (h : Sl w B 3 e3C (some ⟨blk, off, none⟩) l) (hf : ∀ j, w.frozen? ⟨blk, j, none⟩ = false) : HoldsK e3C 3 w blk off l.toArray := by
  intro j hj
  rw [size_flatK, List.size_toArray] at hj
  have hk : j / 3 < l.length := by omega
  have hr : j % 3 < 3 := Nat.mod_lt _ (by omega)
  rw [get_flatK _ _ _ _ (by simpa using hj)]
  have e1 : l.toArray[j / 3]! = l[j / 3] := by rw [getElem!_pos _ _ (by simpa using hk)]; simp
  have hx : (e3C l[j / 3])[j % 3]? = some (e3C l[j / 3])[j % 3]! := by
    rw [getElem!_pos _ _ (by rw [e3_len]; exact hr)]
    exact List.getElem?_eq_getElem (by rw [e3_len]; exact hr)
  rw [e1]
  have h2 := (h.cells hk).2 (j % 3) _ hx
  rw [show off + j / 3 * 3 + j % 3 = off + j by omega] at h2
  exact ⟨h2, hf _⟩
theorem own_parts {α : Type} {w : World} {base size g cap n : Nat} {e : TypeId} {enc : α → List Value} {L : List α} (h : OwnL w base e size enc (.slice (some ⟨g, 0, none⟩) n cap) L) (hn : 0 < n) : n = L.length ∧ base ≤ g ∧ n ≤ cap ∧ cap ≤ maxLen ∧ ∃ cur, w.heap[g]? = some (.cells cur e (0, 0)) ∧ cur.size = cap * size ∧ cur.toList.take (L.length * size) = L.flatMap enc := by
  rcases h.2 with ⟨h1, h0⟩ | ⟨g', cap', cur, h1, hb, hg, h2, h3, h4, h5⟩
  · injection h1 with h1 h2
    cases h1
  · injection h1 with h1 h6 h7
    injection h1 with h1
    injection h1 with h1
    subst h1 h6 h7
    exact ⟨rfl, hb, h2, h3, cur, hg, h4, h5⟩
/-- One cell of a row of the call's own is written. -/
theorem own_set {α : Type} {w : World} {base size g cap n : Nat} {e : TypeId} {enc : α → List Value} {L L' : List α} (he : ∀ x, (enc x).length = size) (h : OwnL w base e size enc (.slice (some ⟨g, 0, none⟩) n cap) L) (hn : 0 < n) {i : Nat} {v : Value} (hi : i < L.length * size)
    (hl : L'.length = L.length) (hf : L'.flatMap enc = (L.flatMap enc).set i v) : OwnL (w.setCell ⟨g, i, none⟩ v) base e size enc (.slice (some ⟨g, 0, none⟩) n cap) L' := by
  obtain ⟨h0, hb, h2, h3, cur, hg, h4, h5⟩ := own_parts h hn
  refine ⟨flat_len he _, .inr ⟨g, cap, _, by rw [h0, hl], hb, heap_setCell_same w g i cur e v hg, by omega, h3, by simp [h4], ?_⟩⟩
  rw [Array.toList_setIfInBounds, hl, List.take_set, h5, hf]
theorem own_open {α : Type} {w : World} {base size : Nat} {e : TypeId} {enc : α → List Value} {v : Value} {R : List α} (he : ∀ x, (enc x).length = size) (h : OwnL w base e size enc v R) (hn : 0 < R.length) :
    ∃ g cap, v = .slice (some ⟨g, 0, none⟩) R.length cap ∧ base ≤ g ∧ g < w.heap.size ∧ R.length ≤ cap ∧ Sl w w.heap.size size enc (some ⟨g, 0, none⟩) R ∧ ∀ j, w.frozen? ⟨g, j, none⟩ = false := by
  obtain ⟨g, cap, rfl, hgb, hgl⟩ := World.ownsRow.form h hn
  obtain ⟨A, c, e, h1, _, h2⟩ := h.sl he
  injection e with e1 _ e3
  subst e1 e3
  obtain ⟨_, _, _, _, cur, hg, _, _⟩ := own_parts h hn
  refine ⟨g, _, rfl, hgb, hgl, h1, h2, fun j => ?_⟩
  unfold World.frozen?
  simp [hg]
theorem sl_of_holds {w : World} {B blk off : Nat} {d : Array E3} (h : HoldsK e3C 3 w blk off d) (hB : blk < B) : Sl w B 3 e3C (some ⟨blk, off, none⟩) d.toList := fun _ => by
  refine ⟨blk, off, rfl, hB, fun k hk r u hu => ?_⟩
  have hk' : k < d.size := by simpa using hk
  have hr : r < 3 := by
    rcases Nat.lt_or_ge r 3 with h3 | h3
    · exact h3
    · rw [List.getElem?_eq_none (by rw [e3_len]; exact h3)] at hu; cases hu
  have h2 := (h.cell hk' hr).1
  rw [h2, getElem!_pos d k hk']
  have h3 : (e3C d[k])[r]! = u := by
    have hu' : (e3C d[k])[r]? = some u := by simpa using hu
    rw [getElem!_pos _ _ (by rw [e3_len]; exact hr)]
    have := List.getElem?_eq_some_iff.1 hu'
    exact this.2
  rw [h3]
theorem below_sort {w : World} {blk off n : Nat} {d : Array E3} {os : Array Obj} (base : Nat) (hb : base ≤ blk) (hlt : blk < w.heap.size) : Below base w (sortWorldK e3C 3 w blk off n d os) := by
  refine ⟨rfl, rfl, rfl, ?_, fun k hk => ?_⟩
  · simp [sortWorldK, Sort.grow, putRowK, putRow, mapBlock, Sort.ahead]
  · simp only [sortWorldK, Sort.grow, putRowK, putRow, mapBlock, Sort.ahead]
    rw [Array.getElem?_append_left (by simp; omega), Array.getElem?_modify, if_neg (by omega)]
theorem holds_sort {w : World} {blk off n : Nat} {d d' : Array E3} {os : Array Obj} (h : HoldsK e3C 3 w blk off d) (hlt : blk < w.heap.size) (hs : d'.size = d.size) : HoldsK e3C 3 (sortWorldK e3C 3 w blk off n d' os) blk off d' :=
  holdsK_grow (enc := e3C) (k := 3) _ os blk off d' (by simp [putRowK, putRow, mapBlock, Sort.ahead]; exact hlt) (holdsK_putRowK (enc := e3C) (k := 3) (Sort.ahead w n) blk off d d' h hs)
/-- What is to be known of the function that compares. -/
def CmpOf (g : Nat) (cf : E3 → E3 → Int) : Prop := (∀ args w, (callFunc g args).run Try.prog w = .ok (.enter g args) w) ∧ ∀ (x y : E3) (W : World), Calls Try.prog g #[.agg #[.int .i64 x.1, .int .i64 x.2.1, .int .i64 x.2.2], .agg #[.int .i64 y.1, .int .i64 y.2.1, .int .i64 y.2.2]] W fun e w' => e = .returned (.int .i64 (cf x y)) ∧ ∃ q os', w' = grow (W.drewN q) os'
theorem sort_own {g base : Nat} {cf : E3 → E3 → Int} (hC : CmpOf g cf) (hO : SWO (ltOf cf)) {v : Value} {l : List E3} {w : World} (hown : OwnL w base 79 3 e3C v l) (hn : l.length ≤ 1000000000) :
    Calls Try.prog 60 #[v, .func (.func g) #[] #[]] w fun e w' => e = .returned (.tuple #[]) ∧ (∃ l' : List E3, l'.Perm l ∧ (l'.Pairwise fun x y => ltOf cf y x = false) ∧ ∃ A c, v = .slice A l'.length c ∧ SlE3 w' A l' ∧ ∀ k, v.ownBlock = some k → base ≤ k ∧ k < w'.heap.size ∧ ∃ cs fr, w'.heap[k]? = some (.cells cs 79 fr)) ∧ Below base w w' := by
  by_cases h0 : 0 < l.length
  · obtain ⟨blk, cap, rfl, hb, hlt, hcap, hsl, hfz⟩ := own_open e3_len hown h0
    have hH := holds_of_sl hsl hfz
    have hcon := AnyQ.slices_SortFunc sortE 3 (fun w => by kernel_rfl) (fun w => by kernel_rfl) e3C e3_len e3_one cf hO g #[] blk 0 cap l.toArray w hC.1 (fun m os dk _ x y => hC.2 x y _) hH hlt (by simp; omega)
    refine hcon.mono ?_
    rintro e w' ⟨rfl, d', n, os, hp, hs, rfl⟩
    obtain ⟨p1, _, p3⟩ := hp
    have hd : d'.size = l.length := by simpa using p1
    refine ⟨rfl, ⟨d'.toList, ?_, ?_, some ⟨blk, 0, none⟩, cap, by simp [hd], ?_, ?_⟩, below_sort base hb hlt⟩
    · have e1 : d'.extract 0 l.toArray.size = d' := by rw [← p1]; simp
      have e2 : l.toArray.extract 0 l.toArray.size = l.toArray := by simp
      rw [e1, e2] at p3
      simpa using p3
    · rw [List.pairwise_iff_getElem]
      intro i j hi hj hij
      have hi' : i < d'.size := by simpa using hi
      have hj' : j < d'.size := by simpa using hj
      have := hs i j (Nat.zero_le _) hij (by simp; omega)
      rw [getElem!_pos d' i hi', getElem!_pos d' j hj'] at this
      simpa using this
    · have hlt' : blk < (sortWorldK e3C 3 w blk 0 n d' os).heap.size := Nat.lt_of_lt_of_le hlt (below_sort (n := n) (off := 0) (d := d') (os := os) base hb hlt).size
      exact sl_of_holds (holds_sort hH hlt (by simpa using p1)) hlt'
    · intro k hk
      have ek : k = blk := by simpa [Value.ownBlock] using hk.symm
      subst ek
      obtain ⟨_, _, _, _, cur, hg, _, _⟩ := own_parts hown h0
      refine ⟨hb, Nat.lt_of_lt_of_le hlt (below_sort (n := n) (off := 0) (d := d') (os := os) base hb hlt).size, ?_⟩
      have hgl := (Array.getElem?_eq_some_iff.1 hg).1
      simp only [sortWorldK, Sort.grow, putRowK, putRow, mapBlock, Sort.ahead]
      rw [Array.getElem?_append_left (by simpa using hgl), Array.getElem?_modify, if_pos rfl, hg]
      exact ⟨_, _, rfl⟩
  · have hl : l = [] := List.eq_nil_of_length_eq_zero (by omega)
    subst hl
    obtain ⟨A, c, rfl, _, _⟩ := hown.form
    refine (AnyF.slices_SortFunc_none { sortE with } A c _ w).mono ?_
    rintro e w' ⟨rfl, rfl⟩
    refine ⟨rfl, ⟨[], List.Perm.refl _, List.Pairwise.nil, A, c, rfl, Sl.nil_, fun k hk => ?_⟩, Below.refl _ _⟩
    rcases hown.2 with ⟨h1, _⟩ | ⟨g', cap', cur, h1, hb, hg, _⟩
    · rw [h1] at hk; simp [Value.ownBlock] at hk
    · rw [h1] at hk
      have : g' = k := by simpa [Value.ownBlock] using hk
      subst this
      exact ⟨hb, (Array.getElem?_eq_some_iff.1 hg).1, _, _, hg⟩
theorem lt_pos (x y : E3) : ltOf (fun x y : E3 => Lib.compareInt x.1 y.1) x y = decide (x.1 < y.1) := by
  unfold ltOf Lib.compareInt
  by_cases h1 : x.1 < y.1
  · simp [h1]
  · by_cases h2 : y.1 < x.1 <;> simp [h1, h2]
theorem swo_pos : SWO (ltOf fun x y : E3 => Lib.compareInt x.1 y.1) where
  irrefl x := by rw [lt_pos]; simp
  trans x y z h1 h2 := by rw [lt_pos] at *; simp at *; omega
  ntrans x y z h1 h2 := by rw [lt_pos] at *; simp at *; omega
def cmpD (x y : E3) : Int := if Lib.compareInt x.1 y.1 ≠ 0 then Lib.compareInt x.1 y.1 else Lib.compareInt x.2.2 y.2.2
theorem lt_deep (x y : E3) : ltOf cmpD x y = decide (x.1 < y.1 ∨ x.1 = y.1 ∧ x.2.2 < y.2.2) := by
  unfold ltOf cmpD Lib.compareInt
  by_cases h1 : x.1 < y.1
  · simp [h1]
  · by_cases h2 : y.1 < x.1
    · simp [h1, h2]; omega
    · have e : x.1 = y.1 := by omega
      by_cases h3 : x.2.2 < y.2.2
      · simp [e, h3]
      · by_cases h4 : y.2.2 < x.2.2 <;> simp [e, h3, h4]
theorem swo_deep : SWO (ltOf cmpD) where
  irrefl x := by rw [lt_deep]; simp
  trans x y z h1 h2 := by rw [lt_deep] at *; simp at *; omega
  ntrans x y z h1 h2 := by rw [lt_deep] at *; simp at *; omega
end Go.Proofs.Ytphapnooonjnmaa
