/-
  Texts, one behind the other: FoW2, FoW3, FoW4.
-/
import Derived.Test.YtmlhoojcdidgkaaM12
import Derived.Test.YtmlhoojcdidgkaaM13
import Derived.StillTailTactics
import Derived.Deep.DeepCutAuto
/-
  Package folio: the books of a course, and what a deed may turn.
-/
namespace Go.Proofs.Ytmlhoojcdidgkaa
set_option linter.unusedSimpArgs false
set_option linter.unusedVariables false
open Go.RowKit
open Go.Sort (grow size_grow)

set_option maxHeartbeats 4000000
set_option maxRecDepth 100000
/-- Below a border only the blocks of a list may have turned; above it none but that of the entries, which are ev, then ev'. -/
structure Turn (S : List Nat) (B : Nat) (ev ev' : Value) (w w' : World) : Prop where
  os : w'.os = w.os
  tape : w'.tape = w.tape
  output : w'.output = w.output
  size : w.heap.size ≤ w'.heap.size
  block : ∀ k, k < B → k ∉ S → w'.heap[k]? = w.heap[k]?
  same : ∀ k, k < w.heap.size → k ∉ S → some k ≠ ev.ownBlock → w'.heap[k]? = w.heap[k]?
  own : ∀ b, ev'.ownBlock = some b → ev.ownBlock = some b ∨ w.heap.size ≤ b
theorem Turn.refl (S : List Nat) (B : Nat) (w : World) {ev : Value} : Turn S B ev ev w w := ⟨rfl, rfl, rfl, Nat.le_refl _, fun _ _ _ => rfl, fun _ _ _ _ => rfl, fun _ h => .inl h⟩
theorem Turn.trans {S : List Nat} {B : Nat} {e1 e2 e3 : Value} {w1 w2 w3 : World} (h : Turn S B e1 e2 w1 w2) (h' : Turn S B e2 e3 w2 w3) : Turn S B e1 e3 w1 w3 :=
  ⟨h'.os.trans h.os, h'.tape.trans h.tape, h'.output.trans h.output, Nat.le_trans h.size h'.size, fun k h1 h2 => (h'.block k h1 h2).trans (h.block k h1 h2),
    fun k h1 h2 h3 => (h'.same k (Nat.lt_of_lt_of_le h1 h.size) h2 (fun e => by
      rcases h.own k e.symm with h4 | h4
      · exact h3 h4.symm
      · omega)).trans (h.same k h1 h2 h3),
    fun b hb => by
      rcases h'.own b hb with h4 | h4
      · exact h.own b h4
      · exact .inr (Nat.le_trans h.size h4)⟩
theorem Turn.more {S S' : List Nat} {B : Nat} {ev ev' : Value} {w w' : World} (h : Turn S B ev ev' w w') (hs : ∀ k ∈ S, k ∈ S') : Turn S' B ev ev' w w' :=
  ⟨h.os, h.tape, h.output, h.size, fun k h1 h2 => h.block k h1 fun h3 => h2 (hs k h3), fun k h1 h2 h4 => h.same k h1 (fun h3 => h2 (hs k h3)) h4, h.own⟩
theorem Turn.grown {S : List Nat} {B : Nat} {ev ev' : Value} {w w' : World} (h : Below B w w') (hg : w.grownBy w' ev.ownBlock) (ho : ∀ b, ev'.ownBlock = some b → ev.ownBlock = some b ∨ w.heap.size ≤ b) : Turn S B ev ev' w w' :=
  ⟨h.os, h.tape, h.output, h.size, fun k h1 _ => h.block k h1, fun k h1 _ h3 => hg.block k h1 h3, ho⟩
theorem Turn.up {S : List Nat} {B : Nat} {ev ev' : Value} {w w1 w2 : World} (h : Turn S B ev ev' w w1) (hb : Below w1.heap.size w1 w2) (hB : B ≤ w1.heap.size) : Turn S B ev ev' w w2 :=
  h.trans ⟨hb.os, hb.tape, hb.output, hb.size, fun k h1 _ => hb.block k (by omega), fun k h1 _ _ => hb.block k h1, fun _ h => .inl h⟩
theorem Turn.set {S : List Nat} {B : Nat} {ev ev' : Value} {w w1 : World} (h : Turn S B ev ev' w w1) {g o : Nat} (hg : g ∈ S) (v : Value) : Turn S B ev ev' w (w1.setCell ⟨g, o, none⟩ v) :=
  h.trans ⟨rfl, rfl, rfl, by simp [World.setCell], fun k _ h2 => Below.heap_setCell _ _ _ _ (fun e => h2 (by rw [e]; exact hg)), fun k _ h2 _ => Below.heap_setCell _ _ _ _ (fun e => h2 (by rw [e]; exact hg)), fun _ h => .inl h⟩
theorem Turn.below {S : List Nat} {B L : Nat} {ev ev' : Value} {w w' : World} (h : Turn S B ev ev' w w') (hL : L ≤ B) (hS : ∀ k ∈ S, L ≤ k) : Below L w w' := ⟨h.os, h.tape, h.output, h.size, fun k hk => h.block k (by omega) fun h3 => by have := hS k h3; omega⟩
theorem Turn.acc {S : List Nat} {B g : Nat} {ev ev' : Value} {w w' : World} {a : Acc} (h : Turn S B ev ev' w w') (ha : AccIn w g a) (hg : g < B) (hn : g ∉ S) : AccIn w' g a := ha.of_eq (h.block g hg hn)
abbrev OwnEn (w : World) (base : Nat) (v : Value) (L : List Entry) : Prop := OwnL w base 46 5 Entry.cs v L
theorem OwnL.turn {α : Type} {w w' : World} {base B size : Nat} {e : TypeId} {enc : α → List Value} {v : Value} {L : List α} (h : OwnL w base e size enc v L) (ht : ∀ k, base ≤ k → k < w.heap.size → w'.heap[k]? = w.heap[k]?) (hz : w.heap.size ≤ w'.heap.size) : OwnL w' base e size enc v L := by
  refine ⟨h.1, ?_⟩
  rcases h.2 with h1 | ⟨g, cap, cur, h1, h2, h3, h4⟩
  · exact .inl h1
  · exact .inr ⟨g, cap, cur, h1, h2, by rw [ht g h2 (Array.getElem?_eq_some_iff.1 h3).1]; exact h3, h4⟩
/-- The cells of a course. -/
def crsCells (ev : Value) (day : Int) (gm : Nat) (V : Env) (At : Option Addr) (ct : Nat) : Array Value :=
  #[ev, .int .i64 day, .map (some gm), .slice At V.ts.length ct, .int .i64 V.p, .int .i64 V.d, .int .i64 V.k.fx, .int .i64 V.k.n, .int .i64 V.k.d, .int .i64 V.k.most]
/-- The block of a course, and its entries, which lie behind the border. -/
structure Bk (w : World) (gc gm base : Nat) (V : Env) (At : Option Addr) (ct : Nat) (es : List Entry) (day : Int) (ev : Value) : Prop where
  at_ : w.heap[gc]? = some (.cells (crsCells ev day gm V At ct) 73 (0, 0))
  own : OwnEn w base ev es
  lt : gc < base
  le : base ≤ w.heap.size
theorem Bk.cell {w : World} {gc gm base : Nat} {V : Env} {At : Option Addr} {ct : Nat} {es : List Entry} {day : Int} {ev : Value} (h : Bk w gc gm base V At ct es day ev) (o : Nat) : w.cell? ⟨gc, o, none⟩ = (crsCells ev day gm V At ct)[o]? := cell_of_row w gc o _ _ _ h.at_
theorem Bk.free {w : World} {gc gm base : Nat} {V : Env} {At : Option Addr} {ct : Nat} {es : List Entry} {day : Int} {ev : Value} (h : Bk w gc gm base V At ct es day ev) (o : Nat) : w.frozen? ⟨gc, o, none⟩ = false := by
  unfold World.frozen?
  have := h.at_
  simp [this]
theorem Bk.up {w w' : World} {gc gm base : Nat} {V : Env} {At : Option Addr} {ct : Nat} {es : List Entry} {day : Int} {ev : Value} (h : Bk w gc gm base V At ct es day ev) (hb : Below w.heap.size w w') : Bk w' gc gm base V At ct es day ev :=
  ⟨by rw [hb.block gc (by have := h.lt; have := h.le; omega)]; exact h.at_, h.own.below hb, h.lt, Nat.le_trans h.le hb.size⟩
/-- A cell of another block is written. -/
theorem Bk.set {w : World} {gc gm base : Nat} {V : Env} {At : Option Addr} {ct : Nat} {es : List Entry} {day : Int} {ev : Value} (h : Bk w gc gm base V At ct es day ev) {g : Nat} (hg : g < base) (hne : g ≠ gc) (o : Nat) (v : Value) : Bk (w.setCell ⟨g, o, none⟩ v) gc gm base V At ct es day ev :=
  ⟨by rw [Below.heap_setCell _ _ _ _ (by exact Ne.symm hne)]; exact h.at_, h.own.turn (B := 0) (fun k h1 _ => Below.heap_setCell _ _ _ _ (by show k ≠ g; omega)) (by simp [World.setCell]), h.lt, by simp [World.setCell]; exact h.le⟩
theorem AccIn.set {w : World} {g : Nat} {a a' : Acc} (h : AccIn w g a) {o : Nat} {v : Value} (he : a.cells.setIfInBounds o v = a'.cells) : AccIn (w.setCell ⟨g, o, none⟩ v) g a' := by
  unfold AccIn
  rw [heap_setCell_same w g o _ _ v h, he]
theorem AccIn.far {w : World} {g : Nat} {a : Acc} (h : AccIn w g a) {p : Addr} (hp : p.block ≠ g) (v : Value) : AccIn (w.setCell p v) g a := h.of_eq (Below.heap_setCell _ _ _ _ (Ne.symm hp))
/-- What 'move' leaves as it is. -/
def erOf {α : Type} (r : Except Int α) : Int := match r with | .error e => e | .ok _ => 0
def resOf {α : Type} (r : Except Int α) (x : α) : α := match r with | .error _ => x | .ok y => y
def Spare (gc : Nat) (ev : Value) (w w' : World) : Prop := ∀ k, k < w.heap.size → k ≠ gc → some k ≠ ev.ownBlock → w'.heap[k]? = w.heap[k]?
theorem Spare.refl (gc : Nat) (ev : Value) (w : World) : Spare gc ev w w := fun _ _ _ _ => rfl
theorem Spare.cell {gc : Nat} {ev : Value} {w w' : World} (h : Spare gc ev w w') {k o : Nat} (h1 : k < w.heap.size) (h2 : k ≠ gc) (h3 : some k ≠ ev.ownBlock) : w'.cell? ⟨k, o, none⟩ = w.cell? ⟨k, o, none⟩ := by
  unfold World.cell?
  rw [h k h1 h2 h3]
theorem move_any (gc gm base : Nat) (V : Env) (At : Option Addr) (ct : Nat) (es : List Entry) (day : Int) (ev : Value) (frm tgt cents ref : Int) (w : World) (h : Bk w gc gm base V At ct es day ev) (hl : es.length ≤ 6000) :
    Calls Try.prog 80 #[.pointer (some ⟨gc, 0, none⟩), .int .i64 frm, .int .i64 tgt, .int .i64 cents, .int .i64 ref] w fun e w' => e = .returned (.tuple #[]) ∧ (∃ ev', Bk w' gc gm base V At ct (mvE day frm tgt cents ref es) day ev' ∧ Turn [gc] base ev ev' w w') ∧ Spare gc ev w w' := by
  by_cases h0 : 0 < cents
  · have hE : mvE day frm tgt cents ref es = es ++ [⟨day, tgt, frm, cents, ref⟩] := by unfold mvE; rw [if_pos h0]
    have HE := Lib.hid hE
    clear hE
    have q0 : w.cell? ⟨gc, 0, none⟩ = some ev := h.cell 0
    have q1 : w.cell? ⟨gc, 1, none⟩ = some (.int .i64 day) := h.cell 1
    have f0 := h.free 0
    have hlt := h.lt
    have hle := h.le
    have hlz : gc < w.heap.size := by omega
    have HB := Lib.hid h
    go_enter Try.func80, Try.ntmps80
    go_wp2_with fail
    go_region_law (first
      | (go_loud (refine step_push _ (by rfl) (.tmp 16) (.tmp 26) 31 46 (by rfl) base 5 40 Entry.cs elemEnt ent_len ent_one ev es (by rfl) (HB.out.own.alloc _) _ 1 ⟨day, tgt, frm, cents, ref⟩ (by rfl) (by exact news_new _ _ _ _ rfl) (by omega) (by omega) (by first | omega | (simp; done) | (simp; omega)) _ (by first | rfl | (simp; done)) ?_); intro gg cap w4 hown4 hgrow4 hat4 hlt4; have hb4 : Below base w w4 := below_push (e := 46) (size := 5) (enc := Entry.cs) (L := es) ((Below.refl base w).drew.alloc hle _) (HB.out.own.alloc _) hgrow4 (by first | omega | (simp; done) | (simp; omega)); have u0 : w4.cell? ⟨gc, 0, none⟩ = some ev := (hb4.cell (p := ⟨gc, 0, none⟩) hlt).trans q0; have uf : w4.frozen? ⟨gc, 0, none⟩ = false := (hb4.frozen (p := ⟨gc, 0, none⟩) hlt).trans f0; have hgat : w4.heap[gc]? = w.heap[gc]? := hb4.block gc hlt))
    all_goals
      have HO := HB.out
      go_wp2_with fail
      go_end0
      refine ⟨rfl, ⟨.slice (some ⟨gg, 0, none⟩) (es.length + 1) cap, ?_, ?_⟩, fun k h1 h2 h3 => ?_⟩
      · rw [HE.out]
        refine ⟨(heap_setCell_same w4 gc 0 _ _ _ (hgat.trans HO.at_)).trans rfl, hown4.turn (B := 0) (fun k h1 _ => Below.heap_setCell _ _ _ _ (by show k ≠ gc; omega)) (by simp [World.setCell]), hlt, Nat.le_trans hle (by have := hb4.size; simp [World.setCell]; omega)⟩
      · refine ((Turn.refl [gc] base w).trans (e2 := ev) (e3 := .slice (some ⟨gg, 0, none⟩) (es.length + 1) cap) (w3 := w4) ⟨hb4.os, hb4.tape, hb4.output, hb4.size, fun k h1 _ => hb4.block k h1, fun k h1 _ h3 => ?_, fun b hb => ?_⟩).set (by simp) _
        · rw [hgrow4.block k (by simp; omega) h3]
          exact ((Below.refl w.heap.size w).drew.alloc (Nat.le_refl _) _).block k h1
        · obtain rfl : gg = b := by injection hb
          rcases hat4 with h | h
          · exact .inl h
          · exact .inr (by rw [h]; simp)
      · rw [Below.heap_setCell _ _ _ _ (by exact h2), hgrow4.block k (by simp; omega) h3]
        exact ((Below.refl w.heap.size w).drew.alloc (Nat.le_refl _) _).block k h1
  · have hE : mvE day frm tgt cents ref es = es := by unfold mvE; rw [if_neg h0]
    rw [hE]
    go_enter Try.func80, Try.ntmps80
    go_wp2_with fail
    go_end0
    exact ⟨rfl, ⟨ev, h, Turn.refl _ _ _⟩, Spare.refl _ _ _⟩
end Go.Proofs.Ytmlhoojcdidgkaa

/-
  Package folio: what a bill comes to; the deeds that only move.
-/
namespace Go.Proofs.Ytmlhoojcdidgkaa
set_option linter.unusedSimpArgs false
set_option linter.unusedVariables false
open Go.RowKit
open Go.Sort (grow size_grow)

set_option maxHeartbeats 4000000
set_option maxRecDepth 100000
theorem tall_lit {l : List Tax} {b : Bill} {r : List Int} {n er : Int} (h : allT l b = (r, n, er)) (A : Option Addr) (c : Nat) (w : World) (hs : SlTax w A l) (hl : l.length ≤ 1000000000000) :
    Calls Try.prog 18 #[.slice A l.length c, b.v] w fun e w' => (∃ A' c', e = .returned (.tuple #[.slice A' r.length c', .int .i64 n, .int .i64 er])) ∧ Below w.heap.size w w' := by
  have := tall_any l b A c w hs hl
  rw [h] at this
  refine this.mono fun e w' ⟨h, hb⟩ => ⟨?_, hb⟩
  unfold Ret3 at h
  obtain ⟨A', c', rfl, _⟩ := h
  exact ⟨A', c', rfl⟩
def comesT (o : Option (Int × Int)) : Int × Int × Int := match o with | some (n, c) => (n, c, 0) | none => (0, 0, 3)
def RetC (o : Int × Int × Int) : Ending := .returned (.tuple #[.int .i64 o.1, .int .i64 o.2.1, .int .i64 o.2.2])
theorem allT_nn (l : List Tax) (b : Bill) : 0 ≤ (allT l b).2.1 ∧ (allT l b).2.1 ≤ 1000000000 := by
  unfold allT
  split
  · simp
  · split
    · simp
    · split
      · simp
      · exact ⟨ones_nn l b, by simp only; omega⟩
theorem comes_any (gc gm base : Nat) (V : Env) (At : Option Addr) (ct : Nat) (es : List Entry) (day : Int) (ev : Value) (g : Nat) (a : Acc) (L : Nat) (w : World) (h : Bk w gc gm base V At ct es day ev) (hA : AccIn w g a)
    (hts : Sl w L 7 Tax.cs At V.ts) (hL : L ≤ w.heap.size) (htl : V.ts.length ≤ 1000000000000) (hb : a.b.ok = true) :
    Calls Try.prog 100 #[.pointer (some ⟨gc, 0, none⟩), .pointer (some ⟨g, 0, none⟩)] w fun e w' => e = RetC (comesT (comesR V.ts a.b)) ∧ Below w.heap.size w w' := by
  have lgc : gc < w.heap.size := Nat.lt_of_lt_of_le h.lt h.le
  have lg := hA.lt
  have q3 : w.cell? ⟨gc, 3, none⟩ = some (.slice At V.ts.length ct) := h.cell 3
  have a0 : w.cell? ⟨g, 0, none⟩ = some (.int .i64 a.b.stay) := hA.cell 0
  have a1 : w.cell? ⟨g, 1, none⟩ = some (.int .i64 a.b.channel) := hA.cell 1
  have a2 : w.cell? ⟨g, 2, none⟩ = some (.int .i64 a.b.place) := hA.cell 2
  have a3 : w.cell? ⟨g, 3, none⟩ = some (.int .i64 a.b.kind) := hA.cell 3
  have a4 : w.cell? ⟨g, 4, none⟩ = some (.int .i64 a.b.frm) := hA.cell 4
  have a5 : w.cell? ⟨g, 5, none⟩ = some (.int .i64 a.b.til) := hA.cell 5
  have a6 : w.cell? ⟨g, 6, none⟩ = some (.int .i64 a.b.persons) := hA.cell 6
  have a7 : w.cell? ⟨g, 7, none⟩ = some (.int .i64 a.b.price) := hA.cell 7
  have a8 : w.cell? ⟨g, 8, none⟩ = some (.int .i64 a.b.keep) := hA.cell 8
  have hp := (Bill.ok_iff.1 hb).2.2.2.2.2.2.1
  have hnn := allT_nn V.ts a.b
  obtain ⟨r, n, er, hr⟩ : ∃ r n er, allT V.ts a.b = (r, n, er) := ⟨_, _, _, rfl⟩
  have hcr : comesR V.ts a.b = if er = 0 then some (n, min (a.b.price + n) 1000000000) else none := by unfold comesR; rw [hr]
  rw [hr] at hnn
  simp only at hnn
  have hw1 : IntKind.i64.wrap (a.b.price + n) = a.b.price + n := IntWalk.i64_in _ (by omega)
  have HC := Lib.hid hcr
  have HT := Lib.hid (fun W h => tall_lit hr At ct W h htl)
  have HTS := Lib.hid (fun (W : World) (hb : Below w.heap.size w W) => ((hts.more hL).up hb : SlTax W At V.ts))
  clear hcr hr hts h
  by_cases he : er = 0
  · subst he
    rw [HC.out, if_pos rfl]
    by_cases hm : a.b.price + n ≤ 1000000000
    all_goals
      go_enter Try.func100, Try.ntmps100
      go_wp2_with fail
      go_region_law (go_simp; go_at_call 18; go_loud (refine (HT.out _ (HTS.out _ (by repeat' (first | (with_reducible exact Below.refl _ _) | (with_reducible assumption) | (with_reducible refine below_drewN ?_ _) | (with_reducible refine Below.drew ?_) | (with_reducible refine below_regrown_up _ _ ?_ ?_) | (with_reducible refine Below.alloc ?_ ?_ _) | (with_reducible refine Below.setCell ?_ ?_ _) | (with_reducible refine below_up ?_ ?_ (by assumption)) | (with_reducible exact Nat.le_refl _) | omega | (simp; done) | (simp; omega))))).mono ?_); rintro e w1 ⟨⟨A1, c1, rfl⟩, hb1⟩; have hc1 : w1.cell? ⟨g, 7, none⟩ = some (.int .i64 a.b.price) := (hb1.cell (p := ⟨g, 7, none⟩) lg).trans a7; have lg1 : g < w1.heap.size := Nat.lt_of_lt_of_le lg hb1.size)
      all_goals
        go_wp2_with fail
        go_quiet (fail)
        go_wp2_with fail
        go_ret3
        refine ⟨?_, ?_⟩
        · first
            | (rw [show min (a.b.price + n) 1000000000 = a.b.price + n by omega]; rfl)
            | (rw [show min (a.b.price + n) 1000000000 = 1000000000 by omega]; rfl)
        · repeat' (first
            | (with_reducible exact Below.refl _ _)
            | (with_reducible assumption)
            | (with_reducible refine below_drewN ?_ _)
            | (with_reducible refine Below.drew ?_)
            | (with_reducible refine below_regrown_up _ _ ?_ ?_)
            | (with_reducible refine Below.alloc ?_ ?_ _)
            | (with_reducible refine Below.setCell ?_ ?_ _)
            | (with_reducible refine below_up ?_ ?_ (by assumption))
            | (with_reducible exact Nat.le_refl _)
            | omega
            | (simp; done)
            | (simp; omega))
  · have hne : (er != 0) = true := by rw [bne_iff_ne]; exact he
    rw [HC.out, if_neg he]
    clear he
    go_enter Try.func100, Try.ntmps100
    go_wp2_with fail
    go_region_law (go_simp; go_at_call 18; go_loud (refine (HT.out _ (HTS.out _ (by repeat' (first | (with_reducible exact Below.refl _ _) | (with_reducible assumption) | (with_reducible refine below_drewN ?_ _) | (with_reducible refine Below.drew ?_) | (with_reducible refine below_regrown_up _ _ ?_ ?_) | (with_reducible refine Below.alloc ?_ ?_ _) | (with_reducible refine Below.setCell ?_ ?_ _) | (with_reducible refine below_up ?_ ?_ (by assumption)) | (with_reducible exact Nat.le_refl _) | omega | (simp; done) | (simp; omega))))).mono ?_); rintro e w1 ⟨⟨A1, c1, rfl⟩, hb1⟩)
    all_goals
      go_wp2_with fail
      go_ret3
      refine ⟨rfl, ?_⟩
      repeat' (first
        | (with_reducible exact Below.refl _ _)
        | (with_reducible assumption)
        | (with_reducible refine below_drewN ?_ _)
        | (with_reducible refine Below.drew ?_)
        | (with_reducible refine below_regrown_up _ _ ?_ ?_)
        | (with_reducible refine Below.alloc ?_ ?_ _)
        | (with_reducible refine Below.setCell ?_ ?_ _)
        | (with_reducible refine below_up ?_ ?_ (by assumption))
        | (with_reducible exact Nat.le_refl _)
        | omega
        | (simp; done)
        | (simp; omega))
end Go.Proofs.Ytmlhoojcdidgkaa

/-
  Package folio: deeds.
-/
namespace Go.Proofs.Ytmlhoojcdidgkaa
set_option linter.unusedSimpArgs false
set_option linter.unusedVariables false
open Go.RowKit
open Go.Sort (grow size_grow)

set_option maxHeartbeats 4000000
set_option maxRecDepth 100000
/-- A deed about an account is done. -/
structure Done (gc gm base : Nat) (V : Env) (At : Option Addr) (ct : Nat) (day : Int) (ev : Value) (g : Nat) (r : Except Int (List Entry × Acc)) (es : List Entry) (a : Acc) (w : World) (e : Ending) (w' : World) : Prop where
  ret : e = .returned (.int .i64 (erOf r))
  bk : ∃ ev', Bk w' gc gm base V At ct (resOf r (es, a)).1 day ev' ∧ Turn [gc, g] base ev ev' w w'
  acc : AccIn w' g (resOf r (es, a)).2
theorem broke_any (gc gm base : Nat) (V : Env) (At : Option Addr) (ct : Nat) (c : Crs) (ev : Value) (x : Deed) (w : World) (h : Bk w gc gm base V At ct c.es c.day ev) (hl : c.es.length ≤ 3000) (hc : CentsOk c.es) (c0 : 1 ≤ x.stay) (c1 : x.stay ≤ 29) :
    Calls Try.prog 60 #[.pointer (some ⟨gc, 0, none⟩), .int .i64 x.stay] w fun e w' => e = .returned (.int .i64 (erOf (brokeD c x))) ∧ ∃ ev', Bk w' gc gm base V At ct (resOf (brokeD c x) c).es c.day ev' ∧ Turn [gc] base ev ev' w w' := by
  have lgc : gc < w.heap.size := Nat.lt_of_lt_of_le h.lt h.le
  have q0 : w.cell? ⟨gc, 0, none⟩ = some ev := h.cell 0
  have hw1 : IntKind.i64.wrap (200 + x.stay) = 200 + x.stay := IntWalk.i64_in _ (by omega)
  have hw2 : IntKind.i64.wrap (800 + x.stay) = 800 + x.stay := IntWalk.i64_in _ (by omega)
  obtain ⟨A, cc, rfl, _, _, hsl⟩ := h.own.sl ent_len
  have HB := Lib.hid h
  have hbr : brokeD c x = if 1000000000 < sumE (200 + x.stay) anyE c.es then .error 3 else .ok { c with es := mvE c.day (200 + x.stay) (800 + x.stay) (sumE (200 + x.stay) anyE c.es) 0 c.es } := rfl
  have HS := Lib.hid (fun W h => sum_all0 c.es A cc (200 + x.stay) () W h (by omega) hc (fun e W _ => all_any e W))
  clear h hc
  generalize sumE (200 + x.stay) anyE c.es = z at *
  by_cases hz : 1000000000 < z
  · rw [if_pos hz] at hbr
    rw [hbr]
    clear hbr
    go_enter Try.func60, Try.ntmps60
    go_wp2_with fail
    refine (HS.out _ hsl).mono ?_
    rintro e w1 ⟨rfl, hb1⟩
    go_wp2_with fail
    go_ret
    exact ⟨rfl, _, HB.out.up hb1, (Turn.refl _ _ _).up hb1 HB.out.le⟩
  · rw [if_neg hz] at hbr
    rw [hbr]
    clear hbr
    go_enter Try.func60, Try.ntmps60
    go_wp2_with fail
    refine (HS.out _ hsl).mono ?_
    rintro e w1 ⟨rfl, hb1⟩
    have hB1 := HB.out.up hb1
    go_wp2_with fail
    refine (move_any gc gm base V At ct c.es c.day _ (200 + x.stay) (800 + x.stay) z 0 w1 hB1 (by omega)).mono ?_
    rintro e w2 ⟨rfl, ⟨ev2, hE2, hT2⟩, _⟩
    go_wp2_with fail
    go_ret
    exact ⟨rfl, ev2, hE2, ((Turn.refl _ _ _).up hb1 HB.out.le).trans hT2⟩
theorem become_any (gc gm base : Nat) (V : Env) (At : Option Addr) (ct : Nat) (es : List Entry) (day : Int) (ev : Value) (g : Nat) (a : Acc) (x : Deed) (st : Int) (gs : Nat) (w : World) (h : Bk w gc gm base V At ct es day ev) (hA : AccIn w g a) (hg : g < base) (hne : g ≠ gc)
    (hs : w.cell? ⟨gs, 0, none⟩ = some (.int .i64 st)) (hgs : gs < w.heap.size) :
    Calls Try.prog 97 #[.pointer (some ⟨g, 0, none⟩), x.v, .pointer (some ⟨gs, 0, none⟩)] w (Done gc gm base V At ct day ev g (.ok (es, { a with st := st })) es a w) := by
  have lg := hA.lt
  have a9 : w.cell? ⟨g, 9, none⟩ = some (.int .i64 a.st) := hA.cell 9
  have f9 := hA.free 9
  have HB := Lib.hid h
  have HA := Lib.hid hA
  clear h hA
  go_enter Try.func97, Try.ntmps97
  go_wp2_with fail
  go_ret
  refine ⟨rfl, ⟨ev, (HB.out.set hg hne 9 _).up (by repeat' (first | (with_reducible exact Below.refl _ _) | (with_reducible assumption) | (with_reducible refine below_drewN ?_ _) | (with_reducible refine Below.drew ?_) | (with_reducible refine below_regrown_up _ _ ?_ ?_) | (with_reducible refine Below.alloc ?_ ?_ _) | (with_reducible refine Below.setCell ?_ ?_ _) | (with_reducible refine below_up ?_ ?_ (by assumption)) | (with_reducible exact Nat.le_refl _) | omega | (simp; done) | (simp; omega))), (((Turn.refl _ _ _).set (g := g) (by simp) _).up (by repeat' (first | (with_reducible exact Below.refl _ _) | (with_reducible assumption) | (with_reducible refine below_drewN ?_ _) | (with_reducible refine Below.drew ?_) | (with_reducible refine below_regrown_up _ _ ?_ ?_) | (with_reducible refine Below.alloc ?_ ?_ _) | (with_reducible refine Below.setCell ?_ ?_ _) | (with_reducible refine below_up ?_ ?_ (by assumption)) | (with_reducible exact Nat.le_refl _) | omega | (simp; done) | (simp; omega))) ?_)⟩, (HA.out.set (o := 9) (v := .int .i64 st) rfl).up (by repeat' (first | (with_reducible exact Below.refl _ _) | (with_reducible assumption) | (with_reducible refine below_drewN ?_ _) | (with_reducible refine Below.drew ?_) | (with_reducible refine below_regrown_up _ _ ?_ ?_) | (with_reducible refine Below.alloc ?_ ?_ _) | (with_reducible refine Below.setCell ?_ ?_ _) | (with_reducible refine below_up ?_ ?_ (by assumption)) | (with_reducible exact Nat.le_refl _) | omega | (simp; done) | (simp; omega)))⟩
  simp [World.setCell]
  exact HB.out.le
theorem still_w {P : Program} {f : FuncId} {args : Array Value} {w : World} {v : Value} (h : Calls P f args w fun e w' => e = .returned v ∧ w = w') : Calls P f args w fun e w' => e = .returned v ∧ w' = w := h.mono fun _ _ ⟨h1, h2⟩ => ⟨h1, h2.symm⟩
theorem back_any (gc gm base : Nat) (V : Env) (At : Option Addr) (ct : Nat) (es : List Entry) (ev : Value) (g : Nat) (a : Acc) (x : Deed) (n : Nat) (w : World) (h : Bk w gc gm base V At ct es x.day ev) (hA : AccIn w g a) (hg : g < base) (hne : g ≠ gc)
    (hl : es.length ≤ 3000) (hao : AccOk a n) (hn : n ≤ 500) (x0 : 1 ≤ x.cents) (x1 : x.cents ≤ 1000000000) :
    Calls Try.prog 87 #[.pointer (some ⟨gc, 0, none⟩), .pointer (some ⟨g, 0, none⟩), x.v] w (Done gc gm base V At ct x.day ev g (backD es a x) es a w) := by
  have lg := hA.lt
  have lgc : gc < w.heap.size := Nat.lt_of_lt_of_le h.lt h.le
  have a0 : w.cell? ⟨g, 0, none⟩ = some (.int .i64 a.b.stay) := hA.cell 0
  have a10 : w.cell? ⟨g, 10, none⟩ = some (.int .i64 a.paid) := hA.cell 10
  have f10 := hA.free 10
  have hs := (Bill.ok_iff.1 hao.b).2.2.2.1
  have hp := hao.paid
  have hp1 : a.paid ≤ 500000000000 := by omega
  have hw1 : IntKind.i64.wrap (a.paid - x.cents) = a.paid - x.cents := IntWalk.i64_in _ (by omega)
  have hown : some w.heap.size ≠ ev.ownBlock := fun e => by have := (h.own.lt _ e.symm).2; omega
  have HB := Lib.hid h
  have HA := Lib.hid hA
  have HOWN := Lib.hid hown
  clear h hA hown
  by_cases hm : a.paid < x.cents
  · have hr : backD es a x = .error 41 := by unfold backD; rw [if_pos hm]
    rw [hr]
    clear hr
    go_enter Try.func87, Try.ntmps87
    go_wp2_with fail
    go_quiet (fail)
    go_wp2_with fail
    go_ret
    exact ⟨rfl, ⟨_, HB.out.up (by repeat' (first | (with_reducible exact Below.refl _ _) | (with_reducible assumption) | (with_reducible refine below_drewN ?_ _) | (with_reducible refine Below.drew ?_) | (with_reducible refine below_regrown_up _ _ ?_ ?_) | (with_reducible refine Below.alloc ?_ ?_ _) | (with_reducible refine Below.setCell ?_ ?_ _) | (with_reducible refine below_up ?_ ?_ (by assumption)) | (with_reducible exact Nat.le_refl _) | omega | (simp; done) | (simp; omega))), (Turn.refl _ _ _).up (by repeat' (first | (with_reducible exact Below.refl _ _) | (with_reducible assumption) | (with_reducible refine below_drewN ?_ _) | (with_reducible refine Below.drew ?_) | (with_reducible refine below_regrown_up _ _ ?_ ?_) | (with_reducible refine Below.alloc ?_ ?_ _) | (with_reducible refine Below.setCell ?_ ?_ _) | (with_reducible refine below_up ?_ ?_ (by assumption)) | (with_reducible exact Nat.le_refl _) | omega | (simp; done) | (simp; omega))) HB.out.le⟩, HA.out.up (by repeat' (first | (with_reducible exact Below.refl _ _) | (with_reducible assumption) | (with_reducible refine below_drewN ?_ _) | (with_reducible refine Below.drew ?_) | (with_reducible refine below_regrown_up _ _ ?_ ?_) | (with_reducible refine Below.alloc ?_ ?_ _) | (with_reducible refine Below.setCell ?_ ?_ _) | (with_reducible refine below_up ?_ ?_ (by assumption)) | (with_reducible exact Nat.le_refl _) | omega | (simp; done) | (simp; omega)))⟩
  · have hr : backD es a x = .ok (mvE x.day 900 (guestA a.b.stay) x.cents a.b.stay es, { a with paid := a.paid - x.cents }) := by unfold backD; rw [if_neg hm]
    rw [hr]
    clear hr
    go_enter Try.func87, Try.ntmps87
    go_wp2_with fail
    go_quiet (fail)
    go_wp2_with fail
    refine wp_region_still_tail 16 (by kernel_rfl) (by kernel_rfl) ?_
    change wpStill _ _ (World.drew _) _ _ _
    simp only [List.take_succ_cons, List.take_zero, List.drop_succ_cons, List.drop_zero]
    repeat (first | still_step | (still_call (still_w (guest_any _ _ (by omega) (by omega)))))
    refine wpStill_nil ?_
    change wpList _ _ _ _ _ (World.drew _)
    go_wp2_with fail
    refine name_calls (fun w1 hw1 => ?_)
    have b1 : Below w.heap.size w w1 := by rw [hw1]; exact (by repeat' (first | (with_reducible exact Below.refl _ _) | (with_reducible assumption) | (with_reducible refine below_drewN ?_ _) | (with_reducible refine Below.drew ?_) | (with_reducible refine below_regrown_up _ _ ?_ ?_) | (with_reducible refine Below.alloc ?_ ?_ _) | (with_reducible refine Below.setCell ?_ ?_ _) | (with_reducible refine below_up ?_ ?_ (by assumption)) | (with_reducible exact Nat.le_refl _) | omega | (simp; done) | (simp; omega)))
    have z1 : w1.heap.size = w.heap.size + 1 := by rw [hw1]; simp
    have y3 : w1.cell? ⟨w.heap.size, 3, none⟩ = some (.int .i64 x.cents) := by rw [hw1]; go_simp
    clear hw1
    refine (move_any gc gm base V At ct es x.day ev 900 (guestA a.b.stay) x.cents a.b.stay w1 (HB.out.up b1) (by omega)).mono ?_
    rintro e w2 ⟨rfl, ⟨ev2, B2, T2⟩, P2⟩
    have A2 := T2.acc (HA.out.up b1) hg (by simpa using hne)
    have y3' : w2.cell? ⟨w.heap.size, 3, none⟩ = some (.int .i64 x.cents) := (P2.cell (by omega) (by omega) HOWN.out).trans y3
    have lx2 : w.heap.size < w2.heap.size := by have := T2.size; omega
    have c10 : w2.cell? ⟨g, 10, none⟩ = some (.int .i64 a.paid) := A2.cell 10
    have g10 := A2.free 10
    have lg2 := A2.lt
    have HT := Lib.hid T2
    have HP := Lib.hid P2
    have HB2 := Lib.hid B2
    have HA2 := Lib.hid A2
    clear y3 T2 P2 B2 A2 f10 a0 a10
    go_wp2_with fail
    refine wp_region_still_tail 9 (by kernel_rfl) (by kernel_rfl) ?_
    change wpStill _ _ (World.drew _) _ _ _
    simp only [List.take_succ_cons, List.take_zero, List.drop_succ_cons, List.drop_zero]
    repeat (first | still_step | (fail))
    refine wpStill_nil ?_
    change wpList _ _ _ _ _ (World.drew _)
    go_wp2_with fail
    go_ret
    refine ⟨rfl, ⟨ev2, (HB2.out.set hg hne 10 _).up (by repeat' (first | (with_reducible exact Below.refl _ _) | (with_reducible assumption) | (with_reducible refine below_drewN ?_ _) | (with_reducible refine Below.drew ?_) | (with_reducible refine below_regrown_up _ _ ?_ ?_) | (with_reducible refine Below.alloc ?_ ?_ _) | (with_reducible refine Below.setCell ?_ ?_ _) | (with_reducible refine below_up ?_ ?_ (by assumption)) | (with_reducible exact Nat.le_refl _) | omega | (simp; done) | (simp; omega))), ?_⟩, (HA2.out.set (o := 10) (v := .int .i64 (a.paid - x.cents)) rfl).up (by repeat' (first | (with_reducible exact Below.refl _ _) | (with_reducible assumption) | (with_reducible refine below_drewN ?_ _) | (with_reducible refine Below.drew ?_) | (with_reducible refine below_regrown_up _ _ ?_ ?_) | (with_reducible refine Below.alloc ?_ ?_ _) | (with_reducible refine Below.setCell ?_ ?_ _) | (with_reducible refine below_up ?_ ?_ (by assumption)) | (with_reducible exact Nat.le_refl _) | omega | (simp; done) | (simp; omega)))⟩
    exact ((((Turn.refl [gc, g] base w).up b1 HB.out.le).trans (HT.out.more (by simp))).set (g := g) (by simp) _).up (by repeat' (first | (with_reducible exact Below.refl _ _) | (with_reducible assumption) | (with_reducible refine below_drewN ?_ _) | (with_reducible refine Below.drew ?_) | (with_reducible refine below_regrown_up _ _ ?_ ?_) | (with_reducible refine Below.alloc ?_ ?_ _) | (with_reducible refine Below.setCell ?_ ?_ _) | (with_reducible refine below_up ?_ ?_ (by assumption)) | (with_reducible exact Nat.le_refl _) | omega | (simp; done) | (simp; omega))) (by simp [World.setCell]; exact HB2.out.le)
end Go.Proofs.Ytmlhoojcdidgkaa
