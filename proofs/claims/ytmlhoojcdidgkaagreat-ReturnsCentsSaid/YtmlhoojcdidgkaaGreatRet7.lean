/-
  Package returns: the first question that Agree asks: the places.
-/
import Derived.Test.YtmlhoojcdidgkaaGreatRet6
import Derived.Test.YtmlhoojcdidgkaaGreatM27
namespace Go.Proofs.YtmlhoojcdidgkaaGreat
set_option linter.unusedSimpArgs false
set_option linter.unusedVariables false
open Go.RowKit Go.Maps Go.Shelf
open Go.Sort (grow size_grow)

set_option maxHeartbeats 4000000
set_option maxRecDepth 100000
attribute [local go_sem] Oper.semAt_some
def placeOk (es : List Entry) (x : PV) : Bool := bal (fun z => z == 400 + x.1.1) es 366 == -x.1.2
def all1 (es : List Entry) (l : List PV) : Bool := l.all (placeOk es)
theorem all1_snoc (es : List Entry) (l : List PV) (x : PV) : all1 es (l ++ [x]) = (all1 es l && placeOk es x) := by
  unfold all1
  rw [List.all_append]
  simp
def far1 (ts : List Tax) (bills : List Bill) : Bool := (placesL ts bills 99).any fun x => decide (1000000000 < x.1.2)
def ask1R (ts : List Tax) (bills : List Bill) (es : List Entry) : Bool × Int := if far1 ts bills = true then (false, 3) else (all1 es (placesL ts bills 99), 0)
structure Ask1I (w : World) (es : List Entry) (pre : List PV) (W : World) : Prop where
  r0 : W.cell? ⟨w.heap.size, 0, none⟩ = some (.bool false)
  r1 : W.cell? ⟨w.heap.size + 1, 0, none⟩ = some (.int .i64 0)
  a0 : W.cell? ⟨w.heap.size + 1 + 1, 0, none⟩ = some (.bool (all1 es pre))
  f0 : W.frozen? ⟨w.heap.size, 0, none⟩ = false
  f1 : W.frozen? ⟨w.heap.size + 1, 0, none⟩ = false
  g0 : W.frozen? ⟨w.heap.size + 1 + 1, 0, none⟩ = false
  near : ∀ x ∈ pre, x.1.2 ≤ 1000000000
  size : w.heap.size + 1 + 1 + 1 + 1 + 1 ≤ W.heap.size
  below : Below w.heap.size w W
theorem ask1I_own {w : World} {es : List Entry} {B : Nat} (hB : w.heap.size ≤ B) : OwnFrom B (Ask1I w es) := fun s W W' row h hg hr => by
  have hr' : ∀ r, row = some r → ∃ o : Obj, W.heap[r]? = some o ∧ o.isCells = false := fun r e => (hr r e).2
  exact ⟨cell_kept h.r0 hg hr', cell_kept h.r1 hg hr', cell_kept h.a0 hg hr', (frozen_kept h.r0 hg hr').trans h.f0, (frozen_kept h.r1 hg hr').trans h.f1, (frozen_kept h.a0 hg hr').trans h.g0,
    h.near, size_keptN h.size hg, h.below.grown hg h.below.size (fun k e => Nat.le_trans hB (hr k e).1)⟩
structure Ask1X (w : World) (c : Code) (pre : List PV) (W : World) : Prop where
  c : c = .ret
  last : ∃ x ∈ pre, 1000000000 < x.1.2
  r0 : W.cell? ⟨w.heap.size, 0, none⟩ = some (.bool false)
  r1 : W.cell? ⟨w.heap.size + 1, 0, none⟩ = some (.int .i64 3)
  below : Below w.heap.size w W
theorem ask1X_own {w : World} {c : Code} {B : Nat} (hB : w.heap.size ≤ B) : OwnFrom B (Ask1X w c) := fun s W W' row h hg hr => by
  have hr' : ∀ r, row = some r → ∃ o : Obj, W.heap[r]? = some o ∧ o.isCells = false := fun r e => (hr r e).2
  exact ⟨h.c, h.last, cell_kept h.r0 hg hr', cell_kept h.r1 hg hr', h.below.grown hg h.below.size (fun k e => Nat.le_trans hB (hr k e).1)⟩
theorem ask1_any (ts : List Tax) (bills : List Bill) (es : List Entry) (A B E : Option Addr) (c d cE b6 b5 b4 : Nat) (w : World) (ht : SlTax w A ts) (hs : SlBill w B bills) (he : SlEnt w E es)
    (k6 : w.cell? ⟨b6, 0, none⟩ = some (.slice A ts.length c)) (k5 : w.cell? ⟨b5, 0, none⟩ = some (.slice B bills.length d)) (k4 : w.cell? ⟨b4, 0, none⟩ = some (.slice E es.length cE))
    (l6 : b6 < w.heap.size) (l5 : b5 < w.heap.size) (l4 : b4 < w.heap.size) (h0 : bills.length ≤ 3000) (hl2 : ts.length ≤ 1000000000000) (hk : ∀ b ∈ bills, b.ok = true) (h3 : ledOk es = true) :
    Calls Tryz.prog 38 #[.pointer (some ⟨b6, 0, none⟩), .pointer (some ⟨b5, 0, none⟩), .pointer (some ⟨b4, 0, none⟩)] w fun e w' => e = .returned (.tuple #[.bool (ask1R ts bills es).1, .int .i64 (ask1R ts bills es).2]) ∧ Below w.heap.size w w' := by
  have hel := (ledOk_iff.1 h3).1
  have HBAL : Hid (∀ (W : World) (a : Int), SlEnt W E es → 100 ≤ a ∧ a ≤ 999 → Calls Tryz.prog 20 #[.slice E es.length cE, .int .i64 a, .int .i64 366] W fun e w' => e = .returned (.tuple #[.int .i64 (bal (fun z => z == a) es 366), .int .i64 0]) ∧ Below W.heap.size W w') := Lib.hid (fun W a h1 h2 => by
    have := lbalance_any es E cE a 366 W h1 (by omega)
    rw [balR_ok h3 h2 (by omega)] at this
    exact this)
  have HK := Lib.hid hk
  clear hk h3
  have l6a : b6 < w.heap.size + 1 := by omega
  have l6b : b6 < w.heap.size + 1 + 1 := by omega
  have l5a : b5 < w.heap.size + 1 := by omega
  have l5b : b5 < w.heap.size + 1 + 1 := by omega
  refine (callsIn_wide (n := 9)).1 ?_
  refine callsIn_of_wp_marks Tryz.func38 rfl trivial ?_ rfl
  simp only [Tryz.ntmps38, List.size_toArray, List.length_cons, List.length_nil, Nat.reduceAdd, Nat.reduceSub, Array.replicate_succ, Array.replicate_zero, List.push_toArray, List.append_toArray, List.nil_append, List.cons_append]
  gi_wp2_with (refine ⟨trivial, ?_⟩; gi_at_call 39; refine (callsIn_wide.2 (places_any A B ts.length bills.length c d _)).mono ?_; rintro e w3 ⟨rfl, hw3⟩)
  have hb3 : Below w.heap.size w w3 := by
    rw [hw3]
    repeat' (first
      | (with_reducible exact Below.refl _ _)
      | (with_reducible assumption)
      | (with_reducible refine below_drewN ?_ _)
      | (with_reducible refine Below.drew ?_)
      | (with_reducible refine below_regrown_up _ _ ?_ ?_)
      | (with_reducible refine Below.alloc ?_ ?_ _)
      | (with_reducible refine Below.setCell ?_ ?_ _)
      | (with_reducible refine below_up ?_ ?_ (by assumption))
      | (with_reducible exact Nat.le_refl _)
      | omega
      | (simp; done)
      | (simp; omega))
  have hws : w3.heap.size = w.heap.size + 1 + 1 + 1 + 1 + 1 := by rw [hw3]; simp
  have n0 : w3.cell? ⟨w.heap.size, 0, none⟩ = some (.bool false) := by rw [hw3]; go_simp
  have n1 : w3.cell? ⟨w.heap.size + 1, 0, none⟩ = some (.int .i64 0) := by rw [hw3]; go_simp
  have n2 : w3.cell? ⟨w.heap.size + 1 + 1, 0, none⟩ = some (.bool true) := by rw [hw3]; go_simp
  have n3 : w3.cell? ⟨w.heap.size + 1 + 1 + 1, 0, none⟩ = some (.slice A ts.length c) := by rw [hw3]; go_simp
  have n4 : w3.cell? ⟨w.heap.size + 1 + 1 + 1 + 1, 0, none⟩ = some (.slice B bills.length d) := by rw [hw3]; go_simp
  have m0 : w3.frozen? ⟨w.heap.size, 0, none⟩ = false := by rw [hw3]; go_simp
  have m1 : w3.frozen? ⟨w.heap.size + 1, 0, none⟩ = false := by rw [hw3]; go_simp
  have m2 : w3.frozen? ⟨w.heap.size + 1 + 1, 0, none⟩ = false := by rw [hw3]; go_simp
  have h00 : Ask1I w es [] w3 := ⟨n0, n1, n2, m0, m1, m2, fun _ h => by simp at h, by omega, hb3⟩
  have hst := places_stops 8 (by omega) (w.heap.size + 1 + 1 + 1) (w.heap.size + 1 + 1 + 1 + 1) ts bills A B c d w3 n3 n4 (by omega) (by omega) (ht.up hb3) (hs.up hb3) h0 hl2 HK.out
  rw [← hw3]
  clear n0 n1 n2 n3 n4 m0 m1 m2
  refine wpIn_rangeFunc_ownH (w := w3) rfl (by omega) (gf := 71) (lb := #[.pointer (some ⟨w.heap.size + 1 + 1 + 1, 0, none⟩), .pointer (some ⟨w.heap.size + 1 + 1 + 1 + 1, 0, none⟩)]) rfl trivial (enters_of Tryz.func71 (by kernel_rfl) rfl)
    hst walksK_t (fun W l o o' h1 h2 h3 h4 => walksK_b (w := w3) W l o o' h1 h2 h3 h4) (Below.refl _ _) (fun _ => rfl)
    (Ask1I w es) (Ask1X w) (ask1I_own (by omega)) (fun _ => ask1X_own (by omega)) h00
    (fun x a' W => a' = { tmps := #[Value.pointer (some { block := b6, off := 0 }), Value.pointer (some { block := b5, off := 0 }), Value.pointer (some { block := b4, off := 0 }), Value.pointer (some { block := w.heap.size, off := 0 }), Value.pointer (some { block := w.heap.size + 1, off := 0 }), Value.pointer (some { block := w.heap.size + 1 + 1, off := 0 }), Value.int IntKind.i64 x.1.1, Value.int IntKind.i64 x.1.2, undef, undef, Value.slice A ts.length c, Value.slice B bills.length d, Value.func (Fn.func 71) #[] #[Value.pointer (some { block := w.heap.size + 1 + 1 + 1, off := 0 }), Value.pointer (some { block := w.heap.size + 1 + 1 + 1 + 1, off := 0 })], Value.int IntKind.i64 x.1.1, Value.int IntKind.i64 x.1.2, undef, undef, undef, undef, undef, undef, undef, undef, undef, undef, undef, undef, undef, undef, undef, undef, undef, undef, undef, undef, undef], defers := [] })
    (fun x a' _ X Y row hs hg hr => hs)
    ?assign ?body ?done ?stop
  case assign =>
    intro l pre x W K hI hK
    gi_wp2
    exact hK _ _ ((KeepsOthers.refl _).from _) (KeepsWalks.refl _) hI rfl
  case body =>
    rintro l' pre x a' W hl' ⟨r, hr⟩ hI rfl hlen
    obtain ⟨⟨pl, n⟩, p1, p2, q1, q2⟩ := x
    simp only at p1 p2 q1 q2
    dsimp only []
    have i0 := hI.r0
    have i1 := hI.r1
    have i2 := hI.a0
    have v0 := hI.f0
    have v1 := hI.f1
    have v2 := hI.g0
    have hsz := hI.size
    have hbl := hI.below
    have i4 : W.cell? ⟨b4, 0, none⟩ = some (.slice E es.length cE) := (hbl.cell (p := ⟨b4, 0, none⟩) l4).trans k4
    have hw1 : IntKind.i64.wrap (400 + pl) = 400 + pl := IntWalk.i64_in _ (by omega)
    have hw2 : IntKind.i64.wrap (-n) = -n := IntWalk.i64_in _ (by omega)
    by_cases hf : 1000000000 < n
    · gi_wp2
      refine ⟨((KeepsOthers.setCell W _ _).trans (KeepsOthers.setCell _ _ _)).from _, rfl, ⟨_, List.mem_append_right _ (List.mem_singleton_self _), hf⟩, ?_, ?_, ?_⟩
      · go_simp
      · exact World.cell?_setCell_same _ _ _ (u := .int .i64 0) (by go_simp)
      · exact (hbl.setCell (p := ⟨w.heap.size, 0, none⟩) (by simp) _).setCell (p := ⟨w.heap.size + 1, 0, none⟩) (by simp) _
    · have hsn := all1_snoc es pre ⟨(pl, n), p1, p2, q1, q2⟩
      have HSN := Lib.hid hsn
      have hf' : n ≤ 1000000000 := by omega
      have hpo : placeOk es ⟨(pl, n), p1, p2, q1, q2⟩ = (bal (fun z => z == 400 + pl) es 366 == -n) := rfl
      have HPO := Lib.hid hpo
      clear hsn hf hpo
      obtain ⟨bv, hbv⟩ : ∃ bv, bv = bal (fun z => z == 400 + pl) es 366 := ⟨_, rfl⟩
      have hcall : Hid (∀ W, SlEnt W E es → Calls Tryz.prog 20 #[.slice E es.length cE, .int .i64 (400 + pl), .int .i64 366] W fun e w' => e = .returned (.tuple #[.int .i64 bv, .int .i64 0]) ∧ Below W.heap.size W w') := Lib.hid (fun W h => by rw [hbv]; exact HBAL.out W (400 + pl) h (by omega))
      rw [← hbv] at HPO
      clear hbv
      cases hA : all1 es pre
      all_goals
        rw [hA] at i2
        gi_wp2_with (refine ⟨trivial, ?_⟩; gi_at_call 20; refine (CallsIn.inRound l' (callsIn_wide.2 (hcall.out _ (he.up hbl)))).mono ?_; rintro e w4 ⟨rfl, hb4⟩; have hz4 := hb4.size; have j0 := (hb4.cell (p := ⟨w.heap.size, 0, none⟩) (by simp only; omega)).trans i0; have j1 := (hb4.cell (p := ⟨w.heap.size + 1, 0, none⟩) (by simp only; omega)).trans i1; have j2 := (hb4.cell (p := ⟨w.heap.size + 1 + 1, 0, none⟩) (by simp only; omega)).trans i2; have u0 := (hb4.frozen (p := ⟨w.heap.size, 0, none⟩) (by simp only; omega)).trans v0; have u1 := (hb4.frozen (p := ⟨w.heap.size + 1, 0, none⟩) (by simp only; omega)).trans v1; have u2 := (hb4.frozen (p := ⟨w.heap.size + 1 + 1, 0, none⟩) (by simp only; omega)).trans v2)
        have hB4 := below_up hbl hbl.size hb4
        refine ⟨((keepsOthers_of_below hb4).trans (KeepsOthers.setCell _ _ _)).from _, (show KeepsWalks W w4 from ⟨hb4.size, fun k o hk _ => (hb4.block k (Array.getElem?_eq_some_iff.1 hk).1).trans hk⟩).trans (KeepsWalks.setCell _ _ _), ⟨?_, ?_, ?_, ?_, ?_, ?_, ?_, ?_, ?_⟩⟩
        · go_simp
        · go_simp
        · rw [World.cell?_setCell_same _ _ _ j2, HSN.out, hA, HPO.out]
          first | rfl | simp
        · rw [World.frozen?_setCell]; exact u0
        · rw [World.frozen?_setCell]; exact u1
        · rw [World.frozen?_setCell]; exact u2
        · intro y hy
          rcases List.mem_append.1 hy with hy | hy
          · exact hI.near y hy
          · obtain rfl := List.mem_singleton.1 hy
            exact hf'
        · simp; omega
        · exact hB4.setCell (by simp only; omega) _
  case done =>
    rintro D' xs W hD rfl hI hK
    have i0 := hI.r0
    have i1 := hI.r1
    have i2 := hI.a0
    have v0 := hI.f0
    have v1 := hI.f1
    have hsz := hI.size
    have hbl := hI.below
    have hres : ask1R ts bills es = (all1 es (placesL ts bills 99), 0) := by
      unfold ask1R
      rw [if_neg]
      intro h
      obtain ⟨x, hx, h1⟩ := List.any_eq_true.1 h
      have := hI.near x hx
      have h2 := of_decide_eq_true h1
      omega
    have HRES := Lib.hid hres
    clear hres hI
    generalize all1 es (placesL ts bills 99) = av at *
    gi_wp2
    have hK' := (show KeepsOthers W ((W.setCell ⟨w.heap.size, 0, none⟩ (.bool av)).setCell ⟨w.heap.size + 1, 0, none⟩ (.int .i64 0)) from ((KeepsOthers.setCell W _ _).trans (KeepsOthers.setCell _ _ _))).same D' _ hK rfl
    have d0 := cell_kept (W := ((W.setCell ⟨w.heap.size, 0, none⟩ (.bool av)).setCell ⟨w.heap.size + 1, 0, none⟩ (.int .i64 0))) (v := .bool av) (a := ⟨w.heap.size, 0, none⟩) (by go_simp) (grownBy_putObj' _ D' (.deferred none)) (fun r e => by cases e; exact ⟨_, hK', rfl⟩)
    have d1 := cell_kept (W := ((W.setCell ⟨w.heap.size, 0, none⟩ (.bool av)).setCell ⟨w.heap.size + 1, 0, none⟩ (.int .i64 0))) (v := .int .i64 0) (a := ⟨w.heap.size + 1, 0, none⟩) (World.cell?_setCell_same _ _ _ (u := .int .i64 0) (by go_simp)) (grownBy_putObj' _ D' (.deferred none)) (fun r e => by cases e; exact ⟨_, hK', rfl⟩)
    refine ⟨by simp, .inl ⟨_, _, rfl, run_takeDeferred hK', ?_⟩⟩
    refine ⟨.tuple #[.bool av, .int .i64 0], ?_, ?_, ?_⟩
    · simp [results, Tryz.f38, go_sem, d0, d1]
    · exact (by rw [HRES.out])
    · exact (((hbl.setCell (p := ⟨w.heap.size, 0, none⟩) (by simp) _).setCell (p := ⟨w.heap.size + 1, 0, none⟩) (by simp) _)).trans (belowK_b (w := w) (Nat.le_refl _) _ D' _ _ (by omega) hK' rfl rfl)
  case stop =>
    rintro D' c' pre W hD hpre hX hK
    obtain rfl := hX.c
    obtain ⟨x, hx, hfar⟩ := hX.last
    have hres : ask1R ts bills es = (false, 3) := by
      unfold ask1R far1
      rw [if_pos (List.any_eq_true.2 ⟨x, hpre.subset hx, decide_eq_true hfar⟩)]
    have HRES := Lib.hid hres
    have i0 := hX.r0
    have i1 := hX.r1
    have hbl := hX.below
    clear hres
    gi_wp2
    have hK' := (show KeepsOthers W W from KeepsOthers.refl W).same D' _ hK rfl
    have d0 := cell_kept (W := W) (v := .bool false) (a := ⟨w.heap.size, 0, none⟩) i0 (grownBy_putObj' _ D' (.deferred none)) (fun r e => by cases e; exact ⟨_, hK', rfl⟩)
    have d1 := cell_kept (W := W) (v := .int .i64 3) (a := ⟨w.heap.size + 1, 0, none⟩) i1 (grownBy_putObj' _ D' (.deferred none)) (fun r e => by cases e; exact ⟨_, hK', rfl⟩)
    refine ⟨by simp, .inl ⟨_, _, rfl, run_takeDeferred hK', ?_⟩⟩
    refine ⟨.tuple #[.bool false, .int .i64 3], ?_, ?_, ?_⟩
    · simp [results, Tryz.f38, go_sem, d0, d1]
    · exact (by rw [HRES.out])
    · exact (hbl).trans (belowK_b (w := w) (Nat.le_refl _) _ D' _ _ (by omega) hK' rfl rfl)
end Go.Proofs.YtmlhoojcdidgkaaGreat
