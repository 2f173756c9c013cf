/-
  Texts, one behind the other: Com7.
-/
import Derived.Test.YtmlhoojcdidgkaaGreatM12
/-
  Package commission: the statement of a channel: the loop.
-/
namespace Go.Proofs.YtmlhoojcdidgkaaGreat
set_option linter.unusedSimpArgs false
set_option linter.unusedVariables false
open Go.RowKit Go.Maps Go.Shelf
open Go.Sort (grow size_grow)

set_option maxHeartbeats 4000000
set_option maxRecDepth 100000
attribute [local go_sem] Oper.semAt_some
def commB (p d : Int) (pre : List BOk) : List Int := comms p d (pre.map (·.1))
structure StI (w : World) (M : Nat) (p d : Int) (pre : List BOk) (W : World) : Prop where
  out : ∃ v, W.cell? ⟨M, 0, none⟩ = some v ∧ OwnL W (M + 1 + 1 + 1 + 1) 3 1 intC v (commB p d pre)
  sum : W.cell? ⟨M + 1, 0, none⟩ = some (.int .i64 (commB p d pre).sum)
  p0 : W.cell? ⟨w.heap.size, 0, none⟩ = some (.int .i64 p)
  p1 : W.cell? ⟨w.heap.size, 1, none⟩ = some (.int .i64 d)
  r0 : W.cell? ⟨w.heap.size + 1, 0, none⟩ = some (.slice none 0 0)
  r1 : W.cell? ⟨w.heap.size + 1 + 1, 0, none⟩ = some (.int .i64 0)
  r2 : W.cell? ⟨w.heap.size + 1 + 1 + 1, 0, none⟩ = some (.int .i64 0)
  f0 : W.frozen? ⟨M, 0, none⟩ = false
  f1 : W.frozen? ⟨M + 1, 0, none⟩ = false
  f2 : W.frozen? ⟨w.heap.size + 1, 0, none⟩ = false
  f3 : W.frozen? ⟨w.heap.size + 1 + 1, 0, none⟩ = false
  f4 : W.frozen? ⟨w.heap.size + 1 + 1 + 1, 0, none⟩ = false
  size : M + 1 + 1 + 1 + 1 ≤ W.heap.size
  below : Below w.heap.size w W
theorem stI_own {w : World} {M : Nat} {p d : Int} {B : Nat} (hB : w.heap.size ≤ B) : OwnFrom B (StI w M p d) := fun s W W' row h hg hr => by
  have hr' : ∀ r, row = some r → ∃ o : Obj, W.heap[r]? = some o ∧ o.isCells = false := fun r e => (hr r e).2
  obtain ⟨v, hv, hown⟩ := h.out
  exact ⟨⟨v, cell_kept hv hg hr', row_keptN hown hg hr'⟩, cell_kept h.sum hg hr', cell_kept h.p0 hg hr', cell_kept h.p1 hg hr', cell_kept h.r0 hg hr', cell_kept h.r1 hg hr', cell_kept h.r2 hg hr',
    (frozen_kept hv hg hr').trans h.f0, (frozen_kept h.sum hg hr').trans h.f1, (frozen_kept h.r0 hg hr').trans h.f2, (frozen_kept h.r1 hg hr').trans h.f3, (frozen_kept h.r2 hg hr').trans h.f4,
    size_keptN h.size hg, h.below.grown hg h.below.size (fun k e => Nat.le_trans hB (hr k e).1)⟩
theorem outI3_none {r : List Int × Int × Int} {s er : Int} {w' : World} (h : r = ([], s, er)) : OutI3 r (.returned (.tuple #[.slice none 0 0, .int .i64 s, .int .i64 er])) w' := by rw [h]; exact outI3_nil
theorem cstmt_ok (p d : Int) (l : List Bill) (L : List BOk) (hL : L.map (·.1) = l) (A : Option Addr) (c : Nat) (ch : Int) (w : World) (hs : SlBill w A l)
    (h0 : l.length ≤ 3000) (h1 : partOk p d = true) (h2 : billsOk l = true) (h3 : inB ch 0 29 = true) :
    Calls Tryz.prog 41 #[.agg #[.int .i64 p, .int .i64 d], .slice A l.length c, .int .i64 ch] w fun e w' => OutI3 (stmtR p d l ch) e w' ∧ Below w.heap.size w w' := by
  obtain ⟨g0, g1⟩ := inB_iff.1 h3
  have h0' : ¬ (3000 : Int) < (l.length : Int) := by omega
  have hb0 : Below w.heap.size w ((((w.alloc (.cells #[.int .i64 p, .int .i64 d] 40)).alloc (.cells #[.slice none 0 0] 32)).alloc (.cells #[.int .i64 0] 3)).alloc (.cells #[.int .i64 0] 33)) := by
    repeat' (first
      | (with_reducible exact Below.refl _ _)
      | (with_reducible assumption)
      | (with_reducible refine below_drewN ?_ _)
      | (with_reducible refine Below.drew ?_)
      | (with_reducible refine below_regrown_up _ _ ?_ ?_)
      | (with_reducible refine Below.alloc ?_ ?_ _)
      | (with_reducible refine Below.setCell ?_ ?_ _)
      | (with_reducible refine below_up ?_ ?_ (by assumption))
      | (with_reducible exact Nat.le_refl _)
      | omega
      | (simp; done)
      | (simp; omega))
  have hdc1 : decide (ch < 0) = false := by simp; omega
  have hdc2 : decide (30 ≤ ch) = false := by simp; omega
  have hLl : L.length = l.length := by rw [← hL]; simp
  have HL := Lib.hid hL
  have HLl := Lib.hid hLl
  clear hL hLl
  refine (callsIn_wide (n := 9)).1 ?_
  refine callsIn_of_wp_marks Tryz.func41 rfl trivial ?_ rfl
  simp only [Tryz.ntmps41, List.size_toArray, List.length_cons, List.length_nil, Nat.reduceAdd, Nat.reduceSub, Array.replicate_succ, Array.replicate_zero, List.push_toArray, List.append_toArray, List.nil_append, List.cons_append]
  gi_wp2_with (first | (refine ⟨trivial, ?_⟩; gi_at_call 72; refine (callsIn_wide.2 (isPart_any p d _)).mono ?_; rintro e w1 ⟨rfl, hb1⟩; have hz1 := hb1.size; (try simp only [World.size_alloc, World.size_setCell, World.size_drew, size_drewN', size_grow, size_redrawn] at hz1); obtain ⟨hc1, hf1⟩ := bcellB (B := w.heap.size + 1 + 1 + 1 + 1) hb1 (by first | omega | (simp only [World.size_alloc, World.size_setCell, World.size_drew, size_drewN', size_grow, size_redrawn]; omega)); rw [h1]) | (refine ⟨trivial, ?_⟩; gi_at_call 73; refine (callsIn_wide.2 (areBills_any _ A c _ (hs.up (by repeat' (first | (with_reducible exact Below.refl _ _) | (with_reducible assumption) | (with_reducible refine below_drewN ?_ _) | (with_reducible refine Below.drew ?_) | (with_reducible refine below_regrown_up _ _ ?_ ?_) | (with_reducible refine Below.alloc ?_ ?_ _) | (with_reducible refine Below.setCell ?_ ?_ _) | (with_reducible refine below_up ?_ ?_ (by assumption)) | (with_reducible exact Nat.le_refl _) | omega | (simp; done) | (simp; omega)))) (by omega))).mono ?_; rintro e w2 ⟨rfl, hb2⟩; have hz2 := hb2.size; (try simp only [World.size_alloc, World.size_setCell, World.size_drew, size_drewN', size_grow, size_redrawn] at hz2); obtain ⟨hc2, hf2⟩ := bcellB (B := w.heap.size + 1 + 1 + 1 + 1) hb2 (by first | omega | (simp only [World.size_alloc, World.size_setCell, World.size_drew, size_drewN', size_grow, size_redrawn]; omega)); rw [h2]) | (refine ⟨trivial, ?_⟩; gi_at_call 74; refine (callsIn_wide.2 (of_any A _ c ch _)).mono ?_; rintro e w3 ⟨rfl, hw3⟩))
  have hb3 : Below w2.heap.size w2 w3 := by
    rw [hw3]
    repeat' (first
      | (with_reducible exact Below.refl _ _)
      | (with_reducible assumption)
      | (with_reducible refine below_drewN ?_ _)
      | (with_reducible refine Below.drew ?_)
      | (with_reducible refine below_regrown_up _ _ ?_ ?_)
      | (with_reducible refine Below.alloc ?_ ?_ _)
      | (with_reducible refine Below.setCell ?_ ?_ _)
      | (with_reducible refine below_up ?_ ?_ (by assumption))
      | (with_reducible exact Nat.le_refl _)
      | omega
      | (simp; done)
      | (simp; omega))
  have hbw : Below w.heap.size w w3 := below_up (below_up (below_up hb0 (by simp; omega) hb1) (by omega) hb2) (by omega) hb3
  obtain ⟨hc3, hf3⟩ := bcellB (B := w.heap.size + 1 + 1 + 1 + 1) hb3 (by omega)
  have hws : w3.heap.size = w2.heap.size + 1 + 1 + 1 + 1 := by rw [hw3]; simp
  have k0 : w3.cell? ⟨w2.heap.size, 0, none⟩ = some (.slice none 0 0) := by rw [hw3]; go_simp
  have k1 : w3.cell? ⟨w2.heap.size + 1, 0, none⟩ = some (.int .i64 0) := by rw [hw3]; go_simp
  have k2 : w3.cell? ⟨w2.heap.size + 1 + 1, 0, none⟩ = some (.slice A L.length c) := by rw [hw3, HLl.out]; go_simp
  have k3 : w3.cell? ⟨w2.heap.size + 1 + 1 + 1, 0, none⟩ = some (.int .i64 ch) := by rw [hw3]; go_simp
  have k4 : w3.cell? ⟨w.heap.size, 0, none⟩ = some (.int .i64 p) := by rw [hc3 _ _ (by omega), hc2 _ _ (by omega), hc1 _ _ (by omega)]; go_simp
  have k4' : w3.cell? ⟨w.heap.size, 1, none⟩ = some (.int .i64 d) := by rw [hc3 _ _ (by omega), hc2 _ _ (by omega), hc1 _ _ (by omega)]; go_simp
  have k5 : w3.cell? ⟨w.heap.size + 1, 0, none⟩ = some (.slice none 0 0) := by rw [hc3 _ _ (by omega), hc2 _ _ (by omega), hc1 _ _ (by omega)]; go_simp
  have k6 : w3.cell? ⟨w.heap.size + 1 + 1, 0, none⟩ = some (.int .i64 0) := by rw [hc3 _ _ (by omega), hc2 _ _ (by omega), hc1 _ _ (by omega)]; go_simp
  have k7 : w3.cell? ⟨w.heap.size + 1 + 1 + 1, 0, none⟩ = some (.int .i64 0) := by rw [hc3 _ _ (by omega), hc2 _ _ (by omega), hc1 _ _ (by omega)]; go_simp
  have g0' : w3.frozen? ⟨w2.heap.size, 0, none⟩ = false := by rw [hw3]; go_simp
  have g1' : w3.frozen? ⟨w2.heap.size + 1, 0, none⟩ = false := by rw [hw3]; go_simp
  have g5 : w3.frozen? ⟨w.heap.size + 1, 0, none⟩ = false := by rw [hf3 _ _ (by omega), hf2 _ _ (by omega), hf1 _ _ (by omega)]; go_simp
  have g6 : w3.frozen? ⟨w.heap.size + 1 + 1, 0, none⟩ = false := by rw [hf3 _ _ (by omega), hf2 _ _ (by omega), hf1 _ _ (by omega)]; go_simp
  have g7 : w3.frozen? ⟨w.heap.size + 1 + 1 + 1, 0, none⟩ = false := by rw [hf3 _ _ (by omega), hf2 _ _ (by omega), hf1 _ _ (by omega)]; go_simp
  have h00 : StI w w2.heap.size p d [] w3 := ⟨⟨_, k0, OwnL.nil_⟩, k1, k4, k4', k5, k6, k7, g0', g1', g5, g6, g7, by omega, hbw⟩
  have hXs : ∀ k, (k < w.heap.size ∨ k = w2.heap.size + 1 + 1 ∨ k = w2.heap.size + 1 + 1 + 1) → k < w3.heap.size := fun k hk => by rcases hk with h | h | h <;> omega
  have hst := of_stops 8 (by omega) (w2.heap.size + 1 + 1) (w2.heap.size + 1 + 1 + 1) (fun k => k < w.heap.size ∨ k = w2.heap.size + 1 + 1 ∨ k = w2.heap.size + 1 + 1 + 1) L ch A c w3
    (.inr (.inl rfl)) (.inr (.inr rfl)) (fun hne bk off e => by
      obtain ⟨b', off', e', hlt, _⟩ := hs (by rw [← HL.out, ne_eq, List.map_eq_nil_iff]; exact hne)
      rw [e] at e'
      injection e' with e'
      injection e' with e1 e2
      exact .inl (by omega)) hXs k2 k3 (by rw [HL.out]; exact (hs.below hbw).more (by omega)) (by rw [HLl.out]; omega)
  rw [← hw3]
  clear k0 k1 k2 k3 k4 k4' k5 k6 k7 g0' g1' g5 g6 g7
  have hlenL : (ofB L ch).length ≤ 3000 := by
    have := List.length_filter_le (fun b : BOk => b.1.channel == ch) L
    have := HLl.out
    unfold ofB
    omega
  refine wpIn_rangeFunc_ownH (w := w3) rfl (by omega) (gf := 101) (lb := #[.pointer (some ⟨w2.heap.size + 1 + 1, 0, none⟩), .pointer (some ⟨w2.heap.size + 1 + 1 + 1, 0, none⟩)]) rfl trivial (enters_of Tryz.func101 (by kernel_rfl) rfl)
    hst (fun h k => ⟨h.1.trans k.1, Nat.le_trans h.2 k.2⟩) (fun W l o o' h1 h2 h3 h4 => ⟨keepOn_b hXs W l o o' h1 h2 h3 h4, by simp⟩) (Below.refl _ _) (fun _ => rfl)
    (StI w w2.heap.size p d) (fun _ _ _ => False) (stI_own (by omega)) (fun _ _ _ _ _ hs _ _ => hs) h00
    (fun x a' W => ∃ Bx, w2.heap.size + 1 + 1 + 1 < Bx ∧ Bx < W.heap.size ∧ (∀ (j : Nat) (u : Value), x.1.cs[j]? = some u → W.cell? ⟨Bx, j, none⟩ = some u) ∧ a' = { tmps := #[Value.agg #[Value.int IntKind.i64 p, Value.int IntKind.i64 d], Value.slice A l.length c, Value.int IntKind.i64 ch, Value.pointer (some { block := w.heap.size, off := 0 }), undef, undef, Value.pointer (some { block := w.heap.size + 1, off := 0 }), Value.pointer (some { block := w.heap.size + 1 + 1, off := 0 }), Value.pointer (some { block := w.heap.size + 1 + 1 + 1, off := 0 }), Value.pointer (some { block := w2.heap.size, off := 0 }), Value.pointer (some { block := w2.heap.size + 1, off := 0 }), Value.pointer (some { block := Bx, off := 0 }), undef, undef, Value.bool false, Value.slice A l.length c, Value.int IntKind.i64 l.length, Value.bool false, Value.bool false, Value.agg #[Value.int IntKind.i64 p, Value.int IntKind.i64 d], Value.bool true, Value.bool false, Value.bool false, Value.int IntKind.i64 ch, Value.bool false, Value.bool false, Value.bool false, Value.int IntKind.i64 ch, Value.bool false, Value.bool false, Value.bool false, Value.slice A l.length c, Value.bool true, Value.bool false, Value.bool false, Value.slice A l.length c, Value.int IntKind.i64 ch, Value.func (Fn.func 101) #[] #[Value.pointer (some { block := w2.heap.size + 1 + 1, off := 0 }), Value.pointer (some { block := w2.heap.size + 1 + 1 + 1, off := 0 })], x.1.v, undef, undef, undef, undef, undef, undef, undef, undef, undef, undef, undef, undef, undef, undef, undef, undef, undef, undef, undef, undef], defers := [] })
    (fun x a' _ X Y row hs hg hr => by obtain ⟨Bx, h1, h2, h3, h4⟩ := hs; exact ⟨Bx, h1, size_keptN h2 hg, fun j u hu => cell_kept (h3 j u hu) hg (fun r e => (hr r e).2), h4⟩)
    ?assign ?body ?done ?stop
  case assign =>
    intro l pre x W K hI hK
    gi_wp2
    refine hK _ _ ((KeepsOthers.alloc _ _).from _) ⟨(KeepOn.refl _ W).alloc (fun k hk => by have := hXs k hk; have := hI.size; omega) _, by simp⟩ ((stI_own (B := w3.heap.size) (by omega)).alloc _ hI) ⟨W.heap.size, by have := hI.size; omega, by simp, news_new _ _ _ _ rfl, rfl⟩
  case body =>
    rintro l' pre x a' W hl' ⟨r, hr⟩ hI ⟨Bx, hBx, hBxs, hcx, rfl⟩ hlen
    dsimp only []
    obtain ⟨b, hbk⟩ := x
    have hone := oneR_ok h1 hbk
    obtain ⟨n0, n1⟩ := (Bill.ok_iff.1 hbk).2.2.2.2.2.2.1
    obtain ⟨m0, m1⟩ := comm_bd h1 n0
    have hbd := comms_bd h1 (l := pre.map (·.1)) (fun y hy => by obtain ⟨z, _, rfl⟩ := List.mem_map.1 hy; exact z.2)
    rw [List.length_map] at hbd
    have hcs : commB p d (pre ++ [⟨b, hbk⟩]) = commB p d pre ++ [comm p d b.price] := by unfold commB; rw [List.map_append]; exact comms_snoc ..
    have hcl : (commB p d pre).length = pre.length := by unfold commB comms; simp
    obtain ⟨b0, b1⟩ := hbd
    simp only at hcx
    have c0 := hcx 0 _ rfl
    have c1 := hcx 1 _ rfl
    have c2 := hcx 2 _ rfl
    have c3 := hcx 3 _ rfl
    have c4 := hcx 4 _ rfl
    have c5 := hcx 5 _ rfl
    have c6 := hcx 6 _ rfl
    have c7 := hcx 7 _ rfl
    have c8 := hcx 8 _ rfl
    have y0 := hI.p0
    have y1 := hI.p1
    have HONE := Lib.hid hone
    have HCS := Lib.hid hcs
    have HCL := Lib.hid hcl
    have b0' : 0 ≤ (commB p d pre).sum := b0
    have b1' : (commB p d pre).sum ≤ 1000000000 * (pre.length : Int) := b1
    clear hone hcs hcl hcx b0 b1
    generalize comm p d b.price = k at *
    gi_wp2_with (refine ⟨trivial, ?_⟩; gi_at_call 44; refine (CallsIn.inRound l' (callsIn_wide.2 (cone_any HONE.out _))).mono ?_; rintro e w4 ⟨rfl, hb4⟩)
    have hI4 := stI_own (B := w3.heap.size) (by omega) pre W w4 none hI (grownBy_below hb4 none) (fun r e => by cases e)
    obtain ⟨v, i0W, hownW⟩ := hI.out
    have hzW := hI.size
    have hz4 := hb4.size
    have i0 : w4.cell? ⟨w2.heap.size, 0, none⟩ = some v := (hb4.cell (p := ⟨w2.heap.size, 0, none⟩) (by simp only; omega)).trans i0W
    have hown : OwnL w4 (w2.heap.size + 1 + 1 + 1 + 1) 3 1 intC v (commB p d pre) := hownW.below hb4
    have i1 := hI4.sum
    have j0 := hI4.f0
    have j1 := hI4.f1
    have hlt1 : w2.heap.size < w4.heap.size := by omega
    have hlt2 : w2.heap.size + 1 < w4.heap.size := by omega
    have hvM : ∀ k, v.ownBlock = some k → w2.heap.size + 1 + 1 + 1 + 1 ≤ k := fun k e => (hown.lt k e).1
    have hsk : Sl (w4.drew.alloc (.cells #[.int .i64 k] 3)) (w4.heap.size + 1) 1 intC (some ⟨w4.heap.size, 0, none⟩) [k] := sl_of_box (cs := #[.int .i64 k]) (fun _ => rfl) (fun o => cell_alloc_at (by rfl) _ _ o) (by omega) rfl
    obtain ⟨v', w6, hrun, hown6, hgrow, _⟩ := run_append_all (P := Tryz.prog) (w4.drew.alloc (.cells #[.int .i64 k] 3)) 32 3 (w2.heap.size + 1 + 1 + 1 + 1) 1 8 intC 32 elemInt int_len int_one v (commB p d pre) ((hown.drew).alloc _) (some ⟨w4.heap.size, 0, none⟩) 1 (w4.heap.size + 1) [k] hsk (by rw [HCL.out]; simp; omega) (by omega) (by simp; omega)
    obtain ⟨A6, c6, rfl, _, _⟩ := hown6.form
    have e1 : w6.cell? ⟨w2.heap.size + 1, 0, none⟩ = some (.int .i64 (commB p d pre).sum) := hgrow.cell (by go_simp) (fun e => by have h : w2.heap.size + 1 + 1 + 1 + 1 ≤ w2.heap.size + 1 := hvM _ e.symm; omega)
    have e2 : w6.cell? ⟨w2.heap.size, 0, none⟩ = some v := hgrow.cell (by go_simp) (fun e => by have h : w2.heap.size + 1 + 1 + 1 + 1 ≤ w2.heap.size := hvM _ e.symm; omega)
    have e3 : w6.frozen? ⟨w2.heap.size + 1, 0, none⟩ = false := (World.frozen?_of_block (hgrow.block (w2.heap.size + 1) (by simp; omega) (fun e => by have h : w2.heap.size + 1 + 1 + 1 + 1 ≤ w2.heap.size + 1 := hvM _ e.symm; omega))).trans (by go_simp)
    have e4 : w6.frozen? ⟨w2.heap.size, 0, none⟩ = false := (World.frozen?_of_block (hgrow.block w2.heap.size (by simp; omega) (fun e => by have h : w2.heap.size + 1 + 1 + 1 + 1 ≤ w2.heap.size := hvM _ e.symm; omega))).trans (by go_simp)
    have hsum : IntKind.i64.wrap ((commB p d pre).sum + k) = (commB p d pre).sum + k := IntWalk.i64_in _ (by omega)
    have ht : Touch (fun k => k = w2.heap.size ∨ k = w2.heap.size + 1 ∨ v.ownBlock = some k) W ((w6.setCell ⟨w2.heap.size, 0, none⟩ (.slice A6 ((commB p d pre).length + 1) c6)).setCell ⟨w2.heap.size + 1, 0, none⟩ (.int .i64 ((commB p d pre).sum + k))) :=
      (((((Touch.of_below hb4).drew).alloc _).trans (Touch.of_grownBy hgrow (fun k hk _ => .inr (.inr hk)))).setCell (.inl rfl) _).setCell (.inr (.inl rfl)) _
    have hm : ∀ k, (k = w2.heap.size ∨ k = w2.heap.size + 1 ∨ v.ownBlock = some k) → w2.heap.size ≤ k ∧ k ≠ w2.heap.size + 1 + 1 ∧ k ≠ w2.heap.size + 1 + 1 + 1 := by
      rintro k (rfl | rfl | h)
      · omega
      · omega
      · have := hvM k h; omega
    have f1 : (w6.setCell ⟨w2.heap.size, 0, none⟩ (.slice A6 ((commB p d pre).length + 1) c6)).cell? ⟨w2.heap.size + 1, 0, none⟩ = some (.int .i64 (commB p d pre).sum) := (World.cell?_setCell_other _ _ _ _ (fun e => by injection e with e; omega)).trans e1
    have f2 := World.cell?_setCell_same w6 ⟨w2.heap.size, 0, none⟩ (.slice A6 ((commB p d pre).length + 1) c6) e2
    have FF : Hid (KeepsOthers W ((w6.setCell ⟨w2.heap.size, 0, none⟩ (.slice A6 ((commB p d pre).length + 1) c6)).setCell ⟨w2.heap.size + 1, 0, none⟩ (.int .i64 ((commB p d pre).sum + k))) ∧
        (KeepOn (fun k => k < w.heap.size ∨ k = w2.heap.size + 1 + 1 ∨ k = w2.heap.size + 1 + 1 + 1) W ((w6.setCell ⟨w2.heap.size, 0, none⟩ (.slice A6 ((commB p d pre).length + 1) c6)).setCell ⟨w2.heap.size + 1, 0, none⟩ (.int .i64 ((commB p d pre).sum + k))) ∧ W.heap.size ≤ ((w6.setCell ⟨w2.heap.size, 0, none⟩ (.slice A6 ((commB p d pre).length + 1) c6)).setCell ⟨w2.heap.size + 1, 0, none⟩ (.int .i64 ((commB p d pre).sum + k))).heap.size) ∧
        StI w w2.heap.size p d (pre ++ [⟨b, hbk⟩]) ((w6.setCell ⟨w2.heap.size, 0, none⟩ (.slice A6 ((commB p d pre).length + 1) c6)).setCell ⟨w2.heap.size + 1, 0, none⟩ (.int .i64 ((commB p d pre).sum + k)))) := by
      refine Lib.hid ⟨ht.others ?_, ⟨ht.keepOn ?_, ht.size⟩, ⟨⟨.slice A6 ((commB p d pre).length + 1) c6, (World.cell?_setCell_other _ _ _ _ (fun e => by injection e with e; omega)).trans f2, ?_⟩, ?_, ?_, ?_, ?_, ?_, ?_, ?_, ?_, ?_, ?_, ?_, Nat.le_trans hzW ht.size, hI.below.trans (ht.below (n := w.heap.size) (by omega) ?_)⟩⟩
      · rintro k (rfl | rfl | h) o ho
        · exact isCells_of_cell (a := ⟨w2.heap.size, 0, none⟩) i0W ho
        · exact isCells_of_cell (a := ⟨w2.heap.size + 1, 0, none⟩) hI.sum ho
        · exact cells_of_row hownW h ho
      · intro k hk
        have h1 := fun h => hm k h
        rcases hk with h | h | h
        · exact ⟨by omega, fun e => by have := h1 e; omega⟩
        · exact ⟨by omega, fun e => by have := h1 e; omega⟩
        · exact ⟨by omega, fun e => by have := h1 e; omega⟩
      · have h1 := ownsRow_setCell_below (a := ⟨w2.heap.size + 1, 0, none⟩) (ownsRow_setCell_below (a := ⟨w2.heap.size, 0, none⟩) hown6 (by simp only; omega) (.slice A6 ((commB p d pre).length + 1) c6)) (by simp only; omega) (.int .i64 ((commB p d pre).sum + k))
        rw [List.length_append] at h1
        unfold OwnL
        rw [HCS.out, List.length_append]
        exact h1
      · rw [World.cell?_setCell_same _ _ _ f1, HCS.out, List.sum_append]
        simp
      · exact ht.cell (p := ⟨w.heap.size, 0, none⟩) (fun e => by have := hm _ e; simp only at this; omega) hI.p0
      · exact ht.cell (p := ⟨w.heap.size, 1, none⟩) (fun e => by have := hm _ e; simp only at this; omega) hI.p1
      · exact ht.cell (p := ⟨w.heap.size + 1, 0, none⟩) (fun e => by have := hm _ e; simp only at this; omega) hI.r0
      · exact ht.cell (p := ⟨w.heap.size + 1 + 1, 0, none⟩) (fun e => by have := hm _ e; simp only at this; omega) hI.r1
      · exact ht.cell (p := ⟨w.heap.size + 1 + 1 + 1, 0, none⟩) (fun e => by have := hm _ e; simp only at this; omega) hI.r2
      · rw [World.frozen?_setCell, World.frozen?_setCell]; exact e4
      · rw [World.frozen?_setCell, World.frozen?_setCell]; exact e3
      · exact (ht.frozen (p := ⟨w.heap.size + 1, 0, none⟩) (show _ < _ by simp only; omega) (fun e => by have := hm _ e; simp only at this; omega)).trans hI.f2
      · exact (ht.frozen (p := ⟨w.heap.size + 1 + 1, 0, none⟩) (show _ < _ by simp only; omega) (fun e => by have := hm _ e; simp only at this; omega)).trans hI.f3
      · exact (ht.frozen (p := ⟨w.heap.size + 1 + 1 + 1, 0, none⟩) (show _ < _ by simp only; omega) (fun e => by have := hm _ e; simp only at this; omega)).trans hI.f4
      · intro k hk
        have := hm k hk
        omega
    clear ht hm f1 f2 hvM hgrow hsk hI4 hI hown6 hownW hown
    refine region_round (by kernel_rfl) (by kernel_rfl) ?_
    (refine wpAnyIn_take (i := 1) (v := .int .i64 k) rfl rfl (by kernel_rfl) (by kernel_rfl) (by kernel_rfl) (fun _ _ _ h => h) ⟨Or.inl ⟨by rfl, by intro _; go_simp⟩, fun _ => rfl⟩ ?_)
    (refine wpAnyIn_take (i := 5) (v := .int .i64 k) rfl rfl (by kernel_rfl) (by kernel_rfl) (by kernel_rfl) (fun _ _ _ h => h) ⟨Or.inl ⟨by rfl, by intro _; go_simp⟩, fun _ => rfl⟩ ?_)
    (refine wpAnyIn_ready (rs := [0, 2, 4]) (by kernel_rfl) (by simp) (AllReadyIn.cons rfl (fun K hK => ?_) (AllReadyIn.cons rfl (fun K hK => ?_) (AllReadyIn.cons rfl (fun K hK => ?_) AllReadyIn.nil))))
    · go_simp
      refine hK _ _ ?_
      clear hK K
      (refine wpAnyIn_ready (rs := [2, 4]) (by kernel_rfl) (by simp) (AllReadyIn.cons rfl (fun K hK => ?_) (AllReadyIn.cons rfl (fun K hK => ?_) AllReadyIn.nil)))
      · go_simp
        refine hK _ _ ?_
        clear hK K
        (refine wpAnyIn_ready (rs := [3, 4]) (by kernel_rfl) (by simp) (AllReadyIn.cons rfl (fun K hK => ?_) (AllReadyIn.cons rfl (fun K hK => ?_) AllReadyIn.nil)))
        · refine stepIn_run rfl (.tmp 48) (.tmp 50) 32 rfl v _ (.slice A6 (commB p d pre ++ [k]).length c6) w6 rfl rfl hrun ?_
          refine hK _ _ ?_
          clear hK K
          (refine wpAnyIn_ready (rs := [4, 7]) (by kernel_rfl) (by simp) (AllReadyIn.cons rfl (fun K hK => ?_) (AllReadyIn.cons rfl (fun K hK => ?_) AllReadyIn.nil)))
          · go_simp
            refine hK _ _ ?_
            clear hK K
            (refine wpAnyIn_take (i := 6) (v := .int .i64 ((commB p d pre).sum + k)) rfl rfl (by kernel_rfl) (by kernel_rfl) (by kernel_rfl) (fun _ _ _ h => h) ⟨Or.inl ⟨by rfl, by intro _; go_simp⟩, fun _ => rfl⟩ ?_)
            (refine wpAnyIn_ready (rs := [7]) (by kernel_rfl) (by simp) (AllReadyIn.cons rfl (fun K hK => ?_) AllReadyIn.nil))
            · go_simp
              refine hK _ _ ?_
              clear hK K
              (refine wpAnyIn_ready (rs := [8]) (by kernel_rfl) (by simp) (AllReadyIn.cons rfl (fun K hK => ?_) AllReadyIn.nil))
              · go_simp
                refine hK _ _ ?_
                clear hK K
                refine wpAnyIn_done (by kernel_rfl) ?_ _
                go_simp
                gi_wp2
                exact ⟨FF.out.1.from _, FF.out.2.1, FF.out.2.2⟩
          · go_simp
            refine hK _ _ ?_
            clear hK K
            (refine wpAnyIn_ready (rs := [4]) (by kernel_rfl) (by simp) (AllReadyIn.cons rfl (fun K hK => ?_) AllReadyIn.nil))
            · go_simp
              refine hK _ _ ?_
              clear hK K
              (refine wpAnyIn_take (i := 6) (v := .int .i64 ((commB p d pre).sum + k)) rfl rfl (by kernel_rfl) (by kernel_rfl) (by kernel_rfl) (fun _ _ _ h => h) ⟨Or.inl ⟨by rfl, by intro _; go_simp⟩, fun _ => rfl⟩ ?_)
              (refine wpAnyIn_ready (rs := [8]) (by kernel_rfl) (by simp) (AllReadyIn.cons rfl (fun K hK => ?_) AllReadyIn.nil))
              · go_simp
                refine hK _ _ ?_
                clear hK K
                refine wpAnyIn_done (by kernel_rfl) ?_ _
                go_simp
                gi_wp2
                exact ⟨FF.out.1.from _, FF.out.2.1, FF.out.2.2⟩
        · go_simp
          refine hK _ _ ?_
          clear hK K
          (refine wpAnyIn_take (i := 6) (v := .int .i64 ((commB p d pre).sum + k)) rfl rfl (by kernel_rfl) (by kernel_rfl) (by kernel_rfl) (fun _ _ _ h => h) ⟨Or.inl ⟨by rfl, by intro _; go_simp⟩, fun _ => rfl⟩ ?_)
          (refine wpAnyIn_ready (rs := [3]) (by kernel_rfl) (by simp) (AllReadyIn.cons rfl (fun K hK => ?_) AllReadyIn.nil))
          · refine stepIn_run rfl (.tmp 48) (.tmp 50) 32 rfl v _ (.slice A6 (commB p d pre ++ [k]).length c6) w6 rfl rfl hrun ?_
            refine hK _ _ ?_
            clear hK K
            (refine wpAnyIn_ready (rs := [7]) (by kernel_rfl) (by simp) (AllReadyIn.cons rfl (fun K hK => ?_) AllReadyIn.nil))
            · go_simp
              refine hK _ _ ?_
              clear hK K
              (refine wpAnyIn_ready (rs := [8]) (by kernel_rfl) (by simp) (AllReadyIn.cons rfl (fun K hK => ?_) AllReadyIn.nil))
              · go_simp
                refine hK _ _ ?_
                clear hK K
                refine wpAnyIn_done (by kernel_rfl) ?_ _
                go_simp
                gi_wp2
                exact ⟨FF.out.1.from _, FF.out.2.1, FF.out.2.2⟩
      · go_simp
        refine hK _ _ ?_
        clear hK K
        (refine wpAnyIn_take (i := 6) (v := .int .i64 ((commB p d pre).sum + k)) rfl rfl (by kernel_rfl) (by kernel_rfl) (by kernel_rfl) (fun _ _ _ h => h) ⟨Or.inl ⟨by rfl, by intro _; go_simp⟩, fun _ => rfl⟩ ?_)
        (refine wpAnyIn_ready (rs := [2]) (by kernel_rfl) (by simp) (AllReadyIn.cons rfl (fun K hK => ?_) AllReadyIn.nil))
        · go_simp
          refine hK _ _ ?_
          clear hK K
          (refine wpAnyIn_ready (rs := [3]) (by kernel_rfl) (by simp) (AllReadyIn.cons rfl (fun K hK => ?_) AllReadyIn.nil))
          · refine stepIn_run rfl (.tmp 48) (.tmp 50) 32 rfl v _ (.slice A6 (commB p d pre ++ [k]).length c6) w6 rfl rfl hrun ?_
            refine hK _ _ ?_
            clear hK K
            (refine wpAnyIn_ready (rs := [7]) (by kernel_rfl) (by simp) (AllReadyIn.cons rfl (fun K hK => ?_) AllReadyIn.nil))
            · go_simp
              refine hK _ _ ?_
              clear hK K
              (refine wpAnyIn_ready (rs := [8]) (by kernel_rfl) (by simp) (AllReadyIn.cons rfl (fun K hK => ?_) AllReadyIn.nil))
              · go_simp
                refine hK _ _ ?_
                clear hK K
                refine wpAnyIn_done (by kernel_rfl) ?_ _
                go_simp
                gi_wp2
                exact ⟨FF.out.1.from _, FF.out.2.1, FF.out.2.2⟩
    · go_simp
      refine hK _ _ ?_
      clear hK K
      (refine wpAnyIn_ready (rs := [0, 4]) (by kernel_rfl) (by simp) (AllReadyIn.cons rfl (fun K hK => ?_) (AllReadyIn.cons rfl (fun K hK => ?_) AllReadyIn.nil)))
      · go_simp
        refine hK _ _ ?_
        clear hK K
        (refine wpAnyIn_ready (rs := [3, 4]) (by kernel_rfl) (by simp) (AllReadyIn.cons rfl (fun K hK => ?_) (AllReadyIn.cons rfl (fun K hK => ?_) AllReadyIn.nil)))
        · refine stepIn_run rfl (.tmp 48) (.tmp 50) 32 rfl v _ (.slice A6 (commB p d pre ++ [k]).length c6) w6 rfl rfl hrun ?_
          refine hK _ _ ?_
          clear hK K
          (refine wpAnyIn_ready (rs := [4, 7]) (by kernel_rfl) (by simp) (AllReadyIn.cons rfl (fun K hK => ?_) (AllReadyIn.cons rfl (fun K hK => ?_) AllReadyIn.nil)))
          · go_simp
            refine hK _ _ ?_
            clear hK K
            (refine wpAnyIn_take (i := 6) (v := .int .i64 ((commB p d pre).sum + k)) rfl rfl (by kernel_rfl) (by kernel_rfl) (by kernel_rfl) (fun _ _ _ h => h) ⟨Or.inl ⟨by rfl, by intro _; go_simp⟩, fun _ => rfl⟩ ?_)
            (refine wpAnyIn_ready (rs := [7]) (by kernel_rfl) (by simp) (AllReadyIn.cons rfl (fun K hK => ?_) AllReadyIn.nil))
            · go_simp
              refine hK _ _ ?_
              clear hK K
              (refine wpAnyIn_ready (rs := [8]) (by kernel_rfl) (by simp) (AllReadyIn.cons rfl (fun K hK => ?_) AllReadyIn.nil))
              · go_simp
                refine hK _ _ ?_
                clear hK K
                refine wpAnyIn_done (by kernel_rfl) ?_ _
                go_simp
                gi_wp2
                exact ⟨FF.out.1.from _, FF.out.2.1, FF.out.2.2⟩
          · go_simp
            refine hK _ _ ?_
            clear hK K
            (refine wpAnyIn_ready (rs := [4]) (by kernel_rfl) (by simp) (AllReadyIn.cons rfl (fun K hK => ?_) AllReadyIn.nil))
            · go_simp
              refine hK _ _ ?_
              clear hK K
              (refine wpAnyIn_take (i := 6) (v := .int .i64 ((commB p d pre).sum + k)) rfl rfl (by kernel_rfl) (by kernel_rfl) (by kernel_rfl) (fun _ _ _ h => h) ⟨Or.inl ⟨by rfl, by intro _; go_simp⟩, fun _ => rfl⟩ ?_)
              (refine wpAnyIn_ready (rs := [8]) (by kernel_rfl) (by simp) (AllReadyIn.cons rfl (fun K hK => ?_) AllReadyIn.nil))
              · go_simp
                refine hK _ _ ?_
                clear hK K
                refine wpAnyIn_done (by kernel_rfl) ?_ _
                go_simp
                gi_wp2
                exact ⟨FF.out.1.from _, FF.out.2.1, FF.out.2.2⟩
        · go_simp
          refine hK _ _ ?_
          clear hK K
          (refine wpAnyIn_take (i := 6) (v := .int .i64 ((commB p d pre).sum + k)) rfl rfl (by kernel_rfl) (by kernel_rfl) (by kernel_rfl) (fun _ _ _ h => h) ⟨Or.inl ⟨by rfl, by intro _; go_simp⟩, fun _ => rfl⟩ ?_)
          (refine wpAnyIn_ready (rs := [3]) (by kernel_rfl) (by simp) (AllReadyIn.cons rfl (fun K hK => ?_) AllReadyIn.nil))
          · refine stepIn_run rfl (.tmp 48) (.tmp 50) 32 rfl v _ (.slice A6 (commB p d pre ++ [k]).length c6) w6 rfl rfl hrun ?_
            refine hK _ _ ?_
            clear hK K
            (refine wpAnyIn_ready (rs := [7]) (by kernel_rfl) (by simp) (AllReadyIn.cons rfl (fun K hK => ?_) AllReadyIn.nil))
            · go_simp
              refine hK _ _ ?_
              clear hK K
              (refine wpAnyIn_ready (rs := [8]) (by kernel_rfl) (by simp) (AllReadyIn.cons rfl (fun K hK => ?_) AllReadyIn.nil))
              · go_simp
                refine hK _ _ ?_
                clear hK K
                refine wpAnyIn_done (by kernel_rfl) ?_ _
                go_simp
                gi_wp2
                exact ⟨FF.out.1.from _, FF.out.2.1, FF.out.2.2⟩
      · go_simp
        refine hK _ _ ?_
        clear hK K
        (refine wpAnyIn_take (i := 6) (v := .int .i64 ((commB p d pre).sum + k)) rfl rfl (by kernel_rfl) (by kernel_rfl) (by kernel_rfl) (fun _ _ _ h => h) ⟨Or.inl ⟨by rfl, by intro _; go_simp⟩, fun _ => rfl⟩ ?_)
        (refine wpAnyIn_ready (rs := [0]) (by kernel_rfl) (by simp) (AllReadyIn.cons rfl (fun K hK => ?_) AllReadyIn.nil))
        · go_simp
          refine hK _ _ ?_
          clear hK K
          (refine wpAnyIn_ready (rs := [3]) (by kernel_rfl) (by simp) (AllReadyIn.cons rfl (fun K hK => ?_) AllReadyIn.nil))
          · refine stepIn_run rfl (.tmp 48) (.tmp 50) 32 rfl v _ (.slice A6 (commB p d pre ++ [k]).length c6) w6 rfl rfl hrun ?_
            refine hK _ _ ?_
            clear hK K
            (refine wpAnyIn_ready (rs := [7]) (by kernel_rfl) (by simp) (AllReadyIn.cons rfl (fun K hK => ?_) AllReadyIn.nil))
            · go_simp
              refine hK _ _ ?_
              clear hK K
              (refine wpAnyIn_ready (rs := [8]) (by kernel_rfl) (by simp) (AllReadyIn.cons rfl (fun K hK => ?_) AllReadyIn.nil))
              · go_simp
                refine hK _ _ ?_
                clear hK K
                refine wpAnyIn_done (by kernel_rfl) ?_ _
                go_simp
                gi_wp2
                exact ⟨FF.out.1.from _, FF.out.2.1, FF.out.2.2⟩
    · go_simp
      refine hK _ _ ?_
      clear hK K
      (refine wpAnyIn_take (i := 6) (v := .int .i64 ((commB p d pre).sum + k)) rfl rfl (by kernel_rfl) (by kernel_rfl) (by kernel_rfl) (fun _ _ _ h => h) ⟨Or.inl ⟨by rfl, by intro _; go_simp⟩, fun _ => rfl⟩ ?_)
      (refine wpAnyIn_ready (rs := [0, 2]) (by kernel_rfl) (by simp) (AllReadyIn.cons rfl (fun K hK => ?_) (AllReadyIn.cons rfl (fun K hK => ?_) AllReadyIn.nil)))
      · go_simp
        refine hK _ _ ?_
        clear hK K
        (refine wpAnyIn_ready (rs := [2]) (by kernel_rfl) (by simp) (AllReadyIn.cons rfl (fun K hK => ?_) AllReadyIn.nil))
        · go_simp
          refine hK _ _ ?_
          clear hK K
          (refine wpAnyIn_ready (rs := [3]) (by kernel_rfl) (by simp) (AllReadyIn.cons rfl (fun K hK => ?_) AllReadyIn.nil))
          · refine stepIn_run rfl (.tmp 48) (.tmp 50) 32 rfl v _ (.slice A6 (commB p d pre ++ [k]).length c6) w6 rfl rfl hrun ?_
            refine hK _ _ ?_
            clear hK K
            (refine wpAnyIn_ready (rs := [7]) (by kernel_rfl) (by simp) (AllReadyIn.cons rfl (fun K hK => ?_) AllReadyIn.nil))
            · go_simp
              refine hK _ _ ?_
              clear hK K
              (refine wpAnyIn_ready (rs := [8]) (by kernel_rfl) (by simp) (AllReadyIn.cons rfl (fun K hK => ?_) AllReadyIn.nil))
              · go_simp
                refine hK _ _ ?_
                clear hK K
                refine wpAnyIn_done (by kernel_rfl) ?_ _
                go_simp
                gi_wp2
                exact ⟨FF.out.1.from _, FF.out.2.1, FF.out.2.2⟩
      · go_simp
        refine hK _ _ ?_
        clear hK K
        (refine wpAnyIn_ready (rs := [0]) (by kernel_rfl) (by simp) (AllReadyIn.cons rfl (fun K hK => ?_) AllReadyIn.nil))
        · go_simp
          refine hK _ _ ?_
          clear hK K
          (refine wpAnyIn_ready (rs := [3]) (by kernel_rfl) (by simp) (AllReadyIn.cons rfl (fun K hK => ?_) AllReadyIn.nil))
          · refine stepIn_run rfl (.tmp 48) (.tmp 50) 32 rfl v _ (.slice A6 (commB p d pre ++ [k]).length c6) w6 rfl rfl hrun ?_
            refine hK _ _ ?_
            clear hK K
            (refine wpAnyIn_ready (rs := [7]) (by kernel_rfl) (by simp) (AllReadyIn.cons rfl (fun K hK => ?_) AllReadyIn.nil))
            · go_simp
              refine hK _ _ ?_
              clear hK K
              (refine wpAnyIn_ready (rs := [8]) (by kernel_rfl) (by simp) (AllReadyIn.cons rfl (fun K hK => ?_) AllReadyIn.nil))
              · go_simp
                refine hK _ _ ?_
                clear hK K
                refine wpAnyIn_done (by kernel_rfl) ?_ _
                go_simp
                gi_wp2
                exact ⟨FF.out.1.from _, FF.out.2.1, FF.out.2.2⟩
  case done =>
    rintro D xs W hD rfl hI hK
    obtain ⟨v, i0, hown⟩ := hI.out
    have i1 := hI.sum
    have i3 := hI.r0
    have i4 := hI.r1
    have i5 := hI.r2
    have j2 := hI.f2
    have j3 := hI.f3
    have j4 := hI.f4
    have hsz := hI.size
    have hbl := hI.below
    have e1 : commB p d (ofB L ch) = comms p d (ofCh l ch) := by unfold commB; rw [ofB_map, HL.out]
    rw [e1] at i1 hown
    by_cases hg : 1000000000 < (comms p d (ofCh l ch)).sum
    · have HF := Lib.hid (stmtR_far h0 h1 h2 h3 hg)
      generalize comms p d (ofCh l ch) = R at *
      clear e1
      gi_wp2
      have hK' := (show KeepsOthers W (((W.setCell ⟨w.heap.size + 1, 0, none⟩ (.slice none 0 0)).setCell ⟨w.heap.size + 1 + 1, 0, none⟩ (.int .i64 0)).setCell ⟨w.heap.size + 1 + 1 + 1, 0, none⟩ (.int .i64 3)) from (((KeepsOthers.setCell W _ _).trans (KeepsOthers.setCell _ _ _)).trans (KeepsOthers.setCell _ _ _))).same D _ hK rfl
      have d0 := cell_kept (W := (((W.setCell ⟨w.heap.size + 1, 0, none⟩ (.slice none 0 0)).setCell ⟨w.heap.size + 1 + 1, 0, none⟩ (.int .i64 0)).setCell ⟨w.heap.size + 1 + 1 + 1, 0, none⟩ (.int .i64 3))) (v := (.slice none 0 0)) (a := ⟨w.heap.size + 1, 0, none⟩) (by go_simp) (grownBy_putObj' _ D (.deferred none)) (fun r e => by cases e; exact ⟨_, hK', rfl⟩)
      have d1 := cell_kept (W := (((W.setCell ⟨w.heap.size + 1, 0, none⟩ (.slice none 0 0)).setCell ⟨w.heap.size + 1 + 1, 0, none⟩ (.int .i64 0)).setCell ⟨w.heap.size + 1 + 1 + 1, 0, none⟩ (.int .i64 3))) (v := .int .i64 0) (a := ⟨w.heap.size + 1 + 1, 0, none⟩) (by go_simp) (grownBy_putObj' _ D (.deferred none)) (fun r e => by cases e; exact ⟨_, hK', rfl⟩)
      have d2 := cell_kept (W := (((W.setCell ⟨w.heap.size + 1, 0, none⟩ (.slice none 0 0)).setCell ⟨w.heap.size + 1 + 1, 0, none⟩ (.int .i64 0)).setCell ⟨w.heap.size + 1 + 1 + 1, 0, none⟩ (.int .i64 3))) (v := .int .i64 3) (a := ⟨w.heap.size + 1 + 1 + 1, 0, none⟩) (World.cell?_setCell_same _ _ _ (u := .int .i64 0) (by go_simp)) (grownBy_putObj' _ D (.deferred none)) (fun r e => by cases e; exact ⟨_, hK', rfl⟩)
      refine ⟨by simp, .inl ⟨_, _, rfl, run_takeDeferred hK', ?_⟩⟩
      refine ⟨.tuple #[.slice none 0 0, .int .i64 0, .int .i64 3], ?_, ?_, ?_⟩
      · simp [results, Tryz.f41, go_sem, d0, d1, d2]
      · exact outI3_none HF.out
      · exact ((((hbl.setCell (p := ⟨w.heap.size + 1, 0, none⟩) (by simp) _).setCell (p := ⟨w.heap.size + 1 + 1, 0, none⟩) (by simp; omega) _).setCell (p := ⟨w.heap.size + 1 + 1 + 1, 0, none⟩) (by simp; omega) _)).trans (belowK_b (w := w) (Nat.le_refl _) _ D _ _ (by omega) hK' rfl rfl)
    · have HF := Lib.hid (stmtR_ok h0 h1 h2 h3 hg)
      generalize comms p d (ofCh l ch) = R at *
      clear e1
      have hg2 : R.sum ≤ 1000000000 := by omega
      clear hg
      obtain ⟨A', c', rfl, _, _⟩ := hown.form
      gi_wp2
      gi_region
      gi_wp2
      have hK' := (show KeepsOthers W ((((W.setCell ⟨w.heap.size + 1, 0, none⟩ (.slice A' R.length c')).setCell ⟨w.heap.size + 1 + 1, 0, none⟩ (.int .i64 R.sum)).setCell ⟨w.heap.size + 1 + 1 + 1, 0, none⟩ (.int .i64 0)).drew) from ((((KeepsOthers.setCell W _ _).trans (KeepsOthers.setCell _ _ _)).trans (KeepsOthers.setCell _ _ _)).trans (KeepsOthers.drew _))).same D _ hK rfl
      have d0 := cell_kept (W := ((((W.setCell ⟨w.heap.size + 1, 0, none⟩ (.slice A' R.length c')).setCell ⟨w.heap.size + 1 + 1, 0, none⟩ (.int .i64 R.sum)).setCell ⟨w.heap.size + 1 + 1 + 1, 0, none⟩ (.int .i64 0)).drew)) (v := (.slice A' R.length c')) (a := ⟨w.heap.size + 1, 0, none⟩) (by go_simp) (grownBy_putObj' _ D (.deferred none)) (fun r e => by cases e; exact ⟨_, hK', rfl⟩)
      have d1 := cell_kept (W := ((((W.setCell ⟨w.heap.size + 1, 0, none⟩ (.slice A' R.length c')).setCell ⟨w.heap.size + 1 + 1, 0, none⟩ (.int .i64 R.sum)).setCell ⟨w.heap.size + 1 + 1 + 1, 0, none⟩ (.int .i64 0)).drew)) (v := .int .i64 R.sum) (a := ⟨w.heap.size + 1 + 1, 0, none⟩) (by go_simp) (grownBy_putObj' _ D (.deferred none)) (fun r e => by cases e; exact ⟨_, hK', rfl⟩)
      have d2 := cell_kept (W := ((((W.setCell ⟨w.heap.size + 1, 0, none⟩ (.slice A' R.length c')).setCell ⟨w.heap.size + 1 + 1, 0, none⟩ (.int .i64 R.sum)).setCell ⟨w.heap.size + 1 + 1 + 1, 0, none⟩ (.int .i64 0)).drew)) (v := .int .i64 0) (a := ⟨w.heap.size + 1 + 1 + 1, 0, none⟩) (World.cell?_setCell_same _ _ _ (u := .int .i64 0) (by go_simp)) (grownBy_putObj' _ D (.deferred none)) (fun r e => by cases e; exact ⟨_, hK', rfl⟩)
      refine ⟨by simp, .inl ⟨_, _, rfl, run_takeDeferred hK', ?_⟩⟩
      refine ⟨.tuple #[.slice A' R.length c', .int .i64 R.sum, .int .i64 0], ?_, ?_, ?_⟩
      · simp [results, Tryz.f41, go_sem, d0, d1, d2]
      · exact (by have ho1 := ownsRow_setCell_below (a := ⟨w.heap.size + 1 + 1 + 1, 0, none⟩) (ownsRow_setCell_below (a := ⟨w.heap.size + 1 + 1, 0, none⟩) (ownsRow_setCell_below (a := ⟨w.heap.size + 1, 0, none⟩) hown (by simp only; omega) (.slice A' R.length c')) (by simp only; omega) (.int .i64 R.sum)) (by simp only; omega) (.int .i64 0); have ho2 := row_keptN (ho1.drew) (grownBy_putObj' _ D (.deferred none)) (fun r e => by cases e; exact ⟨_, hK', rfl⟩); obtain ⟨A2, c2, e2, _, _, hsl2⟩ := OwnL.sl (enc := intC) int_len ho2; rw [HF.out]; exact ⟨A2, c2, by rw [← e2], hsl2⟩)
      · exact ((((hbl.setCell (p := ⟨w.heap.size + 1, 0, none⟩) (by simp) _).setCell (p := ⟨w.heap.size + 1 + 1, 0, none⟩) (by simp; omega) _).setCell (p := ⟨w.heap.size + 1 + 1 + 1, 0, none⟩) (by simp; omega) _).drew).trans (belowK_b (w := w) (Nat.le_refl _) _ D _ _ (by omega) hK' rfl rfl)
  case stop =>
    rintro D c pre W _ _ h _
    exact h.elim
end Go.Proofs.YtmlhoojcdidgkaaGreat
