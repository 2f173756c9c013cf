/-
  Texts, one behind the other: Tax7, Dep1.
-/
import Derived.Test.YtmlhoojcdidgkaaGreatM04
/-
  Contract of package tax: all taxes of a bill.
-/
namespace Go.Proofs.YtmlhoojcdidgkaaGreat
set_option linter.unusedSimpArgs false
set_option linter.unusedVariables false
open Go.RowKit Go.Maps Go.Shelf
open Go.Sort (grow size_grow)

set_option maxHeartbeats 4000000
set_option maxRecDepth 100000
attribute [local go_sem] Oper.semAt_some

theorem each_stops (n : Nat) (hn : 1 ≤ n) (B1 B2 : Nat) (X : Nat → Prop) (L : List Tax) (b : Bill) (A : Option Addr) (c : Nat) (w0 : World)
    (hX1 : X B1) (hX2 : X B2) (hXA : L ≠ [] → ∀ bk off, A = some ⟨bk, off, none⟩ → X bk) (hXs : ∀ k, X k → k < w0.heap.size)
    (c1 : w0.cell? ⟨B1, 0, none⟩ = some (.slice A L.length c)) (c2 : ∀ j v, b.cs[j]? = some v → w0.cell? ⟨B2, j, none⟩ = some v)
    (hs : Sl w0 w0.heap.size 7 Tax.cs A L) (hl : L.length ≤ 1000000000000) :
    SeqStopsK Fence.wide n Tryz.prog 64 #[.pointer (some ⟨B1, 0, none⟩), .pointer (some ⟨B2, 0, none⟩)] (fun x : OneS => #[Value.int .i64 x.1.1, Value.int .i64 x.1.2]) (fun P Q => KeepOn X P Q ∧ P.heap.size ≤ Q.heap.size)
      (fun xs => xs = L.map (oneS · b)) (fun pre => pre <+: L.map (oneS · b)) L.length w0 := fun l J Jx W hW hJ _ hY h0 =>
  each1_in n hn l B1 B2 X L b A c J Jx W hX1 hX2 hXA (fun k hk => Nat.lt_of_lt_of_le (hXs k hk) hW.size) hJ
    (fun pre x W1 h1 h2 => (hY pre x W1 h1 h2).mono fun e W' h => h)
    ((hW.cell (p := ⟨B1, 0, none⟩) (hXs _ hX1)).trans c1) (fun j v hv => (hW.cell (p := ⟨B2, j, none⟩) (hXs _ hX2)).trans (c2 j v hv))
    ((hs.below hW).more hW.size) hl h0

theorem KeepsOthers.drew (W : World) : KeepsOthers W W.drew := ⟨Nat.le_refl _, fun _ _ h _ => h⟩
structure AllI (w : World) (M : Nat) (clo : Value) (pre : List OneS) (W : World) : Prop where
  out : ∃ v, W.cell? ⟨M, 0, none⟩ = some v ∧ W.ownsRow (M + 1 + 1 + 1 + 1 + 1) 3 1 v (pre.map (·.1.1)).length ((pre.map (·.1.1)).map (Value.int .i64))
  sum : W.cell? ⟨M + 1, 0, none⟩ = some (.int .i64 (pre.map (·.1.1)).sum)
  cl : W.cell? ⟨M + 1 + 1, 0, none⟩ = some clo
  r0 : W.cell? ⟨w.heap.size + 1, 0, none⟩ = some (.slice none 0 0)
  r1 : W.cell? ⟨w.heap.size + 1 + 1, 0, none⟩ = some (.int .i64 0)
  r2 : W.cell? ⟨w.heap.size + 1 + 1 + 1, 0, none⟩ = some (.int .i64 0)
  f0 : W.frozen? ⟨M, 0, none⟩ = false
  f1 : W.frozen? ⟨M + 1, 0, none⟩ = false
  f2 : W.frozen? ⟨w.heap.size + 1, 0, none⟩ = false
  f3 : W.frozen? ⟨w.heap.size + 1 + 1, 0, none⟩ = false
  f4 : W.frozen? ⟨w.heap.size + 1 + 1 + 1, 0, none⟩ = false
  ok : ∀ x ∈ pre, x.1.2 = 0
  len : pre.length ≤ 50
  size : M + 1 + 1 + 1 + 1 + 1 ≤ W.heap.size
  below : Below w.heap.size w W
theorem allI_own {w : World} {M : Nat} {clo : Value} {B : Nat} (hB : w.heap.size ≤ B) : OwnFrom B (AllI w M clo) := fun s W W' row h hg hr => by
  have hr' : ∀ r, row = some r → ∃ o : Obj, W.heap[r]? = some o ∧ o.isCells = false := fun r e => (hr r e).2
  obtain ⟨v, hv, hown⟩ := h.out
  exact ⟨⟨v, cell_kept hv hg hr', row_keptN hown hg hr'⟩, cell_kept h.sum hg hr', cell_kept h.cl hg hr', cell_kept h.r0 hg hr', cell_kept h.r1 hg hr', cell_kept h.r2 hg hr',
    (frozen_kept hv hg hr').trans h.f0, (frozen_kept h.sum hg hr').trans h.f1, (frozen_kept h.r0 hg hr').trans h.f2, (frozen_kept h.r1 hg hr').trans h.f3, (frozen_kept h.r2 hg hr').trans h.f4,
    h.ok, h.len, size_keptN h.size hg, h.below.grown hg h.below.size (fun k e => Nat.le_trans hB (hr k e).1)⟩
/-- A round has found an error. -/
structure AllX (w : World) (c : Code) (pre : List OneS) (W : World) : Prop where
  c : c = .ret
  last : ∃ pre' x, pre = pre' ++ [x] ∧ (∀ y ∈ pre', y.1.2 = 0) ∧ x.1.2 ≠ 0 ∧ W.cell? ⟨w.heap.size + 1 + 1 + 1, 0, none⟩ = some (.int .i64 x.1.2)
  r0 : W.cell? ⟨w.heap.size + 1, 0, none⟩ = some (.slice none 0 0)
  r1 : W.cell? ⟨w.heap.size + 1 + 1, 0, none⟩ = some (.int .i64 0)
  below : Below w.heap.size w W
theorem allX_own {w : World} {c : Code} {B : Nat} (hB : w.heap.size ≤ B) : OwnFrom B (AllX w c) := fun s W W' row h hg hr => by
  have hr' : ∀ r, row = some r → ∃ o : Obj, W.heap[r]? = some o ∧ o.isCells = false := fun r e => (hr r e).2
  obtain ⟨p, x, e, h1, h2, h3⟩ := h.last
  exact ⟨h.c, ⟨p, x, e, h1, h2, cell_kept h3 hg hr'⟩, cell_kept h.r0 hg hr', cell_kept h.r1 hg hr', h.below.grown hg h.below.size (fun k e => Nat.le_trans hB (hr k e).1)⟩

theorem tall_any (l : List Tax) (b : Bill) (A : Option Addr) (c : Nat) (w : World) (hs : SlTax w A l) (hl : l.length ≤ 1000000000000) :
    Calls Tryz.prog 12 #[.slice A l.length c, b.v] w fun e w' => Ret3 (allT l b) e w' ∧ Below w.heap.size w w' := by
  have hb0 : Below w.heap.size w ((((w.alloc (BillObj b)).alloc (.cells #[.slice none 0 0] 32)).alloc (.cells #[.int .i64 0] 3)).alloc (.cells #[.int .i64 0] 33)) := by
    unfold BillObj
    repeat' (first
      | (with_reducible exact Below.refl _ _)
      | (with_reducible assumption)
      | (with_reducible refine below_drewN ?_ _)
      | (with_reducible refine Below.drew ?_)
      | (with_reducible refine below_regrown_up _ _ ?_ ?_)
      | (with_reducible refine Below.alloc ?_ ?_ _)
      | (with_reducible refine Below.setCell ?_ ?_ _)
      | (with_reducible refine below_up ?_ ?_ (by assumption))
      | (with_reducible exact Nat.le_refl _)
      | omega
      | (simp; done)
      | (simp; omega))
  unfold BillObj at hb0
  cases hv : taxesOk l with
  | false =>
    have hr := allT_arg (l := l) (b := b) (by rw [hv]; rfl)
    have HR := Lib.hid hr
    clear hr
    go_enter Tryz.func12, Tryz.ntmps12
    go_wp2_with (go_at_call 27; refine (tvalid_any l A c _ ((hs.below hb0).more (by simp; omega)) hl).mono ?_; rintro e w1 ⟨rfl, hb1⟩; have hz1 := hb1.size; (try simp only [World.size_alloc, World.size_setCell, World.size_drew, size_drewN', size_grow, size_redrawn] at hz1); obtain ⟨hc1, hf1⟩ := bcellB (B := w.heap.size + 1 + 1 + 1 + 1) hb1 (by first | omega | (simp only [World.size_alloc, World.size_setCell, World.size_drew, size_drewN', size_grow, size_redrawn]; omega)); rw [hv])
    refine bodyPost_ret (v := .tuple #[.slice none 0 0, .int .i64 0, .int .i64 1]) ?_ rfl ⟨ret3_nil HR.out, ?_⟩
    · have d0 : (((w1.setCell ⟨w.heap.size + 1, 0, none⟩ (.slice none 0 0)).setCell ⟨w.heap.size + 1 + 1, 0, none⟩ (.int .i64 0)).setCell ⟨w.heap.size + 1 + 1 + 1, 0, none⟩ (.int .i64 1)).cell? ⟨w.heap.size + 1, 0, none⟩ = some (.slice none 0 0) := by go_simp
      have d1 : (((w1.setCell ⟨w.heap.size + 1, 0, none⟩ (.slice none 0 0)).setCell ⟨w.heap.size + 1 + 1, 0, none⟩ (.int .i64 0)).setCell ⟨w.heap.size + 1 + 1 + 1, 0, none⟩ (.int .i64 1)).cell? ⟨w.heap.size + 1 + 1, 0, none⟩ = some (.int .i64 0) := by go_simp
      have d2 : (((w1.setCell ⟨w.heap.size + 1, 0, none⟩ (.slice none 0 0)).setCell ⟨w.heap.size + 1 + 1, 0, none⟩ (.int .i64 0)).setCell ⟨w.heap.size + 1 + 1 + 1, 0, none⟩ (.int .i64 1)).cell? ⟨w.heap.size + 1 + 1 + 1, 0, none⟩ = some (.int .i64 1) := by go_simp
      simp [results, Tryz.results12, go_sem, d0, d1, d2]
    · repeat' (first
        | (with_reducible exact Below.refl _ _)
        | (with_reducible assumption)
        | (with_reducible refine below_drewN ?_ _)
        | (with_reducible refine Below.drew ?_)
        | (with_reducible refine below_regrown_up _ _ ?_ ?_)
        | (with_reducible refine Below.alloc ?_ ?_ _)
        | (with_reducible refine Below.setCell ?_ ?_ _)
        | (with_reducible refine below_up ?_ ?_ (by assumption))
        | (with_reducible exact Nat.le_refl _)
        | omega
        | (simp; done)
        | (simp; omega))
  | true =>
    cases hb : b.ok with
    | false =>
      have hr := allT_arg (l := l) (b := b) (by rw [hb]; simp)
      have HR := Lib.hid hr
      clear hr
      go_enter Tryz.func12, Tryz.ntmps12
      go_wp2_with (first | (go_at_call 27; refine (tvalid_any l A c _ ((hs.below hb0).more (by simp; omega)) hl).mono ?_; rintro e w1 ⟨rfl, hb1⟩; have hz1 := hb1.size; (try simp only [World.size_alloc, World.size_setCell, World.size_drew, size_drewN', size_grow, size_redrawn] at hz1); obtain ⟨hc1, hf1⟩ := bcellB (B := w.heap.size + 1 + 1 + 1 + 1) hb1 (by first | omega | (simp only [World.size_alloc, World.size_setCell, World.size_drew, size_drewN', size_grow, size_redrawn]; omega)); rw [hv]) | (go_at_call 28; refine (right_any b _).mono ?_; rintro e w2 ⟨rfl, hb2⟩; have hz2 := hb2.size; (try simp only [World.size_alloc, World.size_setCell, World.size_drew, size_drewN', size_grow, size_redrawn] at hz2); obtain ⟨hc2, hf2⟩ := bcellB (B := w.heap.size + 1 + 1 + 1 + 1) hb2 (by first | omega | (simp only [World.size_alloc, World.size_setCell, World.size_drew, size_drewN', size_grow, size_redrawn]; omega)); rw [hb]))
      refine bodyPost_ret (v := .tuple #[.slice none 0 0, .int .i64 0, .int .i64 1]) ?_ rfl ⟨ret3_nil HR.out, ?_⟩
      · have d0 : (((w2.setCell ⟨w.heap.size + 1, 0, none⟩ (.slice none 0 0)).setCell ⟨w.heap.size + 1 + 1, 0, none⟩ (.int .i64 0)).setCell ⟨w.heap.size + 1 + 1 + 1, 0, none⟩ (.int .i64 1)).cell? ⟨w.heap.size + 1, 0, none⟩ = some (.slice none 0 0) := by go_simp
        have d1 : (((w2.setCell ⟨w.heap.size + 1, 0, none⟩ (.slice none 0 0)).setCell ⟨w.heap.size + 1 + 1, 0, none⟩ (.int .i64 0)).setCell ⟨w.heap.size + 1 + 1 + 1, 0, none⟩ (.int .i64 1)).cell? ⟨w.heap.size + 1 + 1, 0, none⟩ = some (.int .i64 0) := by go_simp
        have d2 : (((w2.setCell ⟨w.heap.size + 1, 0, none⟩ (.slice none 0 0)).setCell ⟨w.heap.size + 1 + 1, 0, none⟩ (.int .i64 0)).setCell ⟨w.heap.size + 1 + 1 + 1, 0, none⟩ (.int .i64 1)).cell? ⟨w.heap.size + 1 + 1 + 1, 0, none⟩ = some (.int .i64 1) := by go_simp
        simp [results, Tryz.results12, go_sem, d0, d1, d2]
      · repeat' (first
          | (with_reducible exact Below.refl _ _)
          | (with_reducible assumption)
          | (with_reducible refine below_drewN ?_ _)
          | (with_reducible refine Below.drew ?_)
          | (with_reducible refine below_regrown_up _ _ ?_ ?_)
          | (with_reducible refine Below.alloc ?_ ?_ _)
          | (with_reducible refine Below.setCell ?_ ?_ _)
          | (with_reducible refine below_up ?_ ?_ (by assumption))
          | (with_reducible exact Nat.le_refl _)
          | omega
          | (simp; done)
          | (simp; omega))
    | true =>
      refine (callsIn_wide (n := 9)).1 ?_
      have hok : (!taxesOk l || !b.ok) = false := by rw [hv, hb]; rfl
      have HOK := Lib.hid hok
      have h50 : l.length ≤ 50 := (taxesOk_iff.1 hv).1
      clear hok
      refine callsIn_of_wp_marks Tryz.func12 rfl trivial ?_ rfl
      simp only [Tryz.ntmps12, List.size_toArray, List.length_cons, List.length_nil, Nat.reduceAdd, Nat.reduceSub, Array.replicate_succ, Array.replicate_zero, List.push_toArray, List.append_toArray, List.nil_append, List.cons_append]
      gi_wp2_with (first | (refine ⟨trivial, ?_⟩; gi_at_call 27; refine (callsIn_wide.2 (tvalid_any l A c _ (((hs.below hb0)).more (by simp; omega)) hl)).mono ?_; rintro e w1 ⟨rfl, hb1⟩; have hz1 := hb1.size; (try simp only [World.size_alloc, World.size_setCell, World.size_drew, size_drewN', size_grow, size_redrawn] at hz1); obtain ⟨hc1, hf1⟩ := bcellB (B := w.heap.size + 1 + 1 + 1 + 1) hb1 (by first | omega | (simp only [World.size_alloc, World.size_setCell, World.size_drew, size_drewN', size_grow, size_redrawn]; omega))); rw [hv] | (refine ⟨trivial, ?_⟩; gi_at_call 28; refine (callsIn_wide.2 (right_any b _)).mono ?_; rintro e w2 ⟨rfl, hb2⟩; have hz2 := hb2.size; (try simp only [World.size_alloc, World.size_setCell, World.size_drew, size_drewN', size_grow, size_redrawn] at hz2); obtain ⟨hc2, hf2⟩ := bcellB (B := w.heap.size + 1 + 1 + 1 + 1) hb2 (by first | omega | (simp only [World.size_alloc, World.size_setCell, World.size_drew, size_drewN', size_grow, size_redrawn]; omega)); have la2a : w.heap.size < w2.heap.size := (by omega); have lb2a : w.heap.size < w2.heap.size + 1 := (by omega); have lc2a : w.heap.size < w2.heap.size + 1 + 1 := (by omega); have ld2a : w.heap.size < w2.heap.size + 1 + 1 + 1 := (by omega); have le2a : w.heap.size < w2.heap.size + 1 + 1 + 1 + 1 := (by omega)); rw [hb] | (refine ⟨trivial, ?_⟩; gi_at_call 30; refine (callsIn_wide.2 (each_any A l.length c b _)).mono ?_; rintro e w3 ⟨rfl, hw3⟩))
      have hb3 : Below w2.heap.size w2 w3 := by
        rw [hw3]
        unfold BillObj
        repeat' (first
          | (with_reducible exact Below.refl _ _)
          | (with_reducible assumption)
          | (with_reducible refine below_drewN ?_ _)
          | (with_reducible refine Below.drew ?_)
          | (with_reducible refine below_regrown_up _ _ ?_ ?_)
          | (with_reducible refine Below.alloc ?_ ?_ _)
          | (with_reducible refine Below.setCell ?_ ?_ _)
          | (with_reducible refine below_up ?_ ?_ (by assumption))
          | (with_reducible exact Nat.le_refl _)
          | omega
          | (simp; done)
          | (simp; omega))
      have hbw : Below w.heap.size w w3 := below_up (below_up (below_up hb0 (by simp; omega) hb1) (by omega) hb2) (by omega) hb3
      obtain ⟨hc3, hf3⟩ := bcellB (B := w.heap.size + 1 + 1 + 1 + 1) hb3 (by omega)
      have hws : w3.heap.size = w2.heap.size + 1 + 1 + 1 + 1 + 1 := by rw [hw3]; simp
      have k0 : w3.cell? ⟨w2.heap.size, 0, none⟩ = some (.slice none 0 0) := by rw [hw3]; unfold BillObj; go_simp
      have k1 : w3.cell? ⟨w2.heap.size + 1, 0, none⟩ = some (.int .i64 0) := by rw [hw3]; unfold BillObj; go_simp
      have k2 : w3.cell? ⟨w2.heap.size + 1 + 1, 0, none⟩ = some (.func (.func 29) #[] #[.pointer (some ⟨w2.heap.size, 0, none⟩), .pointer (some ⟨w2.heap.size + 1, 0, none⟩)]) := by rw [hw3]; unfold BillObj; go_simp
      have k3 : w3.cell? ⟨w2.heap.size + 1 + 1 + 1, 0, none⟩ = some (.slice A l.length c) := by rw [hw3]; unfold BillObj; go_simp
      have k4 : ∀ j v, b.cs[j]? = some v → w3.cell? ⟨w2.heap.size + 1 + 1 + 1 + 1, j, none⟩ = some v := by
        intro j v hv
        rw [hw3]
        unfold BillObj
        rw [World.cell?_alloc_at _ _ _ _ (by simp)]
        rw [← Array.getElem?_toList]
        exact hv
      have k5 : w3.cell? ⟨w.heap.size + 1, 0, none⟩ = some (.slice none 0 0) := by rw [hc3 _ _ (by omega), hc2 _ _ (by omega), hc1 _ _ (by omega)]; go_simp
      have k6 : w3.cell? ⟨w.heap.size + 1 + 1, 0, none⟩ = some (.int .i64 0) := by rw [hc3 _ _ (by omega), hc2 _ _ (by omega), hc1 _ _ (by omega)]; go_simp
      have k7 : w3.cell? ⟨w.heap.size + 1 + 1 + 1, 0, none⟩ = some (.int .i64 0) := by rw [hc3 _ _ (by omega), hc2 _ _ (by omega), hc1 _ _ (by omega)]; go_simp
      have g0 : w3.frozen? ⟨w2.heap.size, 0, none⟩ = false := by rw [hw3]; unfold BillObj; go_simp
      have g1 : w3.frozen? ⟨w2.heap.size + 1, 0, none⟩ = false := by rw [hw3]; unfold BillObj; go_simp
      have g5 : w3.frozen? ⟨w.heap.size + 1, 0, none⟩ = false := by rw [hf3 _ _ (by omega), hf2 _ _ (by omega), hf1 _ _ (by omega)]; go_simp
      have g6 : w3.frozen? ⟨w.heap.size + 1 + 1, 0, none⟩ = false := by rw [hf3 _ _ (by omega), hf2 _ _ (by omega), hf1 _ _ (by omega)]; go_simp
      have g7 : w3.frozen? ⟨w.heap.size + 1 + 1 + 1, 0, none⟩ = false := by rw [hf3 _ _ (by omega), hf2 _ _ (by omega), hf1 _ _ (by omega)]; go_simp
      have h00 : AllI w w2.heap.size (.func (.func 29) #[] #[.pointer (some ⟨w2.heap.size, 0, none⟩), .pointer (some ⟨w2.heap.size + 1, 0, none⟩)]) [] w3 :=
        ⟨⟨_, k0, World.ownsRow_nil _ _ _ _⟩, k1, k2, k5, k6, k7, g0, g1, g5, g6, g7, by simp, by simp, by omega, hbw⟩
      have hXs : ∀ k, (k < w.heap.size ∨ k = w2.heap.size + 1 + 1 + 1 ∨ k = w2.heap.size + 1 + 1 + 1 + 1) → k < w3.heap.size := fun k hk => by rcases hk with h | h | h <;> omega
      have hst := each_stops 8 (by omega) (w2.heap.size + 1 + 1 + 1) (w2.heap.size + 1 + 1 + 1 + 1) (fun k => k < w.heap.size ∨ k = w2.heap.size + 1 + 1 + 1 ∨ k = w2.heap.size + 1 + 1 + 1 + 1) l b A c w3
        (.inr (.inl rfl)) (.inr (.inr rfl)) (fun hne bk off e => by
          obtain ⟨b', off', e', hlt, _⟩ := hs hne
          rw [e] at e'
          injection e' with e'
          injection e' with e1 e2
          exact .inl (by omega)) hXs k3 k4 ((hs.below hbw).more (by omega)) hl
      rw [← hw3]
      clear k0 k1 k2 k3 k4 k5 k6 k7 g0 g1 g5 g6 g7
      refine wpIn_rangeFunc_ownF (w := w3) rfl (by omega) (gf := 64) (lb := #[.pointer (some ⟨w2.heap.size + 1 + 1 + 1, 0, none⟩), .pointer (some ⟨w2.heap.size + 1 + 1 + 1 + 1, 0, none⟩)]) rfl trivial (enters_of Tryz.func64 (by kernel_rfl) rfl)
        hst (fun h k => ⟨h.1.trans k.1, Nat.le_trans h.2 k.2⟩) (fun W l o o' h1 h2 h3 h4 => ⟨keepOn_b hXs W l o o' h1 h2 h3 h4, by simp⟩) (Below.refl _ _) (fun _ => rfl)
        (AllI w w2.heap.size (.func (.func 29) #[] #[.pointer (some ⟨w2.heap.size, 0, none⟩), .pointer (some ⟨w2.heap.size + 1, 0, none⟩)])) (AllX w) (allI_own (by omega)) (fun c => allX_own (by omega)) h00
        (fun x => { tmps := #[Value.slice A l.length c, b.v, undef, Value.pointer (some { block := w.heap.size, off := 0 }),
           Value.pointer (some { block := w.heap.size + 1, off := 0 }),
           Value.pointer (some { block := w.heap.size + 1 + 1, off := 0 }),
           Value.pointer (some { block := w.heap.size + 1 + 1 + 1, off := 0 }),
           Value.pointer (some { block := w2.heap.size, off := 0 }),
           Value.pointer (some { block := w2.heap.size + 1, off := 0 }),
           Value.pointer (some { block := w2.heap.size + 1 + 1, off := 0 }), .int .i64 x.1.1, .int .i64 x.1.2, Value.slice A l.length c,
           Value.bool true, Value.bool false, Value.bool false,
           Value.agg
             #[Value.int IntKind.i64 b.stay, Value.int IntKind.i64 b.channel, Value.int IntKind.i64 b.place,
               Value.int IntKind.i64 b.kind, Value.int IntKind.i64 b.frm, Value.int IntKind.i64 b.til,
               Value.int IntKind.i64 b.persons, Value.int IntKind.i64 b.price, Value.int IntKind.i64 b.keep],
           Value.bool true, Value.bool false, Value.bool false,
           Value.func (Fn.func 29) #[]
             #[Value.pointer (some { block := w2.heap.size, off := 0 }),
               Value.pointer (some { block := w2.heap.size + 1, off := 0 })],
           Value.slice A l.length c,
           Value.agg
             #[Value.int IntKind.i64 b.stay, Value.int IntKind.i64 b.channel, Value.int IntKind.i64 b.place,
               Value.int IntKind.i64 b.kind, Value.int IntKind.i64 b.frm, Value.int IntKind.i64 b.til,
               Value.int IntKind.i64 b.persons, Value.int IntKind.i64 b.price, Value.int IntKind.i64 b.keep],
           Value.func (Fn.func 64) #[]
             #[Value.pointer (some { block := w2.heap.size + 1 + 1 + 1, off := 0 }),
               Value.pointer (some { block := w2.heap.size + 1 + 1 + 1 + 1, off := 0 })],
           .int .i64 x.1.1, .int .i64 x.1.2, undef, undef, undef, undef, undef, undef, undef, undef, undef, undef], defers := [] }) ?assign ?body ?done ?stop
      case assign =>
        intro l x W K hK
        gi_wp2
        exact hK
      case body =>
        intro l' pre x W hI hlen
        obtain ⟨v, i0, hown⟩ := hI.out
        have i1 := hI.sum
        have i2 := hI.cl
        have i3 := hI.r0
        have i4 := hI.r1
        have i5 := hI.r2
        have j0 := hI.f0
        have j1 := hI.f1
        have j2 := hI.f2
        have j3 := hI.f3
        have j4 := hI.f4
        have hsz := hI.size
        by_cases hx : x.1.2 = 0
        · have hbx : (x.1.2 != 0) = false := by simpa using hx
          have HX := Lib.hid hx
          have hbd0 := sum_bd (l := pre.map (·.1.1)) (B := 1000000000) (by
            intro y hy
            obtain ⟨z, hz, rfl⟩ := List.mem_map.1 hy
            exact z.2)
          have hlen2 := hI.len
          rw [List.length_map] at hbd0
          obtain ⟨hbd1, hbd2⟩ := hbd0
          clear hx
          obtain ⟨x, hxb0, hxb1⟩ := x
          simp only at hbx HX
          gi_wp2_with (refine ⟨trivial, ?_⟩; gi_at_call 29; refine (CallsIn.inRound l' (callsIn_wide.2 (tax_add_any x.1 _ w2.heap.size (w2.heap.size + 1) (w2.heap.size + 1 + 1 + 1 + 1 + 1) v (pre.map (·.1.1)) _ i0 j0 i1 j1 (by omega) hown hsz (by omega) (by omega) (by simp; omega) hbd1 (by omega) hxb0 hxb1))).mono ?_; rintro e W3 ⟨⟨u, rfl⟩, v', y0, y1, y2, y3, y4, ht⟩)
          have hm : ∀ k, (k = w2.heap.size ∨ k = w2.heap.size + 1 ∨ v.ownBlock = some k) → w2.heap.size ≤ k ∧ k ≠ w2.heap.size + 1 + 1 ∧ k ≠ w2.heap.size + 1 + 1 + 1 ∧ k ≠ w2.heap.size + 1 + 1 + 1 + 1 := by
            rintro k (rfl | rfl | h)
            · omega
            · omega
            · have := (hown.lt k h).1; omega
          have hsz3 := ht.size
          refine ⟨ht.others ?_, ⟨ht.keepOn ?_, ht.size⟩, ⟨v', y0, ?_⟩, ?_, ?_, ?_, ?_, ?_, y1, y3, ?_, ?_, ?_, ?_, ?_, by omega, hI.below.trans (ht.below (n := w.heap.size) (by omega) ?_)⟩
          · rintro k (rfl | rfl | h) o ho
            · exact isCells_of_cell (a := ⟨w2.heap.size, 0, none⟩) i0 ho
            · exact isCells_of_cell (a := ⟨w2.heap.size + 1, 0, none⟩) i1 ho
            · exact cells_of_row hown h ho
          · intro k hk
            have h1 := fun h => hm k h
            rcases hk with h | h | h
            · exact ⟨by omega, fun e => by have := h1 e; omega⟩
            · exact ⟨by omega, fun e => by have := h1 e; omega⟩
            · exact ⟨by omega, fun e => by have := h1 e; omega⟩
          · simpa using y4
          · rw [y2]; simp
          · exact ht.cell (p := ⟨w2.heap.size + 1 + 1, 0, none⟩) (fun e => (hm _ e).2.1 rfl) i2
          · exact ht.cell (p := ⟨w.heap.size + 1, 0, none⟩) (fun e => by have := hm _ e; simp only at this; omega) i3
          · exact ht.cell (p := ⟨w.heap.size + 1 + 1, 0, none⟩) (fun e => by have := hm _ e; simp only at this; omega) i4
          · exact ht.cell (p := ⟨w.heap.size + 1 + 1 + 1, 0, none⟩) (fun e => by have := hm _ e; simp only at this; omega) i5
          · exact (ht.frozen (p := ⟨w.heap.size + 1, 0, none⟩) (show _ < _ by simp only; omega) (fun e => by have := hm _ e; simp only at this; omega)).trans j2
          · exact (ht.frozen (p := ⟨w.heap.size + 1 + 1, 0, none⟩) (show _ < _ by simp only; omega) (fun e => by have := hm _ e; simp only at this; omega)).trans j3
          · exact (ht.frozen (p := ⟨w.heap.size + 1 + 1 + 1, 0, none⟩) (show _ < _ by simp only; omega) (fun e => by have := hm _ e; simp only at this; omega)).trans j4
          · intro y hy
            rcases List.mem_append.1 hy with hy | hy
            · exact hI.ok y hy
            · have : y = ⟨x, hxb0, hxb1⟩ := by simpa using hy
              subst this
              exact HX.out
          · rw [List.length_append]
            simp only [List.length_cons, List.length_nil]
            omega
          · intro k hk
            have := hm k hk
            omega
        · have hbx : (x.1.2 != 0) = true := by simpa using hx
          have HX := Lib.hid hx
          clear hx
          gi_wp2
          refine ⟨((KeepsOthers.setCell W _ _).trans (KeepsOthers.setCell _ _ _)).trans (KeepsOthers.setCell _ _ _), rfl, ⟨pre, x, rfl, hI.ok, HX.out, ?_⟩, ?_, ?_, ?_⟩
          · exact World.cell?_setCell_same _ _ _ (u := .int .i64 0) (by go_simp)
          · go_simp
          · go_simp
          · exact ((hI.below.setCell (p := ⟨w.heap.size + 1, 0, none⟩) (by simp) _).setCell (p := ⟨w.heap.size + 1 + 1, 0, none⟩) (by simp; omega) _).setCell (p := ⟨w.heap.size + 1 + 1 + 1, 0, none⟩) (by simp; omega) _
      case done =>
        rintro D xs W hD rfl hI hK
        obtain ⟨v, i0, hown⟩ := hI.out
        have i1 := hI.sum
        have i3 := hI.r0
        have i4 := hI.r1
        have i5 := hI.r2
        have j2 := hI.f2
        have j3 := hI.f3
        have j4 := hI.f4
        have hsz := hI.size
        have e1 : (l.map (oneS · b)).map (·.1.1) = onesT l b := by rw [List.map_map]; rfl
        rw [e1] at i1 hown
        have hok0 : ∀ j (h : j < l.length), (one l[j] b).2 = 0 := fun j h => hI.ok (oneS l[j] b) (List.mem_map.2 ⟨l[j], List.getElem_mem h, rfl⟩)
        have hr := allT_ok (l := l) (b := b) HOK.out hok0
        have HR := Lib.hid hr
        have HOK0 := Lib.hid hok0
        clear hr hok0 e1
        by_cases hg : 1000000000 < (onesT l b).sum
        · gi_wp2
          have hK' := (show KeepsOthers W (((W.setCell ⟨w.heap.size + 1, 0, none⟩ (.slice none 0 0)).setCell ⟨w.heap.size + 1 + 1, 0, none⟩ (.int .i64 0)).setCell ⟨w.heap.size + 1 + 1 + 1, 0, none⟩ (.int .i64 3)) from (((KeepsOthers.setCell W _ _).trans (KeepsOthers.setCell _ _ _)).trans (KeepsOthers.setCell _ _ _))).same D _ hK rfl
          have d0 := cell_kept (W := (((W.setCell ⟨w.heap.size + 1, 0, none⟩ (.slice none 0 0)).setCell ⟨w.heap.size + 1 + 1, 0, none⟩ (.int .i64 0)).setCell ⟨w.heap.size + 1 + 1 + 1, 0, none⟩ (.int .i64 3))) (v := (.slice none 0 0)) (a := ⟨w.heap.size + 1, 0, none⟩) (by go_simp) (grownBy_putObj' _ D (.deferred none)) (fun r e => by cases e; exact ⟨_, hK', rfl⟩)
          have d1 := cell_kept (W := (((W.setCell ⟨w.heap.size + 1, 0, none⟩ (.slice none 0 0)).setCell ⟨w.heap.size + 1 + 1, 0, none⟩ (.int .i64 0)).setCell ⟨w.heap.size + 1 + 1 + 1, 0, none⟩ (.int .i64 3))) (v := .int .i64 0) (a := ⟨w.heap.size + 1 + 1, 0, none⟩) (by go_simp) (grownBy_putObj' _ D (.deferred none)) (fun r e => by cases e; exact ⟨_, hK', rfl⟩)
          have d2 := cell_kept (W := (((W.setCell ⟨w.heap.size + 1, 0, none⟩ (.slice none 0 0)).setCell ⟨w.heap.size + 1 + 1, 0, none⟩ (.int .i64 0)).setCell ⟨w.heap.size + 1 + 1 + 1, 0, none⟩ (.int .i64 3))) (v := .int .i64 3) (a := ⟨w.heap.size + 1 + 1 + 1, 0, none⟩) (World.cell?_setCell_same _ _ _ (u := .int .i64 0) (by go_simp)) (grownBy_putObj' _ D (.deferred none)) (fun r e => by cases e; exact ⟨_, hK', rfl⟩)
          refine ⟨by simp, .inl ⟨_, _, rfl, run_takeDeferred hK', ?_⟩⟩
          refine ⟨.tuple #[.slice none 0 0, .int .i64 0, .int .i64 3], ?_, ?_, ?_⟩
          · simp [results, Tryz.f12, go_sem, d0, d1, d2]
          · exact ret3_nil (by rw [HR.out, if_pos hg])
          · exact ((((hI.below.setCell (p := ⟨w.heap.size + 1, 0, none⟩) (by simp) _).setCell (p := ⟨w.heap.size + 1 + 1, 0, none⟩) (by simp; omega) _).setCell (p := ⟨w.heap.size + 1 + 1 + 1, 0, none⟩) (by simp; omega) _)).trans (belowK_b (w := w) (Nat.le_refl _) _ D _ _ (by omega) hK' rfl rfl)
        · have hg2 : (onesT l b).sum ≤ 1000000000 := by omega
          clear hg
          obtain ⟨A', c', rfl, hsl⟩ := sl_of_row hown
          have hf : allT l b = (onesT l b, (onesT l b).sum, 0) := by rw [HR.out, if_neg (by omega)]
          have HF := Lib.hid hf
          clear hf
          gi_wp2
          gi_region
          gi_wp2
          have hK' := (show KeepsOthers W ((((W.setCell ⟨w.heap.size + 1, 0, none⟩ (.slice A' (onesT l b).length c')).setCell ⟨w.heap.size + 1 + 1, 0, none⟩ (.int .i64 (onesT l b).sum)).setCell ⟨w.heap.size + 1 + 1 + 1, 0, none⟩ (.int .i64 0)).drew) from ((((KeepsOthers.setCell W _ _).trans (KeepsOthers.setCell _ _ _)).trans (KeepsOthers.setCell _ _ _)).trans (KeepsOthers.drew _))).same D _ hK rfl
          have d0 := cell_kept (W := ((((W.setCell ⟨w.heap.size + 1, 0, none⟩ (.slice A' (onesT l b).length c')).setCell ⟨w.heap.size + 1 + 1, 0, none⟩ (.int .i64 (onesT l b).sum)).setCell ⟨w.heap.size + 1 + 1 + 1, 0, none⟩ (.int .i64 0)).drew)) (v := (.slice A' (onesT l b).length c')) (a := ⟨w.heap.size + 1, 0, none⟩) (by go_simp) (grownBy_putObj' _ D (.deferred none)) (fun r e => by cases e; exact ⟨_, hK', rfl⟩)
          have d1 := cell_kept (W := ((((W.setCell ⟨w.heap.size + 1, 0, none⟩ (.slice A' (onesT l b).length c')).setCell ⟨w.heap.size + 1 + 1, 0, none⟩ (.int .i64 (onesT l b).sum)).setCell ⟨w.heap.size + 1 + 1 + 1, 0, none⟩ (.int .i64 0)).drew)) (v := .int .i64 (onesT l b).sum) (a := ⟨w.heap.size + 1 + 1, 0, none⟩) (by go_simp) (grownBy_putObj' _ D (.deferred none)) (fun r e => by cases e; exact ⟨_, hK', rfl⟩)
          have d2 := cell_kept (W := ((((W.setCell ⟨w.heap.size + 1, 0, none⟩ (.slice A' (onesT l b).length c')).setCell ⟨w.heap.size + 1 + 1, 0, none⟩ (.int .i64 (onesT l b).sum)).setCell ⟨w.heap.size + 1 + 1 + 1, 0, none⟩ (.int .i64 0)).drew)) (v := .int .i64 0) (a := ⟨w.heap.size + 1 + 1 + 1, 0, none⟩) (World.cell?_setCell_same _ _ _ (u := .int .i64 0) (by go_simp)) (grownBy_putObj' _ D (.deferred none)) (fun r e => by cases e; exact ⟨_, hK', rfl⟩)
          refine ⟨by simp, .inl ⟨_, _, rfl, run_takeDeferred hK', ?_⟩⟩
          refine ⟨.tuple #[.slice A' (onesT l b).length c', .int .i64 (onesT l b).sum, .int .i64 0], ?_, ?_, ?_⟩
          · simp [results, Tryz.f12, go_sem, d0, d1, d2]
          · exact (by have ho1 := ownsRow_setCell_below (a := ⟨w.heap.size + 1 + 1 + 1, 0, none⟩) (ownsRow_setCell_below (a := ⟨w.heap.size + 1 + 1, 0, none⟩) (ownsRow_setCell_below (a := ⟨w.heap.size + 1, 0, none⟩) hown (by simp only; omega) (.slice A' (onesT l b).length c')) (by simp only; omega) (.int .i64 (onesT l b).sum)) (by simp only; omega) (.int .i64 0); have ho2 := row_keptN (ho1.drew) (grownBy_putObj' _ D (.deferred none)) (fun r e => by cases e; exact ⟨_, hK', rfl⟩); obtain ⟨A2, c2, e2, hsl2⟩ := sl_of_row ho2; rw [HF.out]; exact ⟨A2, c2, by rw [← e2], hsl2⟩)
          · exact ((((hI.below.setCell (p := ⟨w.heap.size + 1, 0, none⟩) (by simp) _).setCell (p := ⟨w.heap.size + 1 + 1, 0, none⟩) (by simp; omega) _).setCell (p := ⟨w.heap.size + 1 + 1 + 1, 0, none⟩) (by simp; omega) _).drew).trans (belowK_b (w := w) (Nat.le_refl _) _ D _ _ (by omega) hK' rfl rfl)
      case stop =>
        rintro D c' pre W hD hpre hX hK
        obtain rfl := hX.c
        obtain ⟨pre', x, rfl, h1, h2, h3⟩ := hX.last
        have hr : allT l b = ([], 0, x.1.2) := by
          have hm : pre'.length < l.length := by
            have := hpre.length_le
            simp at this
            omega
          have e0 : ∀ j (h : j < (pre' ++ [x]).length) (hj : j < l.length), (pre' ++ [x])[j] = oneS l[j] b := fun j h hj => by
            obtain ⟨t, ht⟩ := hpre
            have : (l.map (oneS · b))[j]? = some (pre' ++ [x])[j] := by rw [← ht, List.getElem?_append_left h, List.getElem?_eq_getElem h]
            rw [List.getElem?_map] at this
            rw [List.getElem?_eq_getElem hj] at this
            simpa using this.symm
          have e1 : x = oneS l[pre'.length] b := by
            have := e0 pre'.length (by simp) hm
            simpa using this
          rw [e1] at h2 ⊢
          refine allT_err HOK.out hm h2 (fun j hj hjm => ?_)
          have e2 := e0 j (by simp; omega) hj
          rw [List.getElem_append_left hjm] at e2
          have := h1 pre'[j] (List.getElem_mem hjm)
          rw [e2] at this
          exact this
        have HR := Lib.hid hr
        have i3 := hX.r0
        have i4 := hX.r1
        clear hr
        gi_wp2
        have hK' := (show KeepsOthers W W from KeepsOthers.refl W).same D _ hK rfl
        have d0 := cell_kept (W := W) (v := (.slice none 0 0)) (a := ⟨w.heap.size + 1, 0, none⟩) i3 (grownBy_putObj' _ D (.deferred none)) (fun r e => by cases e; exact ⟨_, hK', rfl⟩)
        have d1 := cell_kept (W := W) (v := .int .i64 0) (a := ⟨w.heap.size + 1 + 1, 0, none⟩) i4 (grownBy_putObj' _ D (.deferred none)) (fun r e => by cases e; exact ⟨_, hK', rfl⟩)
        have d2 := cell_kept (W := W) (v := .int .i64 x.1.2) (a := ⟨w.heap.size + 1 + 1 + 1, 0, none⟩) h3 (grownBy_putObj' _ D (.deferred none)) (fun r e => by cases e; exact ⟨_, hK', rfl⟩)
        refine ⟨by simp, .inl ⟨_, _, rfl, run_takeDeferred hK', ?_⟩⟩
        refine ⟨.tuple #[.slice none 0 0, .int .i64 0, .int .i64 x.1.2], ?_, ?_, ?_⟩
        · simp [results, Tryz.f12, go_sem, d0, d1, d2]
        · exact ret3_nil HR.out
        · exact (hX.below).trans (belowK_b (w := w) (Nat.le_refl _) _ D _ _ (by omega) hK' rfl rfl)
end Go.Proofs.YtmlhoojcdidgkaaGreat

/-
  Contracts of package deposit and of its reference: amounts, refunds, vouchers.
-/
namespace Go.Proofs.YtmlhoojcdidgkaaGreat
set_option linter.unusedSimpArgs false
set_option linter.unusedVariables false
open Go.RowKit
open Go.Sort (grow size_grow)

set_option maxHeartbeats 4000000
set_option maxRecDepth 100000

abbrev amt (n : Int) : Bool := inB n 0 1000000000
def refundR (b : Bill) (paid : Int) : Int × Int × Int := if (!b.ok || !amt paid) = true then (0, 0, 1) else (paid - min paid b.keep, min paid b.keep, 0)
def voucherR (due worth : Int) : Int × Int × Int := if (!amt due || !amt worth) = true then (0, 0, 1) else (min due worth, worth - min due worth, 0)
theorem allT_nil (b : Bill) : allT [] b = ([], 0, if b.ok = true then 0 else 1) := by
  unfold allT
  have h : taxesOk [] = true := by decide
  rw [h]
  cases b.ok <;> simp

theorem isAmount_any (n : Int) (w : World) :
    Calls Tryz.prog 131 #[.int .i64 n] w fun e w' => e = .returned (.bool (amt n)) ∧ w = w' := by
  by_cases h1 : 0 ≤ n
  · by_cases h2 : n ≤ 1000000000
    · go_enter Tryz.func131, Tryz.ntmps131
      go_wp2
      go_ret
      exact ⟨ret_bool (inB_t h1 h2).symm, rfl⟩
    · go_enter Tryz.func131, Tryz.ntmps131
      go_wp2
      go_ret
      exact ⟨ret_bool (inB_f (by omega)).symm, rfl⟩
  · go_enter Tryz.func131, Tryz.ntmps131
    go_wp2
    go_ret
    exact ⟨ret_bool (inB_f (by omega)).symm, rfl⟩
theorem tall_nil {b : Bill} {er : Int} (h : (if b.ok = true then (0 : Int) else 1) = er) (w : World) :
    Calls Tryz.prog 12 #[.slice none 0 0, b.v] w fun e w' => (∃ A c, e = .returned (.tuple #[.slice A 0 c, .int .i64 0, .int .i64 er])) ∧ Below w.heap.size w w' := by
  subst h
  refine (tall_any [] b none 0 _ Sl.nil_ (by simp)).mono ?_
  rintro e w1 ⟨h, hb1⟩
  unfold Ret3 at h
  rw [allT_nil] at h
  obtain ⟨A', c', rfl, _⟩ := h
  exact ⟨⟨A', c', rfl⟩, hb1⟩
theorem dright_any (b : Bill) (w : World) :
    Calls Tryz.prog 130 #[b.v] w fun e w' => e = .returned (.bool b.ok) ∧ Below w.heap.size w w' := by
  obtain ⟨er, her⟩ : ∃ er, (if b.ok = true then (0 : Int) else 1) = er := ⟨_, rfl⟩
  go_enter Tryz.func130, Tryz.ntmps130
  go_wp2_with fail
  refine (tall_nil her _).mono ?_
  rintro e w1 ⟨⟨A', c', rfl⟩, hb1⟩
  have hz1 := hb1.size
  rw [World.size_alloc] at hz1
  obtain ⟨hc1, hf1⟩ := bcellB (B := w.heap.size + 1) hb1 (by simp)
  cases hok : b.ok
  all_goals
    rw [hok] at her
    obtain rfl : _ = er := her
    go_wp2_with fail
    go_ret
    refine ⟨by first | (simp [hok]; done) | rfl, ?_⟩
    repeat' (first
      | (with_reducible exact Below.refl _ _)
      | (with_reducible assumption)
      | (with_reducible refine below_drewN ?_ _)
      | (with_reducible refine Below.drew ?_)
      | (with_reducible refine below_regrown_up _ _ ?_ ?_)
      | (with_reducible refine Below.alloc ?_ ?_ _)
      | (with_reducible refine Below.setCell ?_ ?_ _)
      | (with_reducible refine below_up ?_ ?_ (by assumption))
      | (with_reducible exact Nat.le_refl _)
      | omega
      | (simp; done)
      | (simp; omega))
theorem dparts_any (b : Bill) (paid : Int) (w : World) (hp : amt paid = true) (hb : b.ok = true) :
    Calls Tryz.prog 132 #[b.v, .int .i64 paid] w fun e w' => e = .returned (.agg #[.int .i64 (paid - min paid b.keep), .int .i64 (min paid b.keep)]) ∧ Below w.heap.size w w' := by
  have h1 := inB_iff.1 hp
  have h2 := (Bill.ok_iff.1 hb)
  go_enter Tryz.func132, Tryz.ntmps132
  go_wp2_with fail
  all_goals
    refine bodyPost_ret (v := .agg #[.int .i64 (paid - min paid b.keep), .int .i64 (min paid b.keep)]) ?_ rfl ⟨rfl, ?_⟩
    · first
        | (rw [show min paid b.keep = paid by omega]; simp [results, Tryz.results132, go_sem]; done)
        | (rw [show min paid b.keep = b.keep by omega]; simp [results, Tryz.results132, go_sem]; done)
    · repeat' (first
        | (with_reducible exact Below.refl _ _)
        | (with_reducible assumption)
        | (with_reducible refine below_drewN ?_ _)
        | (with_reducible refine Below.drew ?_)
        | (with_reducible refine below_regrown_up _ _ ?_ ?_)
        | (with_reducible refine Below.alloc ?_ ?_ _)
        | (with_reducible refine Below.setCell ?_ ?_ _)
        | (with_reducible refine below_up ?_ ?_ (by assumption))
        | (with_reducible exact Nat.le_refl _)
        | omega
        | (simp; done)
        | (simp; omega))
theorem voucherR_ok {due worth : Int} (h1 : amt due = true) (h2 : amt worth = true) : voucherR due worth = (min due worth, worth - min due worth, 0) := by unfold voucherR; rw [h1, h2]; rfl
theorem refundR_ok {b : Bill} {paid : Int} (h1 : b.ok = true) (h2 : amt paid = true) : refundR b paid = (paid - min paid b.keep, min paid b.keep, 0) := by unfold refundR; rw [h1, h2]; rfl
theorem refundR_no {b : Bill} {paid : Int} (h : (!b.ok || !amt paid) = true) : refundR b paid = (0, 0, 1) := by unfold refundR; rw [if_pos h]
abbrev Ret3I (r : Int × Int × Int) : Ending := .returned (.tuple #[.int .i64 r.1, .int .i64 r.2.1, .int .i64 r.2.2])
end Go.Proofs.YtmlhoojcdidgkaaGreat
