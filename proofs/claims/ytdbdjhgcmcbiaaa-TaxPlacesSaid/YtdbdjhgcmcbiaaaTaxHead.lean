/-
  The laws of package tax: the head that each of them calls.
-/
import Derived.Test.YtdbdjhgcmcbiaaaTax7
import Derived.Deep.RegionHeld3
import Derived.Deep.DeepCutAuto
namespace Go.Proofs.Ytdbdjhgcmcbiaaa
set_option linter.unusedSimpArgs false
set_option linter.unusedVariables false
open Go.RowKit Go.Maps
open Go.Sort (grow size_grow)

set_option maxHeartbeats 4000000
set_option maxRecDepth 100000

def exBill : Bill := ⟨1, 0, 4, 1, 5, 8, 2, 30000, 0⟩
theorem ex_any (w : World) : Calls Try.prog 38 #[] w fun e w' => e = .returned exBill.v ∧ Below w.heap.size w w' := by
  go_enter Try.func38, Try.ntmps38
  go_wp2
  refine bodyPost_ret (v := exBill.v) (by simp [results, Try.results38, go_sem, exBill]) rfl ⟨rfl, ?_⟩
  repeat' (first
    | (with_reducible exact Below.refl _ _)
    | (with_reducible assumption)
    | (with_reducible refine below_drewN ?_ _)
    | (with_reducible refine Below.drew ?_)
    | (with_reducible refine below_regrown_up _ _ ?_ ?_)
    | (with_reducible refine Below.alloc ?_ ?_ _)
    | (with_reducible refine Below.setCell ?_ ?_ _)
    | (with_reducible refine below_up ?_ ?_ (by assumption))
    | (with_reducible exact Nat.le_refl _)
    | omega
    | (simp; done)
    | (simp; omega))

def taxA (t : Tax) : Array Value := #[.int .i64 t.id, .int .i64 t.place, .int .i64 t.night, .int .i64 t.n, .int .i64 t.d, .int .i64 t.first, .int .i64 t.round]
/-- Where the head's taxes lie, once three of them have been copied. -/
structure HeadAt (w : World) (b4 b5 b6 : Nat) (W : World) : Prop where
  below : Below w.heap.size w W
  size : w.heap.size + 6 ≤ W.heap.size
  l4 : w.heap.size + 3 ≤ b4 ∧ b4 < w.heap.size + 6
  l5 : w.heap.size + 3 ≤ b5 ∧ b5 < w.heap.size + 6
  l6 : w.heap.size + 3 ≤ b6 ∧ b6 < w.heap.size + 6
  n45 : b4 ≠ b5
  n46 : b4 ≠ b6
  n56 : b5 ≠ b6
  c1 : ∀ o, W.cell? ⟨w.heap.size, o, none⟩ = (#[Value.int .i64 1, .int .i64 4, .int .i64 200, .int .i64 0, .int .i64 1, .int .i64 0, .int .i64 1] : Array Value)[o]?
  c2 : ∀ o, W.cell? ⟨w.heap.size + 1, o, none⟩ = (#[Value.int .i64 2, .int .i64 4, .int .i64 0, .int .i64 7, .int .i64 100, .int .i64 0, .int .i64 1] : Array Value)[o]?
  c3 : ∀ o, W.cell? ⟨w.heap.size + 1 + 1, o, none⟩ = (#[Value.int .i64 3, .int .i64 4, .int .i64 0, .int .i64 1, .int .i64 3, .int .i64 2, .int .i64 2] : Array Value)[o]?
  c4 : ∀ o, W.cell? ⟨b4, o, none⟩ = (#[Value.int .i64 3, .int .i64 4, .int .i64 0, .int .i64 1, .int .i64 3, .int .i64 2, .int .i64 2] : Array Value)[o]?
  c5 : ∀ o, W.cell? ⟨b5, o, none⟩ = (#[Value.int .i64 3, .int .i64 4, .int .i64 0, .int .i64 1, .int .i64 3, .int .i64 2, .int .i64 2] : Array Value)[o]?
  c6 : ∀ o, W.cell? ⟨b6, o, none⟩ = (#[Value.int .i64 2, .int .i64 4, .int .i64 0, .int .i64 7, .int .i64 100, .int .i64 0, .int .i64 1] : Array Value)[o]?
  f4 : ∀ o, W.frozen? ⟨b4, o, none⟩ = false
  f5 : ∀ o, W.frozen? ⟨b5, o, none⟩ = false
  f6 : ∀ o, W.frozen? ⟨b6, o, none⟩ = false
theorem headAt_drew {w W : World} {b4 b5 b6 : Nat} (h : HeadAt w b4 b5 b6 W) : HeadAt w b4 b5 b6 W.drew :=
  ⟨Below.drew h.below, h.size, h.l4, h.l5, h.l6, h.n45, h.n46, h.n56, h.c1, h.c2, h.c3, h.c4, h.c5, h.c6, h.f4, h.f5, h.f6⟩
theorem box_at {w : World} {n : Nat} (cs : Array Value) (t : TypeId) (hn : n = w.heap.size) : ∀ o, (w.alloc (.cells cs t)).cell? ⟨n, o, none⟩ = cs[o]? := by subst hn; exact box_new w cs t
theorem fr_at {w : World} {n : Nat} (cs : Array Value) (t : TypeId) (hn : n = w.heap.size) : ∀ o, (w.alloc (.cells cs t)).frozen? ⟨n, o, none⟩ = false := by subst hn; intro o; exact World.frozen?_alloc_new w cs t o
theorem fr_old {w : World} {n : Nat} (h : ∀ o, w.frozen? ⟨n, o, none⟩ = false) (hn : n < w.heap.size) (x : Obj) : ∀ o, (w.alloc x).frozen? ⟨n, o, none⟩ = false := fun o => (World.frozen?_alloc_old w x ⟨n, o, none⟩ (by simp only; omega)).trans (h o)
def tNight : Tax := ⟨1, 4, 200, 0, 1, 0, 1⟩
def tPart : Tax := ⟨2, 4, 0, 7, 100, 0, 1⟩
def tThird : Tax := ⟨3, 4, 0, 1, 3, 2, 2⟩
def tEven : Tax := ⟨3, 4, 0, 1, 3, 2, 3⟩
def tDown : Tax := ⟨3, 4, 0, 1, 3, 2, 1⟩
def tFar : Tax := ⟨9, 5, 0, 7, 100, 0, 1⟩
def tZero : Tax := ⟨0, 0, 0, 0, 0, 0, 0⟩
theorem oc1 (w : World) : Calls Try.prog 18 #[tNight.v, exBill.v] w fun e w' => e = .returned (.tuple #[.int .i64 1200, .int .i64 0]) ∧ Below w.heap.size w w' := by
  have h : one tNight exBill = (1200, 0) := by decide +kernel
  have := one_any tNight exBill w
  rw [h] at this
  exact this
theorem oc2 (w : World) : Calls Try.prog 18 #[tPart.v, exBill.v] w fun e w' => e = .returned (.tuple #[.int .i64 2100, .int .i64 0]) ∧ Below w.heap.size w w' := by
  have h : one tPart exBill = (2100, 0) := by decide +kernel
  have := one_any tPart exBill w
  rw [h] at this
  exact this
theorem oc3 (w : World) : Calls Try.prog 18 #[tThird.v, exBill.v] w fun e w' => e = .returned (.tuple #[.int .i64 6667, .int .i64 0]) ∧ Below w.heap.size w w' := by
  have h : one tThird exBill = (6667, 0) := by decide +kernel
  have := one_any tThird exBill w
  rw [h] at this
  exact this
theorem oc4 (w : World) : Calls Try.prog 18 #[tEven.v, exBill.v] w fun e w' => e = .returned (.tuple #[.int .i64 6667, .int .i64 0]) ∧ Below w.heap.size w w' := by
  have h : one tEven exBill = (6667, 0) := by decide +kernel
  have := one_any tEven exBill w
  rw [h] at this
  exact this
theorem oc5 (w : World) : Calls Try.prog 18 #[tDown.v, exBill.v] w fun e w' => e = .returned (.tuple #[.int .i64 6666, .int .i64 0]) ∧ Below w.heap.size w w' := by
  have h : one tDown exBill = (6666, 0) := by decide +kernel
  have := one_any tDown exBill w
  rw [h] at this
  exact this
theorem oc6 (w : World) : Calls Try.prog 18 #[tZero.v, exBill.v] w fun e w' => e = .returned (.tuple #[.int .i64 0, .int .i64 1]) ∧ Below w.heap.size w w' := by
  have h : one tZero exBill = (0, 1) := by decide +kernel
  have := one_any tZero exBill w
  rw [h] at this
  exact this

def headCells : Array Value := #[.int .i64 1, .int .i64 4, .int .i64 200, .int .i64 0, .int .i64 1, .int .i64 0, .int .i64 1, .int .i64 9, .int .i64 5, .int .i64 0, .int .i64 7, .int .i64 100, .int .i64 0, .int .i64 1, .int .i64 2, .int .i64 4, .int .i64 0, .int .i64 7, .int .i64 100, .int .i64 0, .int .i64 1]
theorem headSl (W : World) : SlTax (W.alloc (.cells headCells 35)) (some ⟨W.heap.size, 0, none⟩) [tNight, tFar, tPart] :=
  sl_of_box (cs := headCells) (fun _ => rfl) (fun o => World.cell?_alloc_new W headCells 35 o) (by simp) rfl
theorem headSl2 {W wx : World} (h : Below (W.alloc (.cells headCells 35)).heap.size (W.alloc (.cells headCells 35)) wx) : SlTax wx (some ⟨W.heap.size, 0, none⟩) [tNight, tFar, tPart] :=
  ((headSl W).below h).more h.size
theorem headSl3 {W wx : World} (h : Below (W.alloc (.cells headCells 35)).heap.size (W.alloc (.cells headCells 35)).drew wx) : SlTax wx (some ⟨W.heap.size, 0, none⟩) [tNight, tFar, tPart] :=
  headSl2 ⟨h.os, h.tape, h.output, h.size, h.block⟩
theorem headAll (A : Option Addr) (c : Nat) (w : World) (h : SlTax w A [tNight, tFar, tPart]) :
    Calls Try.prog 20 #[.slice A 3 c, exBill.v] w fun e w' => ∃ A' c', e = .returned (.tuple #[.slice A' 3 c', .int .i64 3300, .int .i64 0]) ∧ SlInt w' A' [1200, 0, 2100] ∧ Below w.heap.size w w' := by
  have h1 : allT [tNight, tFar, tPart] exBill = ([1200, 0, 2100], 3300, 0) := by decide +kernel
  refine (tall_any [tNight, tFar, tPart] exBill A c w h (by decide)).mono ?_
  rintro e w' ⟨⟨A', c', he, hs⟩, hb⟩
  rw [h1] at he hs
  exact ⟨A', c', he, hs, hb⟩

theorem head29_any (w : World) : Calls Try.prog 15 #[] w fun e w' => e = .returned (.bool true) ∧ Below w.heap.size w w' := by
  go_enter Try.func15, Try.ntmps15
  go_wp2_with fail
  go_cut [4, 5, 6] (fun p4 p5 p6 W => ∃ b4 b5 b6, p4 = .pointer (some ⟨b4, 0, none⟩) ∧ p5 = .pointer (some ⟨b5, 0, none⟩) ∧ p6 = .pointer (some ⟨b6, 0, none⟩) ∧ HeadAt w b4 b5 b6 W)
  case first =>
    rename_i J K2 hJ hK
    go_region
    all_goals (refine hK _ _ ?_; go_meet; refine ⟨_, _, _, rfl, rfl, rfl, headAt_drew ?_⟩)
    all_goals (refine ⟨?_, ?_, ?_, ?_, ?_, ?_, ?_, ?_, ?_, ?_, ?_, ?_, ?_, ?_, ?_, ?_, ?_⟩ <;>
      first
      | omega
      | ((repeat' (first
          | (with_reducible exact Below.refl _ _)
          | (with_reducible refine Below.alloc ?_ ?_ _)
          | omega
          | (simp; done)
          | (simp; omega))); done)
      | (simp; omega)
      | ((repeat (first | (refine box_at _ _ ?_; simp; done) | refine box_old ?_ (by simp only [World.size_alloc]; omega) _)); done)
      | ((repeat (first | (refine fr_at _ _ ?_; simp; done) | refine fr_old ?_ (by simp only [World.size_alloc]; omega) _)); done))
  case rest =>
    obtain ⟨b4, b5, b6, rfl, rfl, rfl, hH⟩ := hcut
    obtain ⟨hbl, hsz, hl4, hl5, hl6, n45, n46, n56, c1, c2, c3, c4, c5, c6, f4, f5, f6⟩ := hH
    go_wp2_with fail
    refine name_world (fun w1 hw1 => ?_)
    have hb1 : Below w.heap.size w w1 := by
      rw [hw1]
      exact (((hbl.setCell (p := ⟨b4, 6, none⟩) (by simp only; omega) _).setCell (p := ⟨b5, 6, none⟩) (by simp only; omega) _).setCell (p := ⟨b6, 1, none⟩) (by simp only; omega) _).setCell (p := ⟨b6, 0, none⟩) (by simp only; omega) _
    have hz1 : w.heap.size + 6 ≤ w1.heap.size := by rw [hw1]; simpa using hsz
    have e1 := box_far (box_far (box_far (box_far c1 (p := ⟨b4, 6, none⟩) (by simp only; omega) (.int .i64 3)) (p := ⟨b5, 6, none⟩) (by simp only; omega) (.int .i64 1)) (p := ⟨b6, 1, none⟩) (by simp only; omega) (.int .i64 5)) (p := ⟨b6, 0, none⟩) (by simp only; omega) (.int .i64 9)
    have e2 := box_far (box_far (box_far (box_far c2 (p := ⟨b4, 6, none⟩) (by simp only; omega) (.int .i64 3)) (p := ⟨b5, 6, none⟩) (by simp only; omega) (.int .i64 1)) (p := ⟨b6, 1, none⟩) (by simp only; omega) (.int .i64 5)) (p := ⟨b6, 0, none⟩) (by simp only; omega) (.int .i64 9)
    have e3 := box_far (box_far (box_far (box_far c3 (p := ⟨b4, 6, none⟩) (by simp only; omega) (.int .i64 3)) (p := ⟨b5, 6, none⟩) (by simp only; omega) (.int .i64 1)) (p := ⟨b6, 1, none⟩) (by simp only; omega) (.int .i64 5)) (p := ⟨b6, 0, none⟩) (by simp only; omega) (.int .i64 9)
    have e4 := box_far (box_far (box_far (box_set c4 (i := 6) (by decide) (.int .i64 3)) (p := ⟨b5, 6, none⟩) (by simp only; omega) (.int .i64 1)) (p := ⟨b6, 1, none⟩) (by simp only; omega) (.int .i64 5)) (p := ⟨b6, 0, none⟩) (by simp only; omega) (.int .i64 9)
    have e5 := box_far (box_far (box_set (box_far c5 (p := ⟨b4, 6, none⟩) (by simp only; omega) (.int .i64 3)) (i := 6) (by decide) (.int .i64 1)) (p := ⟨b6, 1, none⟩) (by simp only; omega) (.int .i64 5)) (p := ⟨b6, 0, none⟩) (by simp only; omega) (.int .i64 9)
    have e6 := box_set (box_set (box_far (box_far c6 (p := ⟨b4, 6, none⟩) (by simp only; omega) (.int .i64 3)) (p := ⟨b5, 6, none⟩) (by simp only; omega) (.int .i64 1)) (i := 1) (by decide) (.int .i64 5)) (i := 0) (by decide) (.int .i64 9)
    rw [← hw1] at e1 e2 e3 e4 e5 e6
    have HW1 := Lib.hid hw1
    clear hw1 c1 c2 c3 c4 c5 c6 f4 f5 f6
    have l1 : w.heap.size < w.heap.size + 6 := by omega
    have l2 : w.heap.size + 1 < w.heap.size + 6 := by omega
    have l3 : w.heap.size + 1 + 1 < w.heap.size + 6 := by omega
    have l4 := hl4.2
    have l5 := hl5.2
    have l6 := hl6.2
    have hgr := regrown_cells w1 (B := w.heap.size + 6) (by omega)
    refine wp_region_quiet_below (by kernel_rfl) (by kernel_rfl) ?_
    repeat (quiet_step ((first | (go_at_call 38; exact quiet_b (ex_any _)) | (go_at_call 18; exact quiet_b (oc1 _)))))
    refine wpQuiet_nil ?_
    intro _ hw'
    obtain ⟨⟨dq, osq⟩, hw''⟩ := hw'
    subst hw''
    have hba := below_regrown w1 dq osq
    clear hgr
    generalize grow (redrawn w1 dq) osq = wa at hba ⊢
    have hza := hba.size
    (try simp only [World.size_alloc, World.size_setCell, World.size_drew, size_drewN', size_grow, size_redrawn] at hza)
    obtain ⟨hca, hfa⟩ := bcellB (B := w.heap.size + 6) hba (by first | omega | (simp only [World.size_alloc, World.size_setCell, World.size_drew, size_drewN', size_grow, size_redrawn]; omega))
    go_wp2_with fail
    have hgr := regrown_cells wa (B := w.heap.size + 6) (by omega)
    refine wp_region_quiet_below (by kernel_rfl) (by kernel_rfl) ?_
    repeat (quiet_step ((first | (go_at_call 38; exact quiet_b (ex_any _)) | (go_at_call 18; exact quiet_b (oc2 _)))))
    refine wpQuiet_nil ?_
    intro _ hw'
    obtain ⟨⟨dq, osq⟩, hw''⟩ := hw'
    subst hw''
    have hbb := below_regrown wa dq osq
    clear hgr
    generalize grow (redrawn wa dq) osq = wb at hbb ⊢
    have hzb := hbb.size
    (try simp only [World.size_alloc, World.size_setCell, World.size_drew, size_drewN', size_grow, size_redrawn] at hzb)
    obtain ⟨hcb, hfb⟩ := bcellB (B := w.heap.size + 6) hbb (by first | omega | (simp only [World.size_alloc, World.size_setCell, World.size_drew, size_drewN', size_grow, size_redrawn]; omega))
    go_wp2_with fail
    have hgr := regrown_cells wb (B := w.heap.size + 6) (by omega)
    refine wp_region_quiet_below (by kernel_rfl) (by kernel_rfl) ?_
    repeat (quiet_step ((first | (go_at_call 38; exact quiet_b (ex_any _)) | (go_at_call 18; exact quiet_b (oc3 _)))))
    refine wpQuiet_nil ?_
    intro _ hw'
    obtain ⟨⟨dq, osq⟩, hw''⟩ := hw'
    subst hw''
    have hbc := below_regrown wb dq osq
    clear hgr
    generalize grow (redrawn wb dq) osq = wc at hbc ⊢
    have hzc := hbc.size
    (try simp only [World.size_alloc, World.size_setCell, World.size_drew, size_drewN', size_grow, size_redrawn] at hzc)
    obtain ⟨hcc, hfc⟩ := bcellB (B := w.heap.size + 6) hbc (by first | omega | (simp only [World.size_alloc, World.size_setCell, World.size_drew, size_drewN', size_grow, size_redrawn]; omega))
    go_wp2_with fail
    have hgr := regrown_cells wc (B := w.heap.size + 6) (by omega)
    refine wp_region_quiet_below (by kernel_rfl) (by kernel_rfl) ?_
    repeat (quiet_step ((first | (go_at_call 38; exact quiet_b (ex_any _)) | (go_at_call 18; exact quiet_b (oc4 _)))))
    refine wpQuiet_nil ?_
    intro _ hw'
    obtain ⟨⟨dq, osq⟩, hw''⟩ := hw'
    subst hw''
    have hbd := below_regrown wc dq osq
    clear hgr
    generalize grow (redrawn wc dq) osq = wd at hbd ⊢
    have hzd := hbd.size
    (try simp only [World.size_alloc, World.size_setCell, World.size_drew, size_drewN', size_grow, size_redrawn] at hzd)
    obtain ⟨hcd, hfd⟩ := bcellB (B := w.heap.size + 6) hbd (by first | omega | (simp only [World.size_alloc, World.size_setCell, World.size_drew, size_drewN', size_grow, size_redrawn]; omega))
    go_wp2_with fail
    have hgr := regrown_cells wd (B := w.heap.size + 6) (by omega)
    refine wp_region_quiet_below (by kernel_rfl) (by kernel_rfl) ?_
    repeat (quiet_step ((first | (go_at_call 38; exact quiet_b (ex_any _)) | (go_at_call 18; exact quiet_b (oc5 _)))))
    refine wpQuiet_nil ?_
    intro _ hw'
    obtain ⟨⟨dq, osq⟩, hw''⟩ := hw'
    subst hw''
    have hbe := below_regrown wd dq osq
    clear hgr
    generalize grow (redrawn wd dq) osq = we at hbe ⊢
    have hze := hbe.size
    (try simp only [World.size_alloc, World.size_setCell, World.size_drew, size_drewN', size_grow, size_redrawn] at hze)
    obtain ⟨hce, hfe⟩ := bcellB (B := w.heap.size + 6) hbe (by first | omega | (simp only [World.size_alloc, World.size_setCell, World.size_drew, size_drewN', size_grow, size_redrawn]; omega))
    go_wp2_with fail
    have hbe' : Below w1.heap.size w1 we := below_up (below_up (below_up (below_up hba (by omega) hbb) (by omega) hbc) (by omega) hbd) (by omega) hbe
    have m1 := box_below hbe' (by omega) e1
    have m2 := box_below hbe' (by omega) e2
    have m6 := box_below hbe' (by omega) e6
    have hbwe : Below w.heap.size w we := below_up hb1 (by omega) hbe'
    have hze' : w.heap.size + 6 ≤ we.heap.size := by omega
    clear e1 e2 e3 e4 e5 e6 hba hbb hbc hbd hbe hca hcb hcc hcd hce hfa hfb hfc hfd hfe hbe' hza hzb hzc hzd hze
    have keepS : ∀ W, Below we.heap.size we W → (∀ o, W.cell? ⟨w.heap.size, o, none⟩ = (#[Value.int .i64 1, .int .i64 4, .int .i64 200, .int .i64 0, .int .i64 1, .int .i64 0, .int .i64 1] : Array Value)[o]?) ∧ (∀ o, W.cell? ⟨w.heap.size + 1, o, none⟩ = (#[Value.int .i64 2, .int .i64 4, .int .i64 0, .int .i64 7, .int .i64 100, .int .i64 0, .int .i64 1] : Array Value)[o]?) ∧
        (∀ o, W.cell? ⟨b6, o, none⟩ = (#[Value.int .i64 9, .int .i64 5, .int .i64 0, .int .i64 7, .int .i64 100, .int .i64 0, .int .i64 1] : Array Value)[o]?) ∧ Below we.heap.size we W :=
      fun W h => ⟨box_below h (by omega) m1, box_below h (by omega) m2, box_below h (by omega) m6, h⟩
    have KS := Lib.hid keepS
    clear keepS
    go_cut [17, 18, 19] (fun a b c W => ∃ A' c', a = .slice A' 3 c' ∧ b = .int .i64 3300 ∧ c = .int .i64 0 ∧ SlInt W A' [1200, 0, 2100] ∧ Below w.heap.size w W)
    case first =>
      go_region_held3 (fun W => (∀ o, W.cell? ⟨w.heap.size, o, none⟩ = (#[Value.int .i64 1, .int .i64 4, .int .i64 200, .int .i64 0, .int .i64 1, .int .i64 0, .int .i64 1] : Array Value)[o]?) ∧ (∀ o, W.cell? ⟨w.heap.size + 1, o, none⟩ = (#[Value.int .i64 2, .int .i64 4, .int .i64 0, .int .i64 7, .int .i64 100, .int .i64 0, .int .i64 1] : Array Value)[o]?) ∧
        (∀ o, W.cell? ⟨b6, o, none⟩ = (#[Value.int .i64 9, .int .i64 5, .int .i64 0, .int .i64 7, .int .i64 100, .int .i64 0, .int .i64 1] : Array Value)[o]?) ∧ Below we.heap.size we W)
        ((go_split_ands; refine KS.out _ ?_; repeat' (first
            | (with_reducible exact Below.refl _ _)
            | (with_reducible assumption)
            | (with_reducible refine Below.drew ?_)
            | (with_reducible refine Below.alloc ?_ ?_ _)
            | (with_reducible refine below_up ?_ ?_ (by assumption))
            | omega
            | (simp; done)
            | (simp; omega))))
        (first
          | (go_at_call 38; refine (ex_any _).mono ?_; rintro e wx ⟨rfl, hbx⟩; have hzx := hbx.size; try simp only [World.size_alloc, World.size_drew] at hzx)
          | (go_at_call 20; refine (headAll _ _ _ (by first | exact headSl _ | exact headSl2 hbx | exact headSl3 hbx)).mono ?_; rintro e wy ⟨A', c', rfl, hsl, hby⟩; have hzy := hby.size; try simp only [World.size_alloc, World.size_drew] at hzy))
      all_goals go_wp2_with fail
      all_goals (try change Met _ _ _)
      all_goals go_meet
      all_goals refine ⟨_, _, rfl, rfl, rfl, hsl, ?_⟩
      repeat' (first
        | (with_reducible exact Below.refl _ _)
        | (with_reducible assumption)
        | (with_reducible refine below_drewN ?_ _)
        | (with_reducible refine Below.drew ?_)
        | (with_reducible refine below_regrown_up _ _ ?_ ?_)
        | (with_reducible refine Below.alloc ?_ ?_ _)
        | (with_reducible refine Below.setCell ?_ ?_ _)
        | (with_reducible refine below_up ?_ ?_ (by assumption))
        | (with_reducible exact Nat.le_refl _)
        | omega
        | (simp; done)
        | (simp; omega))
    case rest =>
      obtain ⟨A', c', rfl, rfl, rfl, hsl, hbc⟩ := hcut
      have hcz := hbc.size
      go_wp2_with (first
        | (go_at_call 38; refine (ex_any _).mono ?_; rintro e wx ⟨rfl, hbx⟩; have hzx := hbx.size; try simp only [World.size_alloc, World.size_drew] at hzx)
        | (go_at_call 18; refine (oc6 _).mono ?_; rintro e wy ⟨rfl, hby⟩; have hzy := hby.size; try simp only [World.size_alloc, World.size_drew] at hzy)
        | (go_at_call 22; refine (same_ints_any [1200, 0, 2100] [1200, 0, 2100] _ _ _ _ _ ?_ ?_ (by decide) (by decide)).mono ?_))
      · have hb : Below wc.heap.size wc (wy.alloc (.cells #[.int .i64 1200, .int .i64 0, .int .i64 2100] 3)) := by
          repeat' (first
            | (with_reducible exact Below.refl _ _)
            | (with_reducible assumption)
            | (with_reducible refine below_drewN ?_ _)
            | (with_reducible refine Below.drew ?_)
            | (with_reducible refine below_regrown_up _ _ ?_ ?_)
            | (with_reducible refine Below.alloc ?_ ?_ _)
            | (with_reducible refine Below.setCell ?_ ?_ _)
            | (with_reducible refine below_up ?_ ?_ (by assumption))
            | (with_reducible exact Nat.le_refl _)
            | omega
            | (simp; done)
            | (simp; omega))
        exact (hsl.below hb).more hb.size
      · exact sl_of_box (cs := #[.int .i64 1200, .int .i64 0, .int .i64 2100]) (fun _ => rfl) (fun o => World.cell?_alloc_new wy _ _ o) (by simp) rfl
      · rintro e wz rfl hbz
        have hzz := hbz.size
        simp only [World.size_alloc] at hzz
        go_wp2_with fail
        refine bodyPost_ret (v := .bool true) (by simp [results, Try.results15, go_sem]) rfl ⟨rfl, ?_⟩
        have hbz' : Below (wy.alloc (.cells #[.int .i64 1200, .int .i64 0, .int .i64 2100] 3)).heap.size (wy.alloc (.cells #[.int .i64 1200, .int .i64 0, .int .i64 2100] 3)) wz := by simpa only [World.size_alloc] using hbz
        clear hbz
        repeat' (first
          | (with_reducible exact Below.refl _ _)
          | (with_reducible assumption)
          | (with_reducible refine below_drewN ?_ _)
          | (with_reducible refine Below.drew ?_)
          | (with_reducible refine below_regrown_up _ _ ?_ ?_)
          | (with_reducible refine Below.alloc ?_ ?_ _)
          | (with_reducible refine Below.setCell ?_ ?_ _)
          | (with_reducible refine below_up ?_ ?_ (by assumption))
          | (with_reducible exact Nat.le_refl _)
          | omega
          | (simp; done)
          | (simp; omega))
end Go.Proofs.Ytdbdjhgcmcbiaaa
