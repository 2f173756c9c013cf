/-
  Texts, one behind the other: FoW3, FoW4, FoW5.
-/
import Derived.Test.YtmlhoojcdidgkaaGreatM16
import Derived.Deep.DeepCutAuto
/-
  Package folio: what a bill comes to; the deeds that only move.
-/
namespace Go.Proofs.YtmlhoojcdidgkaaGreat
set_option linter.unusedSimpArgs false
set_option linter.unusedVariables false
open Go.RowKit
open Go.Sort (grow size_grow)

set_option maxHeartbeats 4000000
set_option maxRecDepth 100000
theorem tall_lit {l : List Tax} {b : Bill} {r : List Int} {n er : Int} (h : allT l b = (r, n, er)) (A : Option Addr) (c : Nat) (w : World) (hs : SlTax w A l) (hl : l.length ≤ 1000000000000) :
    Calls Tryz.prog 12 #[.slice A l.length c, b.v] w fun e w' => (∃ A' c', e = .returned (.tuple #[.slice A' r.length c', .int .i64 n, .int .i64 er])) ∧ Below w.heap.size w w' := by
  have := tall_any l b A c w hs hl
  rw [h] at this
  refine this.mono fun e w' ⟨h, hb⟩ => ⟨?_, hb⟩
  unfold Ret3 at h
  obtain ⟨A', c', rfl, _⟩ := h
  exact ⟨A', c', rfl⟩
def comesT (o : Option (Int × Int)) : Int × Int × Int := match o with | some (n, c) => (n, c, 0) | none => (0, 0, 3)
def RetC (o : Int × Int × Int) : Ending := .returned (.tuple #[.int .i64 o.1, .int .i64 o.2.1, .int .i64 o.2.2])
theorem allT_nn (l : List Tax) (b : Bill) : 0 ≤ (allT l b).2.1 ∧ (allT l b).2.1 ≤ 1000000000 := by
  unfold allT
  split
  · simp
  · split
    · simp
    · split
      · simp
      · exact ⟨ones_nn l b, by simp only; omega⟩
theorem comes_any (gc gm base : Nat) (V : Env) (At : Option Addr) (ct : Nat) (es : List Entry) (day : Int) (ev : Value) (g : Nat) (a : Acc) (L : Nat) (w : World) (h : Bk w gc gm base V At ct es day ev) (hA : AccIn w g a)
    (hts : Sl w L 7 Tax.cs At V.ts) (hL : L ≤ w.heap.size) (htl : V.ts.length ≤ 1000000000000) (hb : a.b.ok = true) :
    Calls Tryz.prog 125 #[.pointer (some ⟨gc, 0, none⟩), .pointer (some ⟨g, 0, none⟩)] w fun e w' => e = RetC (comesT (comesR V.ts a.b)) ∧ Below w.heap.size w w' := by
  have lgc : gc < w.heap.size := Nat.lt_of_lt_of_le h.lt h.le
  have lg := hA.lt
  have q3 : w.cell? ⟨gc, 3, none⟩ = some (.slice At V.ts.length ct) := h.cell 3
  have a0 : w.cell? ⟨g, 0, none⟩ = some (.int .i64 a.b.stay) := hA.cell 0
  have a1 : w.cell? ⟨g, 1, none⟩ = some (.int .i64 a.b.channel) := hA.cell 1
  have a2 : w.cell? ⟨g, 2, none⟩ = some (.int .i64 a.b.place) := hA.cell 2
  have a3 : w.cell? ⟨g, 3, none⟩ = some (.int .i64 a.b.kind) := hA.cell 3
  have a4 : w.cell? ⟨g, 4, none⟩ = some (.int .i64 a.b.frm) := hA.cell 4
  have a5 : w.cell? ⟨g, 5, none⟩ = some (.int .i64 a.b.til) := hA.cell 5
  have a6 : w.cell? ⟨g, 6, none⟩ = some (.int .i64 a.b.persons) := hA.cell 6
  have a7 : w.cell? ⟨g, 7, none⟩ = some (.int .i64 a.b.price) := hA.cell 7
  have a8 : w.cell? ⟨g, 8, none⟩ = some (.int .i64 a.b.keep) := hA.cell 8
  have hp := (Bill.ok_iff.1 hb).2.2.2.2.2.2.1
  have hnn := allT_nn V.ts a.b
  obtain ⟨r, n, er, hr⟩ : ∃ r n er, allT V.ts a.b = (r, n, er) := ⟨_, _, _, rfl⟩
  have hcr : comesR V.ts a.b = if er = 0 then some (n, min (a.b.price + n) 1000000000) else none := by unfold comesR; rw [hr]
  rw [hr] at hnn
  simp only at hnn
  have hw1 : IntKind.i64.wrap (a.b.price + n) = a.b.price + n := IntWalk.i64_in _ (by omega)
  have HC := Lib.hid hcr
  have HT := Lib.hid (fun W h => tall_lit hr At ct W h htl)
  have HTS := Lib.hid (fun (W : World) (hb : Below w.heap.size w W) => ((hts.more hL).up hb : SlTax W At V.ts))
  clear hcr hr hts h
  by_cases he : er = 0
  · subst he
    rw [HC.out, if_pos rfl]
    by_cases hm : a.b.price + n ≤ 1000000000
    all_goals
      go_enter Tryz.func125, Tryz.ntmps125
      go_wp2_with fail
      go_region_law (go_simp; go_at_call 12; go_loud (refine (HT.out _ (HTS.out _ (by repeat' (first | (with_reducible exact Below.refl _ _) | (with_reducible assumption) | (with_reducible refine below_drewN ?_ _) | (with_reducible refine Below.drew ?_) | (with_reducible refine below_regrown_up _ _ ?_ ?_) | (with_reducible refine Below.alloc ?_ ?_ _) | (with_reducible refine Below.setCell ?_ ?_ _) | (with_reducible refine below_up ?_ ?_ (by assumption)) | (with_reducible exact Nat.le_refl _) | omega | (simp; done) | (simp; omega))))).mono ?_); rintro e w1 ⟨⟨A1, c1, rfl⟩, hb1⟩; have hc1 : w1.cell? ⟨g, 7, none⟩ = some (.int .i64 a.b.price) := (hb1.cell (p := ⟨g, 7, none⟩) lg).trans a7; have lg1 : g < w1.heap.size := Nat.lt_of_lt_of_le lg hb1.size)
      all_goals
        go_wp2_with fail
        go_quiet (fail)
        go_wp2_with fail
        go_ret3
        refine ⟨?_, ?_⟩
        · first
            | (rw [show min (a.b.price + n) 1000000000 = a.b.price + n by omega]; rfl)
            | (rw [show min (a.b.price + n) 1000000000 = 1000000000 by omega]; rfl)
        · repeat' (first
            | (with_reducible exact Below.refl _ _)
            | (with_reducible assumption)
            | (with_reducible refine below_drewN ?_ _)
            | (with_reducible refine Below.drew ?_)
            | (with_reducible refine below_regrown_up _ _ ?_ ?_)
            | (with_reducible refine Below.alloc ?_ ?_ _)
            | (with_reducible refine Below.setCell ?_ ?_ _)
            | (with_reducible refine below_up ?_ ?_ (by assumption))
            | (with_reducible exact Nat.le_refl _)
            | omega
            | (simp; done)
            | (simp; omega))
  · have hne : (er != 0) = true := by rw [bne_iff_ne]; exact he
    rw [HC.out, if_neg he]
    clear he
    go_enter Tryz.func125, Tryz.ntmps125
    go_wp2_with fail
    go_region_law (go_simp; go_at_call 12; go_loud (refine (HT.out _ (HTS.out _ (by repeat' (first | (with_reducible exact Below.refl _ _) | (with_reducible assumption) | (with_reducible refine below_drewN ?_ _) | (with_reducible refine Below.drew ?_) | (with_reducible refine below_regrown_up _ _ ?_ ?_) | (with_reducible refine Below.alloc ?_ ?_ _) | (with_reducible refine Below.setCell ?_ ?_ _) | (with_reducible refine below_up ?_ ?_ (by assumption)) | (with_reducible exact Nat.le_refl _) | omega | (simp; done) | (simp; omega))))).mono ?_); rintro e w1 ⟨⟨A1, c1, rfl⟩, hb1⟩)
    all_goals
      go_wp2_with fail
      go_ret3
      refine ⟨rfl, ?_⟩
      repeat' (first
        | (with_reducible exact Below.refl _ _)
        | (with_reducible assumption)
        | (with_reducible refine below_drewN ?_ _)
        | (with_reducible refine Below.drew ?_)
        | (with_reducible refine below_regrown_up _ _ ?_ ?_)
        | (with_reducible refine Below.alloc ?_ ?_ _)
        | (with_reducible refine Below.setCell ?_ ?_ _)
        | (with_reducible refine below_up ?_ ?_ (by assumption))
        | (with_reducible exact Nat.le_refl _)
        | omega
        | (simp; done)
        | (simp; omega))
end Go.Proofs.YtmlhoojcdidgkaaGreat

/-
  Package folio: deeds.
-/
namespace Go.Proofs.YtmlhoojcdidgkaaGreat
set_option linter.unusedSimpArgs false
set_option linter.unusedVariables false
open Go.RowKit
open Go.Sort (grow size_grow)

set_option maxHeartbeats 4000000
set_option maxRecDepth 100000
/-- A deed about an account is done. -/
structure Done (gc gm base : Nat) (V : Env) (At : Option Addr) (ct : Nat) (day : Int) (ev : Value) (g : Nat) (r : Except Int (List Entry × Acc)) (es : List Entry) (a : Acc) (w : World) (e : Ending) (w' : World) : Prop where
  ret : e = .returned (.int .i64 (erOf r))
  bk : ∃ ev', Bk w' gc gm base V At ct (resOf r (es, a)).1 day ev' ∧ Turn [gc, g] base ev ev' w w'
  acc : AccIn w' g (resOf r (es, a)).2
theorem broke_any (gc gm base : Nat) (V : Env) (At : Option Addr) (ct : Nat) (c : Crs) (ev : Value) (x : Deed) (w : World) (h : Bk w gc gm base V At ct c.es c.day ev) (hl : c.es.length ≤ 3000) (hc : CentsOk c.es) (c0 : 1 ≤ x.stay) (c1 : x.stay ≤ 29) :
    Calls Tryz.prog 81 #[.pointer (some ⟨gc, 0, none⟩), .int .i64 x.stay] w fun e w' => e = .returned (.int .i64 (erOf (brokeD c x))) ∧ ∃ ev', Bk w' gc gm base V At ct (resOf (brokeD c x) c).es c.day ev' ∧ Turn [gc] base ev ev' w w' := by
  have lgc : gc < w.heap.size := Nat.lt_of_lt_of_le h.lt h.le
  have q0 : w.cell? ⟨gc, 0, none⟩ = some ev := h.cell 0
  have hw1 : IntKind.i64.wrap (200 + x.stay) = 200 + x.stay := IntWalk.i64_in _ (by omega)
  have hw2 : IntKind.i64.wrap (800 + x.stay) = 800 + x.stay := IntWalk.i64_in _ (by omega)
  obtain ⟨A, cc, rfl, _, _, hsl⟩ := h.own.sl ent_len
  have HB := Lib.hid h
  have hbr : brokeD c x = if 1000000000 < sumE (200 + x.stay) anyE c.es then .error 3 else .ok { c with es := mvE c.day (200 + x.stay) (800 + x.stay) (sumE (200 + x.stay) anyE c.es) 0 c.es } := rfl
  have HS := Lib.hid (fun W h => sum_all0 c.es A cc (200 + x.stay) () W h (by omega) hc (fun e W _ => all_any e W))
  clear h hc
  generalize sumE (200 + x.stay) anyE c.es = z at *
  by_cases hz : 1000000000 < z
  · rw [if_pos hz] at hbr
    rw [hbr]
    clear hbr
    go_enter Tryz.func81, Tryz.ntmps81
    go_wp2_with fail
    refine (HS.out _ hsl).mono ?_
    rintro e w1 ⟨rfl, hb1⟩
    go_wp2_with fail
    go_ret
    exact ⟨rfl, _, HB.out.up hb1, (Turn.refl _ _ _).up hb1 HB.out.le⟩
  · rw [if_neg hz] at hbr
    rw [hbr]
    clear hbr
    go_enter Tryz.func81, Tryz.ntmps81
    go_wp2_with fail
    refine (HS.out _ hsl).mono ?_
    rintro e w1 ⟨rfl, hb1⟩
    have hB1 := HB.out.up hb1
    go_wp2_with fail
    refine (move_any gc gm base V At ct c.es c.day _ (200 + x.stay) (800 + x.stay) z 0 w1 hB1 (by omega)).mono ?_
    rintro e w2 ⟨rfl, ⟨ev2, hE2, hT2⟩, _⟩
    go_wp2_with fail
    go_ret
    exact ⟨rfl, ev2, hE2, ((Turn.refl _ _ _).up hb1 HB.out.le).trans hT2⟩
theorem become_any (gc gm base : Nat) (V : Env) (At : Option Addr) (ct : Nat) (es : List Entry) (day : Int) (ev : Value) (g : Nat) (a : Acc) (x : Deed) (st : Int) (gs : Nat) (w : World) (h : Bk w gc gm base V At ct es day ev) (hA : AccIn w g a) (hg : g < base) (hne : g ≠ gc)
    (hs : w.cell? ⟨gs, 0, none⟩ = some (.int .i64 st)) (hgs : gs < w.heap.size) :
    Calls Tryz.prog 122 #[.pointer (some ⟨g, 0, none⟩), x.v, .pointer (some ⟨gs, 0, none⟩)] w (Done gc gm base V At ct day ev g (.ok (es, { a with st := st })) es a w) := by
  have lg := hA.lt
  have a9 : w.cell? ⟨g, 9, none⟩ = some (.int .i64 a.st) := hA.cell 9
  have f9 := hA.free 9
  have HB := Lib.hid h
  have HA := Lib.hid hA
  clear h hA
  go_enter Tryz.func122, Tryz.ntmps122
  go_wp2_with fail
  go_ret
  refine ⟨rfl, ⟨ev, (HB.out.set hg hne 9 _).up (by repeat' (first | (with_reducible exact Below.refl _ _) | (with_reducible assumption) | (with_reducible refine below_drewN ?_ _) | (with_reducible refine Below.drew ?_) | (with_reducible refine below_regrown_up _ _ ?_ ?_) | (with_reducible refine Below.alloc ?_ ?_ _) | (with_reducible refine Below.setCell ?_ ?_ _) | (with_reducible refine below_up ?_ ?_ (by assumption)) | (with_reducible exact Nat.le_refl _) | omega | (simp; done) | (simp; omega))), (((Turn.refl _ _ _).set (g := g) (by simp) _).up (by repeat' (first | (with_reducible exact Below.refl _ _) | (with_reducible assumption) | (with_reducible refine below_drewN ?_ _) | (with_reducible refine Below.drew ?_) | (with_reducible refine below_regrown_up _ _ ?_ ?_) | (with_reducible refine Below.alloc ?_ ?_ _) | (with_reducible refine Below.setCell ?_ ?_ _) | (with_reducible refine below_up ?_ ?_ (by assumption)) | (with_reducible exact Nat.le_refl _) | omega | (simp; done) | (simp; omega))) ?_)⟩, (HA.out.set (o := 9) (v := .int .i64 st) rfl).up (by repeat' (first | (with_reducible exact Below.refl _ _) | (with_reducible assumption) | (with_reducible refine below_drewN ?_ _) | (with_reducible refine Below.drew ?_) | (with_reducible refine below_regrown_up _ _ ?_ ?_) | (with_reducible refine Below.alloc ?_ ?_ _) | (with_reducible refine Below.setCell ?_ ?_ _) | (with_reducible refine below_up ?_ ?_ (by assumption)) | (with_reducible exact Nat.le_refl _) | omega | (simp; done) | (simp; omega)))⟩
  simp [World.setCell]
  exact HB.out.le
theorem still_w {P : Program} {f : FuncId} {args : Array Value} {w : World} {v : Value} (h : Calls P f args w fun e w' => e = .returned v ∧ w = w') : Calls P f args w fun e w' => e = .returned v ∧ w' = w := h.mono fun _ _ ⟨h1, h2⟩ => ⟨h1, h2.symm⟩
theorem back_any (gc gm base : Nat) (V : Env) (At : Option Addr) (ct : Nat) (es : List Entry) (ev : Value) (g : Nat) (a : Acc) (x : Deed) (n : Nat) (w : World) (h : Bk w gc gm base V At ct es x.day ev) (hA : AccIn w g a) (hg : g < base) (hne : g ≠ gc)
    (hl : es.length ≤ 3000) (hao : AccOk a n) (hn : n ≤ 500) (x0 : 1 ≤ x.cents) (x1 : x.cents ≤ 1000000000) :
    Calls Tryz.prog 114 #[.pointer (some ⟨gc, 0, none⟩), .pointer (some ⟨g, 0, none⟩), x.v] w (Done gc gm base V At ct x.day ev g (backD es a x) es a w) := by
  have lg := hA.lt
  have lgc : gc < w.heap.size := Nat.lt_of_lt_of_le h.lt h.le
  have a0 : w.cell? ⟨g, 0, none⟩ = some (.int .i64 a.b.stay) := hA.cell 0
  have a10 : w.cell? ⟨g, 10, none⟩ = some (.int .i64 a.paid) := hA.cell 10
  have f10 := hA.free 10
  have hs := (Bill.ok_iff.1 hao.b).2.2.2.1
  have hp := hao.paid
  have hp1 : a.paid ≤ 500000000000 := by omega
  have hw1 : IntKind.i64.wrap (a.paid - x.cents) = a.paid - x.cents := IntWalk.i64_in _ (by omega)
  have hown : some w.heap.size ≠ ev.ownBlock := fun e => by have := (h.own.lt _ e.symm).2; omega
  have HB := Lib.hid h
  have HA := Lib.hid hA
  have HOWN := Lib.hid hown
  clear h hA hown
  by_cases hm : a.paid < x.cents
  · have hr : backD es a x = .error 41 := by unfold backD; rw [if_pos hm]
    rw [hr]
    clear hr
    go_enter Tryz.func114, Tryz.ntmps114
    go_wp2_with fail
    go_quiet (fail)
    go_wp2_with fail
    go_ret
    exact ⟨rfl, ⟨_, HB.out.up (by repeat' (first | (with_reducible exact Below.refl _ _) | (with_reducible assumption) | (with_reducible refine below_drewN ?_ _) | (with_reducible refine Below.drew ?_) | (with_reducible refine below_regrown_up _ _ ?_ ?_) | (with_reducible refine Below.alloc ?_ ?_ _) | (with_reducible refine Below.setCell ?_ ?_ _) | (with_reducible refine below_up ?_ ?_ (by assumption)) | (with_reducible exact Nat.le_refl _) | omega | (simp; done) | (simp; omega))), (Turn.refl _ _ _).up (by repeat' (first | (with_reducible exact Below.refl _ _) | (with_reducible assumption) | (with_reducible refine below_drewN ?_ _) | (with_reducible refine Below.drew ?_) | (with_reducible refine below_regrown_up _ _ ?_ ?_) | (with_reducible refine Below.alloc ?_ ?_ _) | (with_reducible refine Below.setCell ?_ ?_ _) | (with_reducible refine below_up ?_ ?_ (by assumption)) | (with_reducible exact Nat.le_refl _) | omega | (simp; done) | (simp; omega))) HB.out.le⟩, HA.out.up (by repeat' (first | (with_reducible exact Below.refl _ _) | (with_reducible assumption) | (with_reducible refine below_drewN ?_ _) | (with_reducible refine Below.drew ?_) | (with_reducible refine below_regrown_up _ _ ?_ ?_) | (with_reducible refine Below.alloc ?_ ?_ _) | (with_reducible refine Below.setCell ?_ ?_ _) | (with_reducible refine below_up ?_ ?_ (by assumption)) | (with_reducible exact Nat.le_refl _) | omega | (simp; done) | (simp; omega)))⟩
  · have hr : backD es a x = .ok (mvE x.day 900 (guestA a.b.stay) x.cents a.b.stay es, { a with paid := a.paid - x.cents }) := by unfold backD; rw [if_neg hm]
    rw [hr]
    clear hr
    go_enter Tryz.func114, Tryz.ntmps114
    go_wp2_with fail
    go_quiet (fail)
    go_wp2_with fail
    refine wp_region_still_tail 16 (by kernel_rfl) (by kernel_rfl) ?_
    change wpStill _ _ (World.drew _) _ _ _
    simp only [List.take_succ_cons, List.take_zero, List.drop_succ_cons, List.drop_zero]
    repeat (first | still_step | (still_call (still_w (guest_any _ _ (by omega) (by omega)))))
    refine wpStill_nil ?_
    change wpList _ _ _ _ _ (World.drew _)
    go_wp2_with fail
    refine name_calls (fun w1 hw1 => ?_)
    have b1 : Below w.heap.size w w1 := by rw [hw1]; exact (by repeat' (first | (with_reducible exact Below.refl _ _) | (with_reducible assumption) | (with_reducible refine below_drewN ?_ _) | (with_reducible refine Below.drew ?_) | (with_reducible refine below_regrown_up _ _ ?_ ?_) | (with_reducible refine Below.alloc ?_ ?_ _) | (with_reducible refine Below.setCell ?_ ?_ _) | (with_reducible refine below_up ?_ ?_ (by assumption)) | (with_reducible exact Nat.le_refl _) | omega | (simp; done) | (simp; omega)))
    have z1 : w1.heap.size = w.heap.size + 1 := by rw [hw1]; simp
    have y3 : w1.cell? ⟨w.heap.size, 3, none⟩ = some (.int .i64 x.cents) := by rw [hw1]; go_simp
    clear hw1
    refine (move_any gc gm base V At ct es x.day ev 900 (guestA a.b.stay) x.cents a.b.stay w1 (HB.out.up b1) (by omega)).mono ?_
    rintro e w2 ⟨rfl, ⟨ev2, B2, T2⟩, P2⟩
    have A2 := T2.acc (HA.out.up b1) hg (by simpa using hne)
    have y3' : w2.cell? ⟨w.heap.size, 3, none⟩ = some (.int .i64 x.cents) := (P2.cell (by omega) (by omega) HOWN.out).trans y3
    have lx2 : w.heap.size < w2.heap.size := by have := T2.size; omega
    have c10 : w2.cell? ⟨g, 10, none⟩ = some (.int .i64 a.paid) := A2.cell 10
    have g10 := A2.free 10
    have lg2 := A2.lt
    have HT := Lib.hid T2
    have HP := Lib.hid P2
    have HB2 := Lib.hid B2
    have HA2 := Lib.hid A2
    clear y3 T2 P2 B2 A2 f10 a0 a10
    go_wp2_with fail
    refine wp_region_still_tail 9 (by kernel_rfl) (by kernel_rfl) ?_
    change wpStill _ _ (World.drew _) _ _ _
    simp only [List.take_succ_cons, List.take_zero, List.drop_succ_cons, List.drop_zero]
    repeat (first | still_step | (fail))
    refine wpStill_nil ?_
    change wpList _ _ _ _ _ (World.drew _)
    go_wp2_with fail
    go_ret
    refine ⟨rfl, ⟨ev2, (HB2.out.set hg hne 10 _).up (by repeat' (first | (with_reducible exact Below.refl _ _) | (with_reducible assumption) | (with_reducible refine below_drewN ?_ _) | (with_reducible refine Below.drew ?_) | (with_reducible refine below_regrown_up _ _ ?_ ?_) | (with_reducible refine Below.alloc ?_ ?_ _) | (with_reducible refine Below.setCell ?_ ?_ _) | (with_reducible refine below_up ?_ ?_ (by assumption)) | (with_reducible exact Nat.le_refl _) | omega | (simp; done) | (simp; omega))), ?_⟩, (HA2.out.set (o := 10) (v := .int .i64 (a.paid - x.cents)) rfl).up (by repeat' (first | (with_reducible exact Below.refl _ _) | (with_reducible assumption) | (with_reducible refine below_drewN ?_ _) | (with_reducible refine Below.drew ?_) | (with_reducible refine below_regrown_up _ _ ?_ ?_) | (with_reducible refine Below.alloc ?_ ?_ _) | (with_reducible refine Below.setCell ?_ ?_ _) | (with_reducible refine below_up ?_ ?_ (by assumption)) | (with_reducible exact Nat.le_refl _) | omega | (simp; done) | (simp; omega)))⟩
    exact ((((Turn.refl [gc, g] base w).up b1 HB.out.le).trans (HT.out.more (by simp))).set (g := g) (by simp) _).up (by repeat' (first | (with_reducible exact Below.refl _ _) | (with_reducible assumption) | (with_reducible refine below_drewN ?_ _) | (with_reducible refine Below.drew ?_) | (with_reducible refine below_regrown_up _ _ ?_ ?_) | (with_reducible refine Below.alloc ?_ ?_ _) | (with_reducible refine Below.setCell ?_ ?_ _) | (with_reducible refine below_up ?_ ?_ (by assumption)) | (with_reducible exact Nat.le_refl _) | omega | (simp; done) | (simp; omega))) (by simp [World.setCell]; exact HB2.out.le)
end Go.Proofs.YtmlhoojcdidgkaaGreat

/-
  Package folio: deeds that move more than once.
-/
namespace Go.Proofs.YtmlhoojcdidgkaaGreat
set_option linter.unusedSimpArgs false
set_option linter.unusedVariables false
open Go.RowKit
open Go.Sort (grow size_grow)


set_option maxHeartbeats 4000000
set_option maxRecDepth 100000
theorem mvE_room {d f t c r : Int} {l : List Entry} {n : Nat} (h : l.length ≤ n) : (mvE d f t c r l).length ≤ n + 1 := Nat.le_trans (mvE_len d f t c r l) (by omega)
theorem leave_any (gc gm base : Nat) (V : Env) (At : Option Addr) (ct : Nat) (es : List Entry) (ev : Value) (g : Nat) (a : Acc) (x : Deed) (n : Nat) (L : Nat) (w : World) (h : Bk w gc gm base V At ct es x.day ev) (hA : AccIn w g a) (hg : g < base) (hne : g ≠ gc)
    (hl : es.length ≤ 3000) (hao : AccOk a n) (hn : n ≤ 500) (hts : Sl w L 7 Tax.cs At V.ts) (hL : L ≤ w.heap.size) (htl : V.ts.length ≤ 1000000000000) (hpt : partOk V.p V.d = true) :
    Calls Tryz.prog 112 #[.pointer (some ⟨gc, 0, none⟩), .pointer (some ⟨g, 0, none⟩), x.v] w (Done gc gm base V At ct x.day ev g (leaveD V es a x) es a w) := by
  have HTS := Lib.hid (fun (W : World) (hb : Below w.heap.size w W) => hts.below (hb.mono hL))
  have hw1 : IntKind.i64.wrap (400 + a.b.place) = 400 + a.b.place := IntWalk.i64_in _ (by have := Bill.ok_iff.1 hao.b; omega)
  have hw2 : IntKind.i64.wrap (700 + a.b.channel) = 700 + a.b.channel := IntWalk.i64_in _ (by have := Bill.ok_iff.1 hao.b; omega)
  clear hts
  have hgc := h.lt
  have hs := (Bill.ok_iff.1 hao.b).2.2.2.1
  have hch := (Bill.ok_iff.1 hao.b).2.2.2.2.1
  have hpl := (Bill.ok_iff.1 hao.b).2.2.2.2.2.1
  have hbk := hao.b
  have hp := hao.paid
  have hp1 : a.paid ≤ 500000000000 := by omega
  have le0 := h.le
  have B0 := Lib.hid h
  have A0 := Lib.hid hA
  have TT0 := Lib.hid (Turn.refl [gc, g] base w (ev := ev))
  obtain ⟨w0, hw0⟩ : ∃ w0, w0 = w := ⟨_, rfl⟩
  obtain ⟨ev0, hev0⟩ : ∃ ev0, ev0 = ev := ⟨_, rfl⟩
  subst hw0 hev0
  clear h hA
  obtain ⟨fee, hfee⟩ : ∃ fee, (oneR V.p V.d a.b).1 = fee := ⟨_, rfl⟩
  have hone : oneR V.p V.d a.b = (fee, 0) := by rw [← hfee, oneR_ok hpt hbk]
  have HONE := Lib.hid hone
  have HFEE := Lib.hid hfee
  clear hone hfee
  cases hc : comesR V.ts a.b with
  | none =>
    have HR : Hid (leaveD V es a x = .error 3) := Lib.hid (by unfold leaveD; rw [hc])
    have HC : Hid (RetC (comesT (comesR V.ts a.b)) = .returned (.tuple #[.int .i64 0, .int .i64 0, .int .i64 3])) := Lib.hid (by rw [hc]; rfl)
    clear hc
    rw [HR.out]
    go_enter Tryz.func112, Tryz.ntmps112
    go_wp2_with fail
    refine name_calls (fun w1 hw1 => ?_)
    have b1 : Below w0.heap.size w0 w1 := by rw [hw1]; exact (by repeat' (first | (with_reducible exact Below.refl _ _) | (with_reducible assumption) | (with_reducible refine below_drewN ?_ _) | (with_reducible refine Below.drew ?_) | (with_reducible refine below_regrown_up _ _ ?_ ?_) | (with_reducible refine Below.alloc ?_ ?_ _) | (with_reducible refine Below.setCell ?_ ?_ _) | (with_reducible refine below_up ?_ ?_ (by assumption)) | (with_reducible exact Nat.le_refl _) | omega | (simp; done) | (simp; omega)))
    have z1 := b1.size
    clear hw1
    have B1 := Lib.hid (B0.out.up b1)
    have A1 := Lib.hid (A0.out.up b1)
    have TT1 := Lib.hid (TT0.out.up b1 B0.out.le)
    have le1 := B1.out.le
    refine (comes_any gc gm base V At ct es x.day ev0 g a L w1 B1.out A1.out (HTS.out _ b1) (by omega) htl hbk).mono ?_
    rintro e w2 ⟨he, b2⟩
    rw [HC.out] at he
    subst he
    have B2 := Lib.hid (B1.out.up b2)
    have A2 := Lib.hid (A1.out.up b2)
    have TT2 := Lib.hid (TT1.out.up b2 B1.out.le)
    have le2 := B2.out.le
    go_wp2_with fail
    go_ret
    exact ⟨rfl, ⟨_, B2.out, TT2.out⟩, A2.out⟩
  | some q =>
    obtain ⟨tx, c⟩ := q
    have HR : Hid (leaveD V es a x = .ok (mvE x.day (300 + a.b.place) (700 + a.b.channel) fee a.b.stay (mvE x.day (400 + a.b.place) (payerA a.b) tx a.b.stay (mvE x.day (300 + a.b.place) (payerA a.b) a.b.price a.b.stay es)), { a with st := 3 })) := Lib.hid (by unfold leaveD; rw [hc, HFEE.out])
    have HC : Hid (RetC (comesT (comesR V.ts a.b)) = .returned (.tuple #[.int .i64 tx, .int .i64 c, .int .i64 0])) := Lib.hid (by rw [hc]; rfl)
    clear hc
    rw [HR.out]
    have hl1 := mvE_room (d := x.day) (f := 300 + a.b.place) (t := payerA a.b) (c := a.b.price) (r := a.b.stay) hl
    have hl2 := mvE_room (d := x.day) (f := 400 + a.b.place) (t := payerA a.b) (c := tx) (r := a.b.stay) hl1
    go_enter Tryz.func112, Tryz.ntmps112
    go_wp2_with fail
    refine name_calls (fun w1 hw1' => ?_)
    have b1 : Below w0.heap.size w0 w1 := by rw [hw1']; exact (by repeat' (first | (with_reducible exact Below.refl _ _) | (with_reducible assumption) | (with_reducible refine below_drewN ?_ _) | (with_reducible refine Below.drew ?_) | (with_reducible refine below_regrown_up _ _ ?_ ?_) | (with_reducible refine Below.alloc ?_ ?_ _) | (with_reducible refine Below.setCell ?_ ?_ _) | (with_reducible refine below_up ?_ ?_ (by assumption)) | (with_reducible exact Nat.le_refl _) | omega | (simp; done) | (simp; omega)))
    have z1 := b1.size
    clear hw1'
    have B1 := Lib.hid (B0.out.up b1)
    have A1 := Lib.hid (A0.out.up b1)
    have TT1 := Lib.hid (TT0.out.up b1 B0.out.le)
    have le1 := B1.out.le
    refine (comes_any gc gm base V At ct es x.day ev0 g a L w1 B1.out A1.out (HTS.out _ b1) (by omega) htl hbk).mono ?_
    rintro e w2 ⟨he, b2⟩
    rw [HC.out] at he
    subst he
    have B2 := Lib.hid (B1.out.up b2)
    have A2 := Lib.hid (A1.out.up b2)
    have TT2 := Lib.hid (TT1.out.up b2 B1.out.le)
    have le2 := B2.out.le
    have c0 : w2.cell? ⟨g, 0, none⟩ = some (.int .i64 a.b.stay) := (A2.out).cell 0
    have c1 : w2.cell? ⟨g, 1, none⟩ = some (.int .i64 a.b.channel) := (A2.out).cell 1
    have c2 : w2.cell? ⟨g, 2, none⟩ = some (.int .i64 a.b.place) := (A2.out).cell 2
    have c3 : w2.cell? ⟨g, 3, none⟩ = some (.int .i64 a.b.kind) := (A2.out).cell 3
    have c4 : w2.cell? ⟨g, 4, none⟩ = some (.int .i64 a.b.frm) := (A2.out).cell 4
    have c5 : w2.cell? ⟨g, 5, none⟩ = some (.int .i64 a.b.til) := (A2.out).cell 5
    have c6 : w2.cell? ⟨g, 6, none⟩ = some (.int .i64 a.b.persons) := (A2.out).cell 6
    have c7 : w2.cell? ⟨g, 7, none⟩ = some (.int .i64 a.b.price) := (A2.out).cell 7
    have c8 : w2.cell? ⟨g, 8, none⟩ = some (.int .i64 a.b.keep) := (A2.out).cell 8
    have c9 : w2.cell? ⟨g, 9, none⟩ = some (.int .i64 a.st) := (A2.out).cell 9
    have c10 : w2.cell? ⟨g, 10, none⟩ = some (.int .i64 a.paid) := (A2.out).cell 10
    have f9 := (A2.out).free 9
    have f10 := (A2.out).free 10
    have lg := (A2.out).lt
    have lgc : gc < w2.heap.size := Nat.lt_of_lt_of_le hgc (by assumption)
    have q4 : w2.cell? ⟨gc, 4, none⟩ = some (.int .i64 V.p) := B2.out.cell 4
    have q5 : w2.cell? ⟨gc, 5, none⟩ = some (.int .i64 V.d) := B2.out.cell 5
    go_wp2_with fail
    have hgr := regrown_cells w2 (B := w2.heap.size) (by omega)
    refine wp_region_quiet_below (by kernel_rfl) (by kernel_rfl) ?_
    repeat (quiet_step ((go_at_call 44; exact quiet_b (cone_any HONE.out _))))
    refine wpQuiet_nil ?_
    intro _ hw'
    obtain ⟨⟨dq, osq⟩, hw''⟩ := hw'
    subst hw''
    have hb3 := below_regrown w2 dq osq
    clear hgr
    generalize grow (redrawn w2 dq) osq = w3 at hb3 ⊢
    have hz3 := hb3.size
    (try simp only [World.size_alloc, World.size_setCell, World.size_drew, size_drewN', size_grow, size_redrawn] at hz3)
    obtain ⟨hc3, hf3⟩ := bcellB (B := w2.heap.size) hb3 (by first | omega | (simp only [World.size_alloc, World.size_setCell, World.size_drew, size_drewN', size_grow, size_redrawn]; omega))
    have b3 := hb3
    clear q4 q5 hc3 hf3
    clear c0 c1 c2 c3 c4 c5 c6 c7 c8 c9 c10 f9 f10 lg lgc
    have B3 := Lib.hid (B2.out.up b3)
    have A3 := Lib.hid (A2.out.up b3)
    have TT3 := Lib.hid (TT2.out.up b3 B2.out.le)
    have le3 := B3.out.le
    obtain ⟨ev3, hev3⟩ : ∃ ev3, ev3 = ev0 := ⟨_, rfl⟩
    subst hev3
    have c0 : w3.cell? ⟨g, 0, none⟩ = some (.int .i64 a.b.stay) := (A3.out).cell 0
    have c1 : w3.cell? ⟨g, 1, none⟩ = some (.int .i64 a.b.channel) := (A3.out).cell 1
    have c2 : w3.cell? ⟨g, 2, none⟩ = some (.int .i64 a.b.place) := (A3.out).cell 2
    have c3 : w3.cell? ⟨g, 3, none⟩ = some (.int .i64 a.b.kind) := (A3.out).cell 3
    have c4 : w3.cell? ⟨g, 4, none⟩ = some (.int .i64 a.b.frm) := (A3.out).cell 4
    have c5 : w3.cell? ⟨g, 5, none⟩ = some (.int .i64 a.b.til) := (A3.out).cell 5
    have c6 : w3.cell? ⟨g, 6, none⟩ = some (.int .i64 a.b.persons) := (A3.out).cell 6
    have c7 : w3.cell? ⟨g, 7, none⟩ = some (.int .i64 a.b.price) := (A3.out).cell 7
    have c8 : w3.cell? ⟨g, 8, none⟩ = some (.int .i64 a.b.keep) := (A3.out).cell 8
    have c9 : w3.cell? ⟨g, 9, none⟩ = some (.int .i64 a.st) := (A3.out).cell 9
    have c10 : w3.cell? ⟨g, 10, none⟩ = some (.int .i64 a.paid) := (A3.out).cell 10
    have f9 := (A3.out).free 9
    have f10 := (A3.out).free 10
    have lg := (A3.out).lt
    have lgc : gc < w3.heap.size := Nat.lt_of_lt_of_le hgc (by assumption)
    go_wp2_with fail
    refine wp_region_still_tail 17 (by kernel_rfl) (by kernel_rfl) ?_
    change wpStill _ _ (World.drew _) _ _ _
    simp only [List.take_succ_cons, List.take_zero, List.drop_succ_cons, List.drop_zero]
    repeat (first | still_step | (first | still_call (still_w (house_any g a _ (by exact A3.out) hbk)) | still_call (still_w (payer_any g a _ (by exact A3.out) hbk))))
    refine wpStill_nil ?_
    change wpList _ _ _ _ _ (World.drew _)
    go_wp2_with fail
    refine (move_any gc gm base V At ct es x.day ev3 (300 + a.b.place) (payerA a.b) a.b.price a.b.stay _ (B3.out.up (by repeat' (first | (with_reducible exact Below.refl _ _) | (with_reducible assumption) | (with_reducible refine below_drewN ?_ _) | (with_reducible refine Below.drew ?_) | (with_reducible refine below_regrown_up _ _ ?_ ?_) | (with_reducible refine Below.alloc ?_ ?_ _) | (with_reducible refine Below.setCell ?_ ?_ _) | (with_reducible refine below_up ?_ ?_ (by assumption)) | (with_reducible exact Nat.le_refl _) | omega | (simp; done) | (simp; omega)))) (by omega)).mono ?_
    rintro e w4 ⟨rfl, ⟨ev4, B'4, T'4⟩, P'4⟩
    have A4 := Lib.hid (T'4.acc (A3.out.up (by repeat' (first | (with_reducible exact Below.refl _ _) | (with_reducible assumption) | (with_reducible refine below_drewN ?_ _) | (with_reducible refine Below.drew ?_) | (with_reducible refine below_regrown_up _ _ ?_ ?_) | (with_reducible refine Below.alloc ?_ ?_ _) | (with_reducible refine Below.setCell ?_ ?_ _) | (with_reducible refine below_up ?_ ?_ (by assumption)) | (with_reducible exact Nat.le_refl _) | omega | (simp; done) | (simp; omega)))) hg (by simpa using hne))
    have TT4 := Lib.hid ((TT3.out.up (by repeat' (first | (with_reducible exact Below.refl _ _) | (with_reducible assumption) | (with_reducible refine below_drewN ?_ _) | (with_reducible refine Below.drew ?_) | (with_reducible refine below_regrown_up _ _ ?_ ?_) | (with_reducible refine Below.alloc ?_ ?_ _) | (with_reducible refine Below.setCell ?_ ?_ _) | (with_reducible refine below_up ?_ ?_ (by assumption)) | (with_reducible exact Nat.le_refl _) | omega | (simp; done) | (simp; omega))) B3.out.le).trans (T'4.more (by simp)))
    have B4 := Lib.hid B'4
    have le4 := B'4.le
    clear B'4 T'4 P'4
    clear c0 c1 c2 c3 c4 c5 c6 c7 c8 c9 c10 f9 f10 lg lgc
    have c0 : w4.cell? ⟨g, 0, none⟩ = some (.int .i64 a.b.stay) := (A4.out).cell 0
    have c1 : w4.cell? ⟨g, 1, none⟩ = some (.int .i64 a.b.channel) := (A4.out).cell 1
    have c2 : w4.cell? ⟨g, 2, none⟩ = some (.int .i64 a.b.place) := (A4.out).cell 2
    have c3 : w4.cell? ⟨g, 3, none⟩ = some (.int .i64 a.b.kind) := (A4.out).cell 3
    have c4 : w4.cell? ⟨g, 4, none⟩ = some (.int .i64 a.b.frm) := (A4.out).cell 4
    have c5 : w4.cell? ⟨g, 5, none⟩ = some (.int .i64 a.b.til) := (A4.out).cell 5
    have c6 : w4.cell? ⟨g, 6, none⟩ = some (.int .i64 a.b.persons) := (A4.out).cell 6
    have c7 : w4.cell? ⟨g, 7, none⟩ = some (.int .i64 a.b.price) := (A4.out).cell 7
    have c8 : w4.cell? ⟨g, 8, none⟩ = some (.int .i64 a.b.keep) := (A4.out).cell 8
    have c9 : w4.cell? ⟨g, 9, none⟩ = some (.int .i64 a.st) := (A4.out).cell 9
    have c10 : w4.cell? ⟨g, 10, none⟩ = some (.int .i64 a.paid) := (A4.out).cell 10
    have f9 := (A4.out).free 9
    have f10 := (A4.out).free 10
    have lg := (A4.out).lt
    have lgc : gc < w4.heap.size := Nat.lt_of_lt_of_le hgc (by assumption)
    go_wp2_with fail
    refine wp_region_still_tail 17 (by kernel_rfl) (by kernel_rfl) ?_
    change wpStill _ _ (World.drew _) _ _ _
    simp only [List.take_succ_cons, List.take_zero, List.drop_succ_cons, List.drop_zero]
    repeat (first | still_step | (still_call (still_w (payer_any g a _ (by exact A4.out) hbk))))
    refine wpStill_nil ?_
    change wpList _ _ _ _ _ (World.drew _)
    go_wp2_with fail
    refine (move_any gc gm base V At ct _ x.day ev4 (400 + a.b.place) (payerA a.b) tx a.b.stay _ (B4.out.up (by repeat' (first | (with_reducible exact Below.refl _ _) | (with_reducible assumption) | (with_reducible refine below_drewN ?_ _) | (with_reducible refine Below.drew ?_) | (with_reducible refine below_regrown_up _ _ ?_ ?_) | (with_reducible refine Below.alloc ?_ ?_ _) | (with_reducible refine Below.setCell ?_ ?_ _) | (with_reducible refine below_up ?_ ?_ (by assumption)) | (with_reducible exact Nat.le_refl _) | omega | (simp; done) | (simp; omega)))) (by omega)).mono ?_
    rintro e w5 ⟨rfl, ⟨ev5, B'5, T'5⟩, P'5⟩
    have A5 := Lib.hid (T'5.acc (A4.out.up (by repeat' (first | (with_reducible exact Below.refl _ _) | (with_reducible assumption) | (with_reducible refine below_drewN ?_ _) | (with_reducible refine Below.drew ?_) | (with_reducible refine below_regrown_up _ _ ?_ ?_) | (with_reducible refine Below.alloc ?_ ?_ _) | (with_reducible refine Below.setCell ?_ ?_ _) | (with_reducible refine below_up ?_ ?_ (by assumption)) | (with_reducible exact Nat.le_refl _) | omega | (simp; done) | (simp; omega)))) hg (by simpa using hne))
    have TT5 := Lib.hid ((TT4.out.up (by repeat' (first | (with_reducible exact Below.refl _ _) | (with_reducible assumption) | (with_reducible refine below_drewN ?_ _) | (with_reducible refine Below.drew ?_) | (with_reducible refine below_regrown_up _ _ ?_ ?_) | (with_reducible refine Below.alloc ?_ ?_ _) | (with_reducible refine Below.setCell ?_ ?_ _) | (with_reducible refine below_up ?_ ?_ (by assumption)) | (with_reducible exact Nat.le_refl _) | omega | (simp; done) | (simp; omega))) B4.out.le).trans (T'5.more (by simp)))
    have B5 := Lib.hid B'5
    have le5 := B'5.le
    clear B'5 T'5 P'5
    clear c0 c1 c2 c3 c4 c5 c6 c7 c8 c9 c10 f9 f10 lg lgc
    have c0 : w5.cell? ⟨g, 0, none⟩ = some (.int .i64 a.b.stay) := (A5.out).cell 0
    have c1 : w5.cell? ⟨g, 1, none⟩ = some (.int .i64 a.b.channel) := (A5.out).cell 1
    have c2 : w5.cell? ⟨g, 2, none⟩ = some (.int .i64 a.b.place) := (A5.out).cell 2
    have c3 : w5.cell? ⟨g, 3, none⟩ = some (.int .i64 a.b.kind) := (A5.out).cell 3
    have c4 : w5.cell? ⟨g, 4, none⟩ = some (.int .i64 a.b.frm) := (A5.out).cell 4
    have c5 : w5.cell? ⟨g, 5, none⟩ = some (.int .i64 a.b.til) := (A5.out).cell 5
    have c6 : w5.cell? ⟨g, 6, none⟩ = some (.int .i64 a.b.persons) := (A5.out).cell 6
    have c7 : w5.cell? ⟨g, 7, none⟩ = some (.int .i64 a.b.price) := (A5.out).cell 7
    have c8 : w5.cell? ⟨g, 8, none⟩ = some (.int .i64 a.b.keep) := (A5.out).cell 8
    have c9 : w5.cell? ⟨g, 9, none⟩ = some (.int .i64 a.st) := (A5.out).cell 9
    have c10 : w5.cell? ⟨g, 10, none⟩ = some (.int .i64 a.paid) := (A5.out).cell 10
    have f9 := (A5.out).free 9
    have f10 := (A5.out).free 10
    have lg := (A5.out).lt
    have lgc : gc < w5.heap.size := Nat.lt_of_lt_of_le hgc (by assumption)
    go_wp2_with fail
    refine wp_region_still_tail 17 (by kernel_rfl) (by kernel_rfl) ?_
    change wpStill _ _ (World.drew _) _ _ _
    simp only [List.take_succ_cons, List.take_zero, List.drop_succ_cons, List.drop_zero]
    repeat (first | still_step | (still_call (still_w (house_any g a _ (by exact A5.out) hbk))))
    refine wpStill_nil ?_
    change wpList _ _ _ _ _ (World.drew _)
    go_wp2_with fail
    refine (move_any gc gm base V At ct _ x.day ev5 (300 + a.b.place) (700 + a.b.channel) fee a.b.stay _ (B5.out.up (by repeat' (first | (with_reducible exact Below.refl _ _) | (with_reducible assumption) | (with_reducible refine below_drewN ?_ _) | (with_reducible refine Below.drew ?_) | (with_reducible refine below_regrown_up _ _ ?_ ?_) | (with_reducible refine Below.alloc ?_ ?_ _) | (with_reducible refine Below.setCell ?_ ?_ _) | (with_reducible refine below_up ?_ ?_ (by assumption)) | (with_reducible exact Nat.le_refl _) | omega | (simp; done) | (simp; omega)))) (by omega)).mono ?_
    rintro e w6 ⟨rfl, ⟨ev6, B'6, T'6⟩, P'6⟩
    have A6 := Lib.hid (T'6.acc (A5.out.up (by repeat' (first | (with_reducible exact Below.refl _ _) | (with_reducible assumption) | (with_reducible refine below_drewN ?_ _) | (with_reducible refine Below.drew ?_) | (with_reducible refine below_regrown_up _ _ ?_ ?_) | (with_reducible refine Below.alloc ?_ ?_ _) | (with_reducible refine Below.setCell ?_ ?_ _) | (with_reducible refine below_up ?_ ?_ (by assumption)) | (with_reducible exact Nat.le_refl _) | omega | (simp; done) | (simp; omega)))) hg (by simpa using hne))
    have TT6 := Lib.hid ((TT5.out.up (by repeat' (first | (with_reducible exact Below.refl _ _) | (with_reducible assumption) | (with_reducible refine below_drewN ?_ _) | (with_reducible refine Below.drew ?_) | (with_reducible refine below_regrown_up _ _ ?_ ?_) | (with_reducible refine Below.alloc ?_ ?_ _) | (with_reducible refine Below.setCell ?_ ?_ _) | (with_reducible refine below_up ?_ ?_ (by assumption)) | (with_reducible exact Nat.le_refl _) | omega | (simp; done) | (simp; omega))) B5.out.le).trans (T'6.more (by simp)))
    have B6 := Lib.hid B'6
    have le6 := B'6.le
    clear B'6 T'6 P'6
    clear c0 c1 c2 c3 c4 c5 c6 c7 c8 c9 c10 f9 f10 lg lgc
    have c0 : w6.cell? ⟨g, 0, none⟩ = some (.int .i64 a.b.stay) := (A6.out).cell 0
    have c1 : w6.cell? ⟨g, 1, none⟩ = some (.int .i64 a.b.channel) := (A6.out).cell 1
    have c2 : w6.cell? ⟨g, 2, none⟩ = some (.int .i64 a.b.place) := (A6.out).cell 2
    have c3 : w6.cell? ⟨g, 3, none⟩ = some (.int .i64 a.b.kind) := (A6.out).cell 3
    have c4 : w6.cell? ⟨g, 4, none⟩ = some (.int .i64 a.b.frm) := (A6.out).cell 4
    have c5 : w6.cell? ⟨g, 5, none⟩ = some (.int .i64 a.b.til) := (A6.out).cell 5
    have c6 : w6.cell? ⟨g, 6, none⟩ = some (.int .i64 a.b.persons) := (A6.out).cell 6
    have c7 : w6.cell? ⟨g, 7, none⟩ = some (.int .i64 a.b.price) := (A6.out).cell 7
    have c8 : w6.cell? ⟨g, 8, none⟩ = some (.int .i64 a.b.keep) := (A6.out).cell 8
    have c9 : w6.cell? ⟨g, 9, none⟩ = some (.int .i64 a.st) := (A6.out).cell 9
    have c10 : w6.cell? ⟨g, 10, none⟩ = some (.int .i64 a.paid) := (A6.out).cell 10
    have f9 := (A6.out).free 9
    have f10 := (A6.out).free 10
    have lg := (A6.out).lt
    have lgc : gc < w6.heap.size := Nat.lt_of_lt_of_le hgc (by assumption)
    go_wp2_with fail
    go_ret
    exact ⟨rfl, ⟨ev6, B6.out.set hg hne 9 _, TT6.out.set (g := g) (by simp) _⟩, A6.out.set (o := 9) (v := .int .i64 3) rfl⟩
end Go.Proofs.YtmlhoojcdidgkaaGreat
