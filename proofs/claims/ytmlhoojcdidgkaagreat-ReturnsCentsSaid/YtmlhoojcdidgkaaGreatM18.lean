/-
  Texts, one behind the other: FoW6.
-/
import Derived.Test.YtmlhoojcdidgkaaGreatM17
/-
  Package folio: deeds (walked, by voucher, cancelled).
-/
namespace Go.Proofs.YtmlhoojcdidgkaaGreat
set_option linter.unusedSimpArgs false
set_option linter.unusedVariables false
open Go.RowKit
open Go.Sort (grow size_grow)


set_option maxHeartbeats 4000000
set_option maxRecDepth 100000
theorem walk_any (gc gm base : Nat) (V : Env) (At : Option Addr) (ct : Nat) (es : List Entry) (ev : Value) (g : Nat) (a : Acc) (x : Deed) (n : Nat) (w : World) (h : Bk w gc gm base V At ct es x.day ev) (hA : AccIn w g a) (hg : g < base) (hne : g ≠ gc)
    (hl : es.length ≤ 3000) (hao : AccOk a n) (hn : n ≤ 500) :
    Calls Tryz.prog 113 #[.pointer (some ⟨gc, 0, none⟩), .pointer (some ⟨g, 0, none⟩), x.v] w (Done gc gm base V At ct x.day ev g (walkD V es a x) es a w) := by
  have hgc := h.lt
  have hs := (Bill.ok_iff.1 hao.b).2.2.2.1
  have hch := (Bill.ok_iff.1 hao.b).2.2.2.2.1
  have hpl := (Bill.ok_iff.1 hao.b).2.2.2.2.2.1
  have hbk := hao.b
  have hp := hao.paid
  have hp1 : a.paid ≤ 500000000000 := by omega
  have le0 := h.le
  have B0 := Lib.hid h
  have A0 := Lib.hid hA
  have TT0 := Lib.hid (Turn.refl [gc, g] base w (ev := ev))
  obtain ⟨w0, hw0⟩ : ∃ w0, w0 = w := ⟨_, rfl⟩
  obtain ⟨ev0, hev0⟩ : ∃ ev0, ev0 = ev := ⟨_, rfl⟩
  subst hw0 hev0
  clear h hA
  obtain ⟨q, er, hq⟩ : ∃ q er, payR V.k a.b.price = (q, er) := ⟨_, _, rfl⟩
  have HPAY : Hid (∀ W, Calls Tryz.prog 45 #[V.k.v, .int .i64 a.b.price] W fun e w' => e = .returned (.tuple #[.int .i64 q, .int .i64 er]) ∧ Below W.heap.size W w') := Lib.hid (fun W => by
    have := wpay_any V.k a.b.price W
    rw [hq] at this
    exact this)
  by_cases he : er = 0
  · subst he
    have HR : Hid (walkD V es a x = .ok (mvE x.day 900 800 q a.b.stay (mvE x.day 900 (guestA a.b.stay) a.paid a.b.stay es), { a with st := 5 })) := Lib.hid (by unfold walkD; rw [hq]; rfl)
    clear hq
    rw [HR.out]
    have hl1 := mvE_room (d := x.day) (f := 900) (t := guestA a.b.stay) (c := a.paid) (r := a.b.stay) hl
    go_enter Tryz.func113, Tryz.ntmps113
    go_wp2_with fail
    refine name_world (fun w1 hw1' => ?_)
    have b1 : Below w0.heap.size w0 w1 := by rw [hw1']; exact (by repeat' (first | (with_reducible exact Below.refl _ _) | (with_reducible assumption) | (with_reducible refine below_drewN ?_ _) | (with_reducible refine Below.drew ?_) | (with_reducible refine below_regrown_up _ _ ?_ ?_) | (with_reducible refine Below.alloc ?_ ?_ _) | (with_reducible refine Below.setCell ?_ ?_ _) | (with_reducible refine below_up ?_ ?_ (by assumption)) | (with_reducible exact Nat.le_refl _) | omega | (simp; done) | (simp; omega)))
    have z1 := b1.size
    clear hw1'
    have B1 := Lib.hid (B0.out.up b1)
    have A1 := Lib.hid (A0.out.up b1)
    have TT1 := Lib.hid (TT0.out.up b1 B0.out.le)
    have le1 := B1.out.le
    have c0 : w1.cell? ⟨g, 0, none⟩ = some (.int .i64 a.b.stay) := (A1.out).cell 0
    have c1 : w1.cell? ⟨g, 1, none⟩ = some (.int .i64 a.b.channel) := (A1.out).cell 1
    have c2 : w1.cell? ⟨g, 2, none⟩ = some (.int .i64 a.b.place) := (A1.out).cell 2
    have c3 : w1.cell? ⟨g, 3, none⟩ = some (.int .i64 a.b.kind) := (A1.out).cell 3
    have c4 : w1.cell? ⟨g, 4, none⟩ = some (.int .i64 a.b.frm) := (A1.out).cell 4
    have c5 : w1.cell? ⟨g, 5, none⟩ = some (.int .i64 a.b.til) := (A1.out).cell 5
    have c6 : w1.cell? ⟨g, 6, none⟩ = some (.int .i64 a.b.persons) := (A1.out).cell 6
    have c7 : w1.cell? ⟨g, 7, none⟩ = some (.int .i64 a.b.price) := (A1.out).cell 7
    have c8 : w1.cell? ⟨g, 8, none⟩ = some (.int .i64 a.b.keep) := (A1.out).cell 8
    have c9 : w1.cell? ⟨g, 9, none⟩ = some (.int .i64 a.st) := (A1.out).cell 9
    have c10 : w1.cell? ⟨g, 10, none⟩ = some (.int .i64 a.paid) := (A1.out).cell 10
    have f9 := (A1.out).free 9
    have f10 := (A1.out).free 10
    have lg := (A1.out).lt
    have lgc : gc < w1.heap.size := Nat.lt_of_lt_of_le hgc (by assumption)
    have q6 : w1.cell? ⟨gc, 6, none⟩ = some (.int .i64 V.k.fx) := B1.out.cell 6
    have q7 : w1.cell? ⟨gc, 7, none⟩ = some (.int .i64 V.k.n) := B1.out.cell 7
    have q8 : w1.cell? ⟨gc, 8, none⟩ = some (.int .i64 V.k.d) := B1.out.cell 8
    have q9 : w1.cell? ⟨gc, 9, none⟩ = some (.int .i64 V.k.most) := B1.out.cell 9
    have hgr := regrown_cells w1 (B := w1.heap.size) (by omega)
    refine wp_region_quiet_below (by kernel_rfl) (by kernel_rfl) ?_
    repeat (quiet_step ((go_at_call 45; exact quiet_b (HPAY.out _))))
    refine wpQuiet_nil ?_
    intro _ hw'
    obtain ⟨⟨dq, osq⟩, hw''⟩ := hw'
    subst hw''
    have hb2 := below_regrown w1 dq osq
    clear hgr
    generalize grow (redrawn w1 dq) osq = w2 at hb2 ⊢
    have hz2 := hb2.size
    (try simp only [World.size_alloc, World.size_setCell, World.size_drew, size_drewN', size_grow, size_redrawn] at hz2)
    obtain ⟨hc2, hf2⟩ := bcellB (B := w1.heap.size) hb2 (by first | omega | (simp only [World.size_alloc, World.size_setCell, World.size_drew, size_drewN', size_grow, size_redrawn]; omega))
    have b2 := hb2
    clear q6 q7 q8 q9 hc2 hf2
    clear c0 c1 c2 c3 c4 c5 c6 c7 c8 c9 c10 f9 f10 lg lgc
    have B2 := Lib.hid (B1.out.up b2)
    have A2 := Lib.hid (A1.out.up b2)
    have TT2 := Lib.hid (TT1.out.up b2 B1.out.le)
    have le2 := B2.out.le
    obtain ⟨ev2, hev2⟩ : ∃ ev2, ev2 = ev0 := ⟨_, rfl⟩
    subst hev2
    have c0 : w2.cell? ⟨g, 0, none⟩ = some (.int .i64 a.b.stay) := (A2.out).cell 0
    have c1 : w2.cell? ⟨g, 1, none⟩ = some (.int .i64 a.b.channel) := (A2.out).cell 1
    have c2 : w2.cell? ⟨g, 2, none⟩ = some (.int .i64 a.b.place) := (A2.out).cell 2
    have c3 : w2.cell? ⟨g, 3, none⟩ = some (.int .i64 a.b.kind) := (A2.out).cell 3
    have c4 : w2.cell? ⟨g, 4, none⟩ = some (.int .i64 a.b.frm) := (A2.out).cell 4
    have c5 : w2.cell? ⟨g, 5, none⟩ = some (.int .i64 a.b.til) := (A2.out).cell 5
    have c6 : w2.cell? ⟨g, 6, none⟩ = some (.int .i64 a.b.persons) := (A2.out).cell 6
    have c7 : w2.cell? ⟨g, 7, none⟩ = some (.int .i64 a.b.price) := (A2.out).cell 7
    have c8 : w2.cell? ⟨g, 8, none⟩ = some (.int .i64 a.b.keep) := (A2.out).cell 8
    have c9 : w2.cell? ⟨g, 9, none⟩ = some (.int .i64 a.st) := (A2.out).cell 9
    have c10 : w2.cell? ⟨g, 10, none⟩ = some (.int .i64 a.paid) := (A2.out).cell 10
    have f9 := (A2.out).free 9
    have f10 := (A2.out).free 10
    have lg := (A2.out).lt
    have lgc : gc < w2.heap.size := Nat.lt_of_lt_of_le hgc (by assumption)
    go_wp2_with fail
    refine wp_region_still_tail 18 (by kernel_rfl) (by kernel_rfl) ?_
    change wpStill _ _ (World.drew _) _ _ _
    simp only [List.take_succ_cons, List.take_zero, List.drop_succ_cons, List.drop_zero]
    repeat (first | still_step | (still_call (still_w (guest_any _ _ (by omega) (by omega)))))
    refine wpStill_nil ?_
    change wpList _ _ _ _ _ (World.drew _)
    go_wp2_with fail
    refine (move_any gc gm base V At ct es x.day ev2 900 (guestA a.b.stay) a.paid a.b.stay _ (B2.out.up (by repeat' (first | (with_reducible exact Below.refl _ _) | (with_reducible assumption) | (with_reducible refine below_drewN ?_ _) | (with_reducible refine Below.drew ?_) | (with_reducible refine below_regrown_up _ _ ?_ ?_) | (with_reducible refine Below.alloc ?_ ?_ _) | (with_reducible refine Below.setCell ?_ ?_ _) | (with_reducible refine below_up ?_ ?_ (by assumption)) | (with_reducible exact Nat.le_refl _) | omega | (simp; done) | (simp; omega)))) (by omega)).mono ?_
    rintro e w3 ⟨rfl, ⟨ev3, B'3, T'3⟩, P'3⟩
    have A3 := Lib.hid (T'3.acc (A2.out.up (by repeat' (first | (with_reducible exact Below.refl _ _) | (with_reducible assumption) | (with_reducible refine below_drewN ?_ _) | (with_reducible refine Below.drew ?_) | (with_reducible refine below_regrown_up _ _ ?_ ?_) | (with_reducible refine Below.alloc ?_ ?_ _) | (with_reducible refine Below.setCell ?_ ?_ _) | (with_reducible refine below_up ?_ ?_ (by assumption)) | (with_reducible exact Nat.le_refl _) | omega | (simp; done) | (simp; omega)))) hg (by simpa using hne))
    have TT3 := Lib.hid ((TT2.out.up (by repeat' (first | (with_reducible exact Below.refl _ _) | (with_reducible assumption) | (with_reducible refine below_drewN ?_ _) | (with_reducible refine Below.drew ?_) | (with_reducible refine below_regrown_up _ _ ?_ ?_) | (with_reducible refine Below.alloc ?_ ?_ _) | (with_reducible refine Below.setCell ?_ ?_ _) | (with_reducible refine below_up ?_ ?_ (by assumption)) | (with_reducible exact Nat.le_refl _) | omega | (simp; done) | (simp; omega))) B2.out.le).trans (T'3.more (by simp)))
    have B3 := Lib.hid B'3
    have le3 := B'3.le
    clear B'3 T'3 P'3
    clear c0 c1 c2 c3 c4 c5 c6 c7 c8 c9 c10 f9 f10 lg lgc
    have c0 : w3.cell? ⟨g, 0, none⟩ = some (.int .i64 a.b.stay) := (A3.out).cell 0
    have c1 : w3.cell? ⟨g, 1, none⟩ = some (.int .i64 a.b.channel) := (A3.out).cell 1
    have c2 : w3.cell? ⟨g, 2, none⟩ = some (.int .i64 a.b.place) := (A3.out).cell 2
    have c3 : w3.cell? ⟨g, 3, none⟩ = some (.int .i64 a.b.kind) := (A3.out).cell 3
    have c4 : w3.cell? ⟨g, 4, none⟩ = some (.int .i64 a.b.frm) := (A3.out).cell 4
    have c5 : w3.cell? ⟨g, 5, none⟩ = some (.int .i64 a.b.til) := (A3.out).cell 5
    have c6 : w3.cell? ⟨g, 6, none⟩ = some (.int .i64 a.b.persons) := (A3.out).cell 6
    have c7 : w3.cell? ⟨g, 7, none⟩ = some (.int .i64 a.b.price) := (A3.out).cell 7
    have c8 : w3.cell? ⟨g, 8, none⟩ = some (.int .i64 a.b.keep) := (A3.out).cell 8
    have c9 : w3.cell? ⟨g, 9, none⟩ = some (.int .i64 a.st) := (A3.out).cell 9
    have c10 : w3.cell? ⟨g, 10, none⟩ = some (.int .i64 a.paid) := (A3.out).cell 10
    have f9 := (A3.out).free 9
    have f10 := (A3.out).free 10
    have lg := (A3.out).lt
    have lgc : gc < w3.heap.size := Nat.lt_of_lt_of_le hgc (by assumption)
    go_wp2_with fail
    refine wp_region_still_tail 9 (by kernel_rfl) (by kernel_rfl) ?_
    change wpStill _ _ (World.drew _) _ _ _
    simp only [List.take_succ_cons, List.take_zero, List.drop_succ_cons, List.drop_zero]
    repeat (first | still_step | (fail))
    refine wpStill_nil ?_
    change wpList _ _ _ _ _ (World.drew _)
    go_wp2_with fail
    refine (move_any gc gm base V At ct _ x.day ev3 900 800 q a.b.stay _ (B3.out.up (by repeat' (first | (with_reducible exact Below.refl _ _) | (with_reducible assumption) | (with_reducible refine below_drewN ?_ _) | (with_reducible refine Below.drew ?_) | (with_reducible refine below_regrown_up _ _ ?_ ?_) | (with_reducible refine Below.alloc ?_ ?_ _) | (with_reducible refine Below.setCell ?_ ?_ _) | (with_reducible refine below_up ?_ ?_ (by assumption)) | (with_reducible exact Nat.le_refl _) | omega | (simp; done) | (simp; omega)))) (by omega)).mono ?_
    rintro e w4 ⟨rfl, ⟨ev4, B'4, T'4⟩, P'4⟩
    have A4 := Lib.hid (T'4.acc (A3.out.up (by repeat' (first | (with_reducible exact Below.refl _ _) | (with_reducible assumption) | (with_reducible refine below_drewN ?_ _) | (with_reducible refine Below.drew ?_) | (with_reducible refine below_regrown_up _ _ ?_ ?_) | (with_reducible refine Below.alloc ?_ ?_ _) | (with_reducible refine Below.setCell ?_ ?_ _) | (with_reducible refine below_up ?_ ?_ (by assumption)) | (with_reducible exact Nat.le_refl _) | omega | (simp; done) | (simp; omega)))) hg (by simpa using hne))
    have TT4 := Lib.hid ((TT3.out.up (by repeat' (first | (with_reducible exact Below.refl _ _) | (with_reducible assumption) | (with_reducible refine below_drewN ?_ _) | (with_reducible refine Below.drew ?_) | (with_reducible refine below_regrown_up _ _ ?_ ?_) | (with_reducible refine Below.alloc ?_ ?_ _) | (with_reducible refine Below.setCell ?_ ?_ _) | (with_reducible refine below_up ?_ ?_ (by assumption)) | (with_reducible exact Nat.le_refl _) | omega | (simp; done) | (simp; omega))) B3.out.le).trans (T'4.more (by simp)))
    have B4 := Lib.hid B'4
    have le4 := B'4.le
    clear B'4 T'4 P'4
    clear c0 c1 c2 c3 c4 c5 c6 c7 c8 c9 c10 f9 f10 lg lgc
    have c0 : w4.cell? ⟨g, 0, none⟩ = some (.int .i64 a.b.stay) := (A4.out).cell 0
    have c1 : w4.cell? ⟨g, 1, none⟩ = some (.int .i64 a.b.channel) := (A4.out).cell 1
    have c2 : w4.cell? ⟨g, 2, none⟩ = some (.int .i64 a.b.place) := (A4.out).cell 2
    have c3 : w4.cell? ⟨g, 3, none⟩ = some (.int .i64 a.b.kind) := (A4.out).cell 3
    have c4 : w4.cell? ⟨g, 4, none⟩ = some (.int .i64 a.b.frm) := (A4.out).cell 4
    have c5 : w4.cell? ⟨g, 5, none⟩ = some (.int .i64 a.b.til) := (A4.out).cell 5
    have c6 : w4.cell? ⟨g, 6, none⟩ = some (.int .i64 a.b.persons) := (A4.out).cell 6
    have c7 : w4.cell? ⟨g, 7, none⟩ = some (.int .i64 a.b.price) := (A4.out).cell 7
    have c8 : w4.cell? ⟨g, 8, none⟩ = some (.int .i64 a.b.keep) := (A4.out).cell 8
    have c9 : w4.cell? ⟨g, 9, none⟩ = some (.int .i64 a.st) := (A4.out).cell 9
    have c10 : w4.cell? ⟨g, 10, none⟩ = some (.int .i64 a.paid) := (A4.out).cell 10
    have f9 := (A4.out).free 9
    have f10 := (A4.out).free 10
    have lg := (A4.out).lt
    have lgc : gc < w4.heap.size := Nat.lt_of_lt_of_le hgc (by assumption)
    go_wp2_with fail
    go_ret
    exact ⟨rfl, ⟨ev4, B4.out.set hg hne 9 _, TT4.out.set (g := g) (by simp) _⟩, A4.out.set (o := 9) (v := .int .i64 5) rfl⟩
  · have HR : Hid (walkD V es a x = .error 3) := Lib.hid (by unfold walkD; rw [hq, if_pos he])
    have hne2 : (er != 0) = true := by rw [bne_iff_ne]; exact he
    clear hq he
    rw [HR.out]
    go_enter Tryz.func113, Tryz.ntmps113
    go_wp2_with fail
    refine name_world (fun w1 hw1' => ?_)
    have b1 : Below w0.heap.size w0 w1 := by rw [hw1']; exact (by repeat' (first | (with_reducible exact Below.refl _ _) | (with_reducible assumption) | (with_reducible refine below_drewN ?_ _) | (with_reducible refine Below.drew ?_) | (with_reducible refine below_regrown_up _ _ ?_ ?_) | (with_reducible refine Below.alloc ?_ ?_ _) | (with_reducible refine Below.setCell ?_ ?_ _) | (with_reducible refine below_up ?_ ?_ (by assumption)) | (with_reducible exact Nat.le_refl _) | omega | (simp; done) | (simp; omega)))
    have z1 := b1.size
    clear hw1'
    have B1 := Lib.hid (B0.out.up b1)
    have A1 := Lib.hid (A0.out.up b1)
    have TT1 := Lib.hid (TT0.out.up b1 B0.out.le)
    have le1 := B1.out.le
    have c0 : w1.cell? ⟨g, 0, none⟩ = some (.int .i64 a.b.stay) := (A1.out).cell 0
    have c1 : w1.cell? ⟨g, 1, none⟩ = some (.int .i64 a.b.channel) := (A1.out).cell 1
    have c2 : w1.cell? ⟨g, 2, none⟩ = some (.int .i64 a.b.place) := (A1.out).cell 2
    have c3 : w1.cell? ⟨g, 3, none⟩ = some (.int .i64 a.b.kind) := (A1.out).cell 3
    have c4 : w1.cell? ⟨g, 4, none⟩ = some (.int .i64 a.b.frm) := (A1.out).cell 4
    have c5 : w1.cell? ⟨g, 5, none⟩ = some (.int .i64 a.b.til) := (A1.out).cell 5
    have c6 : w1.cell? ⟨g, 6, none⟩ = some (.int .i64 a.b.persons) := (A1.out).cell 6
    have c7 : w1.cell? ⟨g, 7, none⟩ = some (.int .i64 a.b.price) := (A1.out).cell 7
    have c8 : w1.cell? ⟨g, 8, none⟩ = some (.int .i64 a.b.keep) := (A1.out).cell 8
    have c9 : w1.cell? ⟨g, 9, none⟩ = some (.int .i64 a.st) := (A1.out).cell 9
    have c10 : w1.cell? ⟨g, 10, none⟩ = some (.int .i64 a.paid) := (A1.out).cell 10
    have f9 := (A1.out).free 9
    have f10 := (A1.out).free 10
    have lg := (A1.out).lt
    have lgc : gc < w1.heap.size := Nat.lt_of_lt_of_le hgc (by assumption)
    have q6 : w1.cell? ⟨gc, 6, none⟩ = some (.int .i64 V.k.fx) := B1.out.cell 6
    have q7 : w1.cell? ⟨gc, 7, none⟩ = some (.int .i64 V.k.n) := B1.out.cell 7
    have q8 : w1.cell? ⟨gc, 8, none⟩ = some (.int .i64 V.k.d) := B1.out.cell 8
    have q9 : w1.cell? ⟨gc, 9, none⟩ = some (.int .i64 V.k.most) := B1.out.cell 9
    have hgr := regrown_cells w1 (B := w1.heap.size) (by omega)
    refine wp_region_quiet_below (by kernel_rfl) (by kernel_rfl) ?_
    repeat (quiet_step ((go_at_call 45; exact quiet_b (HPAY.out _))))
    refine wpQuiet_nil ?_
    intro _ hw'
    obtain ⟨⟨dq, osq⟩, hw''⟩ := hw'
    subst hw''
    have hb2 := below_regrown w1 dq osq
    clear hgr
    generalize grow (redrawn w1 dq) osq = w2 at hb2 ⊢
    have hz2 := hb2.size
    (try simp only [World.size_alloc, World.size_setCell, World.size_drew, size_drewN', size_grow, size_redrawn] at hz2)
    obtain ⟨hc2, hf2⟩ := bcellB (B := w1.heap.size) hb2 (by first | omega | (simp only [World.size_alloc, World.size_setCell, World.size_drew, size_drewN', size_grow, size_redrawn]; omega))
    have b2 := hb2
    clear q6 q7 q8 q9 hc2 hf2
    clear c0 c1 c2 c3 c4 c5 c6 c7 c8 c9 c10 f9 f10 lg lgc
    go_wp2_with fail
    go_ret
    exact ⟨rfl, ⟨_, B1.out.up b2, TT1.out.up b2 B1.out.le⟩, A1.out.up b2⟩
theorem voucher_any' (gc gm base : Nat) (V : Env) (At : Option Addr) (ct : Nat) (es : List Entry) (ev : Value) (g : Nat) (a : Acc) (x : Deed) (n : Nat) (L : Nat) (w : World) (h : Bk w gc gm base V At ct es x.day ev) (hA : AccIn w g a) (hg : g < base) (hne : g ≠ gc)
    (hl : es.length ≤ 3000) (hao : AccOk a n) (hn : n ≤ 500) (x0 : 1 ≤ x.cents) (x1 : x.cents ≤ 1000000000) (hts : Sl w L 7 Tax.cs At V.ts) (hL : L ≤ w.heap.size) (htl : V.ts.length ≤ 1000000000000) :
    Calls Tryz.prog 110 #[.pointer (some ⟨gc, 0, none⟩), .pointer (some ⟨g, 0, none⟩), x.v] w (Done gc gm base V At ct x.day ev g (voucherD V es a x) es a w) := by
  have HTS := Lib.hid (fun (W : World) (hb : Below w.heap.size w W) => hts.below (hb.mono hL))
  clear hts
  have hown : some w.heap.size ≠ ev.ownBlock := fun e => by have := (h.own.lt _ e.symm).2; omega
  have HOWN := Lib.hid hown
  clear hown
  have hgc := h.lt
  have hs := (Bill.ok_iff.1 hao.b).2.2.2.1
  have hch := (Bill.ok_iff.1 hao.b).2.2.2.2.1
  have hpl := (Bill.ok_iff.1 hao.b).2.2.2.2.2.1
  have hbk := hao.b
  have hp := hao.paid
  have hp1 : a.paid ≤ 500000000000 := by omega
  have le0 := h.le
  have B0 := Lib.hid h
  have A0 := Lib.hid hA
  have TT0 := Lib.hid (Turn.refl [gc, g] base w (ev := ev))
  obtain ⟨w0, hw0⟩ : ∃ w0, w0 = w := ⟨_, rfl⟩
  obtain ⟨ev0, hev0⟩ : ∃ ev0, ev0 = ev := ⟨_, rfl⟩
  subst hw0 hev0
  clear h hA
  cases hc : comesR V.ts a.b with
  | none =>
    have HR : Hid (voucherD V es a x = .error 3) := Lib.hid (by unfold voucherD; rw [hc])
    have HC : Hid (RetC (comesT (comesR V.ts a.b)) = .returned (.tuple #[.int .i64 0, .int .i64 0, .int .i64 3])) := Lib.hid (by rw [hc]; rfl)
    clear hc
    rw [HR.out]
    go_enter Tryz.func110, Tryz.ntmps110
    go_wp2_with fail
    refine name_calls (fun w1 hw1 => ?_)
    have b1 : Below w0.heap.size w0 w1 := by rw [hw1]; exact (by repeat' (first | (with_reducible exact Below.refl _ _) | (with_reducible assumption) | (with_reducible refine below_drewN ?_ _) | (with_reducible refine Below.drew ?_) | (with_reducible refine below_regrown_up _ _ ?_ ?_) | (with_reducible refine Below.alloc ?_ ?_ _) | (with_reducible refine Below.setCell ?_ ?_ _) | (with_reducible refine below_up ?_ ?_ (by assumption)) | (with_reducible exact Nat.le_refl _) | omega | (simp; done) | (simp; omega)))
    have z1 := b1.size
    clear hw1
    have B1 := Lib.hid (B0.out.up b1)
    have A1 := Lib.hid (A0.out.up b1)
    have TT1 := Lib.hid (TT0.out.up b1 B0.out.le)
    have le1 := B1.out.le
    refine (comes_any gc gm base V At ct es x.day ev0 g a L w1 B1.out A1.out (HTS.out _ b1) (by omega) htl hbk).mono ?_
    rintro e w2 ⟨he, b2⟩
    rw [HC.out] at he
    subst he
    have B2 := Lib.hid (B1.out.up b2)
    have A2 := Lib.hid (A1.out.up b2)
    have TT2 := Lib.hid (TT1.out.up b2 B1.out.le)
    have le2 := B2.out.le
    go_wp2_with fail
    go_ret
    exact ⟨rfl, ⟨_, B2.out, TT2.out⟩, A2.out⟩
  | some q =>
    obtain ⟨tx, c⟩ := q
    have hbd := comes_bd hbk hc
    have hwm : IntKind.i64.wrap (c - a.paid) = c - a.paid := IntWalk.i64_in _ (by omega)
    have HC : Hid (RetC (comesT (comesR V.ts a.b)) = .returned (.tuple #[.int .i64 tx, .int .i64 c, .int .i64 0])) := Lib.hid (by rw [hc]; rfl)
    have HR : Hid (∀ m, min x.cents (c - a.paid) = m → voucherD V es a x = .ok (mvE x.day (guestA a.b.stay) 600 m a.b.stay es, { a with paid := a.paid + m })) := Lib.hid (fun m hm => by unfold voucherD; rw [hc, ← hm])
    clear hc
    by_cases hmin : x.cents ≤ c - a.paid
    · rw [HR.out (x.cents) (by omega)]
      have hwp : IntKind.i64.wrap (a.paid + (x.cents)) = a.paid + (x.cents) := IntWalk.i64_in _ (by omega)
      go_enter Tryz.func110, Tryz.ntmps110
      go_wp2_with fail
      refine name_calls (fun w1 hw1' => ?_)
      have b1 : Below w0.heap.size w0 w1 := by rw [hw1']; exact (by repeat' (first | (with_reducible exact Below.refl _ _) | (with_reducible assumption) | (with_reducible refine below_drewN ?_ _) | (with_reducible refine Below.drew ?_) | (with_reducible refine below_regrown_up _ _ ?_ ?_) | (with_reducible refine Below.alloc ?_ ?_ _) | (with_reducible refine Below.setCell ?_ ?_ _) | (with_reducible refine below_up ?_ ?_ (by assumption)) | (with_reducible exact Nat.le_refl _) | omega | (simp; done) | (simp; omega)))
      have z1 : w1.heap.size = w0.heap.size + 1 := by rw [hw1']; simp
      have y3 : w1.cell? ⟨w0.heap.size, 3, none⟩ = some (.int .i64 x.cents) := by rw [hw1']; go_simp
      clear hw1'
      have B1 := Lib.hid (B0.out.up b1)
      have A1 := Lib.hid (A0.out.up b1)
      have TT1 := Lib.hid (TT0.out.up b1 B0.out.le)
      have le1 := B1.out.le
      refine (comes_any gc gm base V At ct es x.day ev0 g a L w1 B1.out A1.out (HTS.out _ b1) (by omega) htl hbk).mono ?_
      rintro e w2 ⟨he, b2⟩
      rw [HC.out] at he
      subst he
      have B2 := Lib.hid (B1.out.up b2)
      have A2 := Lib.hid (A1.out.up b2)
      have TT2 := Lib.hid (TT1.out.up b2 B1.out.le)
      have le2 := B2.out.le
      have y3' : w2.cell? ⟨w0.heap.size, 3, none⟩ = some (.int .i64 x.cents) := (b2.cell (p := ⟨w0.heap.size, 3, none⟩) (by show w0.heap.size < _; omega)).trans y3
      have lx2 : w0.heap.size < w2.heap.size := by have := b2.size; omega
      clear y3
      obtain ⟨ev2, hev2⟩ : ∃ ev2, ev2 = ev0 := ⟨_, rfl⟩
      subst hev2
      have c0 : w2.cell? ⟨g, 0, none⟩ = some (.int .i64 a.b.stay) := (A2.out).cell 0
      have c1 : w2.cell? ⟨g, 1, none⟩ = some (.int .i64 a.b.channel) := (A2.out).cell 1
      have c2 : w2.cell? ⟨g, 2, none⟩ = some (.int .i64 a.b.place) := (A2.out).cell 2
      have c3 : w2.cell? ⟨g, 3, none⟩ = some (.int .i64 a.b.kind) := (A2.out).cell 3
      have c4 : w2.cell? ⟨g, 4, none⟩ = some (.int .i64 a.b.frm) := (A2.out).cell 4
      have c5 : w2.cell? ⟨g, 5, none⟩ = some (.int .i64 a.b.til) := (A2.out).cell 5
      have c6 : w2.cell? ⟨g, 6, none⟩ = some (.int .i64 a.b.persons) := (A2.out).cell 6
      have c7 : w2.cell? ⟨g, 7, none⟩ = some (.int .i64 a.b.price) := (A2.out).cell 7
      have c8 : w2.cell? ⟨g, 8, none⟩ = some (.int .i64 a.b.keep) := (A2.out).cell 8
      have c9 : w2.cell? ⟨g, 9, none⟩ = some (.int .i64 a.st) := (A2.out).cell 9
      have c10 : w2.cell? ⟨g, 10, none⟩ = some (.int .i64 a.paid) := (A2.out).cell 10
      have f9 := (A2.out).free 9
      have f10 := (A2.out).free 10
      have lg := (A2.out).lt
      have lgc : gc < w2.heap.size := Nat.lt_of_lt_of_le hgc (by assumption)
      go_wp2_with fail
      go_quiet (fail)
      go_wp2_with fail
      refine wp_region_still_tail 15 (by kernel_rfl) (by kernel_rfl) ?_
      change wpStill _ _ (World.drew _) _ _ _
      simp only [List.take_succ_cons, List.take_zero, List.drop_succ_cons, List.drop_zero]
      repeat (first | still_step | (still_call (still_w (guest_any _ _ (by omega) (by omega)))))
      refine wpStill_nil ?_
      change wpList _ _ _ _ _ (World.drew _)
      go_wp2_with fail
      refine (move_any gc gm base V At ct es x.day ev2 (guestA a.b.stay) 600 (x.cents) a.b.stay _ (B2.out.up (by repeat' (first | (with_reducible exact Below.refl _ _) | (with_reducible assumption) | (with_reducible refine below_drewN ?_ _) | (with_reducible refine Below.drew ?_) | (with_reducible refine below_regrown_up _ _ ?_ ?_) | (with_reducible refine Below.alloc ?_ ?_ _) | (with_reducible refine Below.setCell ?_ ?_ _) | (with_reducible refine below_up ?_ ?_ (by assumption)) | (with_reducible exact Nat.le_refl _) | omega | (simp; done) | (simp; omega)))) (by omega)).mono ?_
      rintro e w3 ⟨rfl, ⟨ev3, B'3, T'3⟩, P'3⟩
      have A3 := Lib.hid (T'3.acc (A2.out.up (by repeat' (first | (with_reducible exact Below.refl _ _) | (with_reducible assumption) | (with_reducible refine below_drewN ?_ _) | (with_reducible refine Below.drew ?_) | (with_reducible refine below_regrown_up _ _ ?_ ?_) | (with_reducible refine Below.alloc ?_ ?_ _) | (with_reducible refine Below.setCell ?_ ?_ _) | (with_reducible refine below_up ?_ ?_ (by assumption)) | (with_reducible exact Nat.le_refl _) | omega | (simp; done) | (simp; omega)))) hg (by simpa using hne))
      have TT3 := Lib.hid ((TT2.out.up (by repeat' (first | (with_reducible exact Below.refl _ _) | (with_reducible assumption) | (with_reducible refine below_drewN ?_ _) | (with_reducible refine Below.drew ?_) | (with_reducible refine below_regrown_up _ _ ?_ ?_) | (with_reducible refine Below.alloc ?_ ?_ _) | (with_reducible refine Below.setCell ?_ ?_ _) | (with_reducible refine below_up ?_ ?_ (by assumption)) | (with_reducible exact Nat.le_refl _) | omega | (simp; done) | (simp; omega))) B2.out.le).trans (T'3.more (by simp)))
      have B3 := Lib.hid B'3
      have le3 := B'3.le
      clear B'3 T'3 P'3
      clear c0 c1 c2 c3 c4 c5 c6 c7 c8 c9 c10 f9 f10 lg lgc
      have c0 : w3.cell? ⟨g, 0, none⟩ = some (.int .i64 a.b.stay) := (A3.out).cell 0
      have c1 : w3.cell? ⟨g, 1, none⟩ = some (.int .i64 a.b.channel) := (A3.out).cell 1
      have c2 : w3.cell? ⟨g, 2, none⟩ = some (.int .i64 a.b.place) := (A3.out).cell 2
      have c3 : w3.cell? ⟨g, 3, none⟩ = some (.int .i64 a.b.kind) := (A3.out).cell 3
      have c4 : w3.cell? ⟨g, 4, none⟩ = some (.int .i64 a.b.frm) := (A3.out).cell 4
      have c5 : w3.cell? ⟨g, 5, none⟩ = some (.int .i64 a.b.til) := (A3.out).cell 5
      have c6 : w3.cell? ⟨g, 6, none⟩ = some (.int .i64 a.b.persons) := (A3.out).cell 6
      have c7 : w3.cell? ⟨g, 7, none⟩ = some (.int .i64 a.b.price) := (A3.out).cell 7
      have c8 : w3.cell? ⟨g, 8, none⟩ = some (.int .i64 a.b.keep) := (A3.out).cell 8
      have c9 : w3.cell? ⟨g, 9, none⟩ = some (.int .i64 a.st) := (A3.out).cell 9
      have c10 : w3.cell? ⟨g, 10, none⟩ = some (.int .i64 a.paid) := (A3.out).cell 10
      have f9 := (A3.out).free 9
      have f10 := (A3.out).free 10
      have lg := (A3.out).lt
      have lgc : gc < w3.heap.size := Nat.lt_of_lt_of_le hgc (by assumption)
      go_wp2_with fail
      go_ret
      exact ⟨rfl, ⟨ev3, B3.out.set hg hne 10 _, TT3.out.set (g := g) (by simp) _⟩, A3.out.set (o := 10) (v := .int .i64 (a.paid + (x.cents))) rfl⟩
    · rw [HR.out (c - a.paid) (by omega)]
      have hwp : IntKind.i64.wrap (a.paid + (c - a.paid)) = a.paid + (c - a.paid) := IntWalk.i64_in _ (by omega)
      go_enter Tryz.func110, Tryz.ntmps110
      go_wp2_with fail
      refine name_calls (fun w1 hw1' => ?_)
      have b1 : Below w0.heap.size w0 w1 := by rw [hw1']; exact (by repeat' (first | (with_reducible exact Below.refl _ _) | (with_reducible assumption) | (with_reducible refine below_drewN ?_ _) | (with_reducible refine Below.drew ?_) | (with_reducible refine below_regrown_up _ _ ?_ ?_) | (with_reducible refine Below.alloc ?_ ?_ _) | (with_reducible refine Below.setCell ?_ ?_ _) | (with_reducible refine below_up ?_ ?_ (by assumption)) | (with_reducible exact Nat.le_refl _) | omega | (simp; done) | (simp; omega)))
      have z1 : w1.heap.size = w0.heap.size + 1 := by rw [hw1']; simp
      have y3 : w1.cell? ⟨w0.heap.size, 3, none⟩ = some (.int .i64 x.cents) := by rw [hw1']; go_simp
      clear hw1'
      have B1 := Lib.hid (B0.out.up b1)
      have A1 := Lib.hid (A0.out.up b1)
      have TT1 := Lib.hid (TT0.out.up b1 B0.out.le)
      have le1 := B1.out.le
      refine (comes_any gc gm base V At ct es x.day ev0 g a L w1 B1.out A1.out (HTS.out _ b1) (by omega) htl hbk).mono ?_
      rintro e w2 ⟨he, b2⟩
      rw [HC.out] at he
      subst he
      have B2 := Lib.hid (B1.out.up b2)
      have A2 := Lib.hid (A1.out.up b2)
      have TT2 := Lib.hid (TT1.out.up b2 B1.out.le)
      have le2 := B2.out.le
      have y3' : w2.cell? ⟨w0.heap.size, 3, none⟩ = some (.int .i64 x.cents) := (b2.cell (p := ⟨w0.heap.size, 3, none⟩) (by show w0.heap.size < _; omega)).trans y3
      have lx2 : w0.heap.size < w2.heap.size := by have := b2.size; omega
      clear y3
      obtain ⟨ev2, hev2⟩ : ∃ ev2, ev2 = ev0 := ⟨_, rfl⟩
      subst hev2
      have c0 : w2.cell? ⟨g, 0, none⟩ = some (.int .i64 a.b.stay) := (A2.out).cell 0
      have c1 : w2.cell? ⟨g, 1, none⟩ = some (.int .i64 a.b.channel) := (A2.out).cell 1
      have c2 : w2.cell? ⟨g, 2, none⟩ = some (.int .i64 a.b.place) := (A2.out).cell 2
      have c3 : w2.cell? ⟨g, 3, none⟩ = some (.int .i64 a.b.kind) := (A2.out).cell 3
      have c4 : w2.cell? ⟨g, 4, none⟩ = some (.int .i64 a.b.frm) := (A2.out).cell 4
      have c5 : w2.cell? ⟨g, 5, none⟩ = some (.int .i64 a.b.til) := (A2.out).cell 5
      have c6 : w2.cell? ⟨g, 6, none⟩ = some (.int .i64 a.b.persons) := (A2.out).cell 6
      have c7 : w2.cell? ⟨g, 7, none⟩ = some (.int .i64 a.b.price) := (A2.out).cell 7
      have c8 : w2.cell? ⟨g, 8, none⟩ = some (.int .i64 a.b.keep) := (A2.out).cell 8
      have c9 : w2.cell? ⟨g, 9, none⟩ = some (.int .i64 a.st) := (A2.out).cell 9
      have c10 : w2.cell? ⟨g, 10, none⟩ = some (.int .i64 a.paid) := (A2.out).cell 10
      have f9 := (A2.out).free 9
      have f10 := (A2.out).free 10
      have lg := (A2.out).lt
      have lgc : gc < w2.heap.size := Nat.lt_of_lt_of_le hgc (by assumption)
      go_wp2_with fail
      go_quiet (fail)
      go_wp2_with fail
      refine wp_region_still_tail 15 (by kernel_rfl) (by kernel_rfl) ?_
      change wpStill _ _ (World.drew _) _ _ _
      simp only [List.take_succ_cons, List.take_zero, List.drop_succ_cons, List.drop_zero]
      repeat (first | still_step | (still_call (still_w (guest_any _ _ (by omega) (by omega)))))
      refine wpStill_nil ?_
      change wpList _ _ _ _ _ (World.drew _)
      go_wp2_with fail
      refine (move_any gc gm base V At ct es x.day ev2 (guestA a.b.stay) 600 (c - a.paid) a.b.stay _ (B2.out.up (by repeat' (first | (with_reducible exact Below.refl _ _) | (with_reducible assumption) | (with_reducible refine below_drewN ?_ _) | (with_reducible refine Below.drew ?_) | (with_reducible refine below_regrown_up _ _ ?_ ?_) | (with_reducible refine Below.alloc ?_ ?_ _) | (with_reducible refine Below.setCell ?_ ?_ _) | (with_reducible refine below_up ?_ ?_ (by assumption)) | (with_reducible exact Nat.le_refl _) | omega | (simp; done) | (simp; omega)))) (by omega)).mono ?_
      rintro e w3 ⟨rfl, ⟨ev3, B'3, T'3⟩, P'3⟩
      have A3 := Lib.hid (T'3.acc (A2.out.up (by repeat' (first | (with_reducible exact Below.refl _ _) | (with_reducible assumption) | (with_reducible refine below_drewN ?_ _) | (with_reducible refine Below.drew ?_) | (with_reducible refine below_regrown_up _ _ ?_ ?_) | (with_reducible refine Below.alloc ?_ ?_ _) | (with_reducible refine Below.setCell ?_ ?_ _) | (with_reducible refine below_up ?_ ?_ (by assumption)) | (with_reducible exact Nat.le_refl _) | omega | (simp; done) | (simp; omega)))) hg (by simpa using hne))
      have TT3 := Lib.hid ((TT2.out.up (by repeat' (first | (with_reducible exact Below.refl _ _) | (with_reducible assumption) | (with_reducible refine below_drewN ?_ _) | (with_reducible refine Below.drew ?_) | (with_reducible refine below_regrown_up _ _ ?_ ?_) | (with_reducible refine Below.alloc ?_ ?_ _) | (with_reducible refine Below.setCell ?_ ?_ _) | (with_reducible refine below_up ?_ ?_ (by assumption)) | (with_reducible exact Nat.le_refl _) | omega | (simp; done) | (simp; omega))) B2.out.le).trans (T'3.more (by simp)))
      have B3 := Lib.hid B'3
      have le3 := B'3.le
      clear B'3 T'3 P'3
      clear c0 c1 c2 c3 c4 c5 c6 c7 c8 c9 c10 f9 f10 lg lgc
      have c0 : w3.cell? ⟨g, 0, none⟩ = some (.int .i64 a.b.stay) := (A3.out).cell 0
      have c1 : w3.cell? ⟨g, 1, none⟩ = some (.int .i64 a.b.channel) := (A3.out).cell 1
      have c2 : w3.cell? ⟨g, 2, none⟩ = some (.int .i64 a.b.place) := (A3.out).cell 2
      have c3 : w3.cell? ⟨g, 3, none⟩ = some (.int .i64 a.b.kind) := (A3.out).cell 3
      have c4 : w3.cell? ⟨g, 4, none⟩ = some (.int .i64 a.b.frm) := (A3.out).cell 4
      have c5 : w3.cell? ⟨g, 5, none⟩ = some (.int .i64 a.b.til) := (A3.out).cell 5
      have c6 : w3.cell? ⟨g, 6, none⟩ = some (.int .i64 a.b.persons) := (A3.out).cell 6
      have c7 : w3.cell? ⟨g, 7, none⟩ = some (.int .i64 a.b.price) := (A3.out).cell 7
      have c8 : w3.cell? ⟨g, 8, none⟩ = some (.int .i64 a.b.keep) := (A3.out).cell 8
      have c9 : w3.cell? ⟨g, 9, none⟩ = some (.int .i64 a.st) := (A3.out).cell 9
      have c10 : w3.cell? ⟨g, 10, none⟩ = some (.int .i64 a.paid) := (A3.out).cell 10
      have f9 := (A3.out).free 9
      have f10 := (A3.out).free 10
      have lg := (A3.out).lt
      have lgc : gc < w3.heap.size := Nat.lt_of_lt_of_le hgc (by assumption)
      go_wp2_with fail
      go_ret
      exact ⟨rfl, ⟨ev3, B3.out.set hg hne 10 _, TT3.out.set (g := g) (by simp) _⟩, A3.out.set (o := 10) (v := .int .i64 (a.paid + (c - a.paid))) rfl⟩
end Go.Proofs.YtmlhoojcdidgkaaGreat
