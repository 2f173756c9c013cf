/-
  Texts, one behind the other: FoW7.
-/
import Derived.Test.YtmlhoojcdidgkaaGreatM18
import Derived.Test.YtmlhoojcdidgkaaGreatM19
/-
  Package folio: deeds (cancelled, paid).
-/
namespace Go.Proofs.YtmlhoojcdidgkaaGreat
set_option linter.unusedSimpArgs false
set_option linter.unusedVariables false
open Go.RowKit
open Go.Sort (grow size_grow)


set_option maxHeartbeats 4000000
set_option maxRecDepth 100000
theorem cancel_any (gc gm base : Nat) (V : Env) (At : Option Addr) (ct : Nat) (es : List Entry) (ev : Value) (g : Nat) (a : Acc) (x : Deed) (n : Nat) (w : World) (h : Bk w gc gm base V At ct es x.day ev) (hA : AccIn w g a) (hg : g < base) (hne : g ≠ gc)
    (hl : es.length ≤ 3000) (hao : AccOk a n) (hn : n ≤ 500) :
    Calls Tryz.prog 111 #[.pointer (some ⟨gc, 0, none⟩), .pointer (some ⟨g, 0, none⟩), x.v] w (Done gc gm base V At ct x.day ev g (.ok (cancelD es a x)) es a w) := by
  have c9 : w.cell? ⟨g, 9, none⟩ = some (.int .i64 a.st) := hA.cell 9
  have f9 := hA.free 9
  have lg := hA.lt
  have hgc := h.lt
  have hs := (Bill.ok_iff.1 hao.b).2.2.2.1
  have hch := (Bill.ok_iff.1 hao.b).2.2.2.2.1
  have hpl := (Bill.ok_iff.1 hao.b).2.2.2.2.2.1
  have hbk := hao.b
  have hp := hao.paid
  have hp1 : a.paid ≤ 500000000000 := by omega
  have le0 := h.le
  have B0 := Lib.hid h
  have A0 := Lib.hid hA
  have TT0 := Lib.hid (Turn.refl [gc, g] base w (ev := ev))
  obtain ⟨w0, hw0⟩ : ∃ w0, w0 = w := ⟨_, rfl⟩
  obtain ⟨ev0, hev0⟩ : ∃ ev0, ev0 = ev := ⟨_, rfl⟩
  subst hw0 hev0
  clear h hA
  cases hd : a.b.direct
  · have HR : Hid (cancelD es a x = (mvE x.day (300 + a.b.place) (payerA a.b) a.b.keep a.b.stay es, { a with st := 4 })) := Lib.hid (by unfold cancelD; rw [hd]; rfl)
    rw [HR.out]
    go_enter Tryz.func111, Tryz.ntmps111
    go_wp2_with fail
    refine name_calls (fun w1 hw1' => ?_)
    have B1 : Hid (Bk w1 gc gm base V At ct es x.day ev0) := Lib.hid (by rw [hw1']; exact (B0.out.set hg hne 9 _).up (by repeat' (first | (with_reducible exact Below.refl _ _) | (with_reducible assumption) | (with_reducible refine below_drewN ?_ _) | (with_reducible refine Below.drew ?_) | (with_reducible refine below_regrown_up _ _ ?_ ?_) | (with_reducible refine Below.alloc ?_ ?_ _) | (with_reducible refine Below.setCell ?_ ?_ _) | (with_reducible refine below_up ?_ ?_ (by assumption)) | (with_reducible exact Nat.le_refl _) | omega | (simp; done) | (simp; omega))))
    have A1 : Hid (AccIn w1 g { a with st := 4 }) := Lib.hid (by rw [hw1']; exact (A0.out.set (o := 9) (v := .int .i64 4) rfl).up (by repeat' (first | (with_reducible exact Below.refl _ _) | (with_reducible assumption) | (with_reducible refine below_drewN ?_ _) | (with_reducible refine Below.drew ?_) | (with_reducible refine below_regrown_up _ _ ?_ ?_) | (with_reducible refine Below.alloc ?_ ?_ _) | (with_reducible refine Below.setCell ?_ ?_ _) | (with_reducible refine below_up ?_ ?_ (by assumption)) | (with_reducible exact Nat.le_refl _) | omega | (simp; done) | (simp; omega))))
    have TT1 : Hid (Turn [gc, g] base ev0 ev0 w0 w1) := Lib.hid (by rw [hw1']; exact (TT0.out.set (g := g) (by simp) _).up (by repeat' (first | (with_reducible exact Below.refl _ _) | (with_reducible assumption) | (with_reducible refine below_drewN ?_ _) | (with_reducible refine Below.drew ?_) | (with_reducible refine below_regrown_up _ _ ?_ ?_) | (with_reducible refine Below.alloc ?_ ?_ _) | (with_reducible refine Below.setCell ?_ ?_ _) | (with_reducible refine below_up ?_ ?_ (by assumption)) | (with_reducible exact Nat.le_refl _) | omega | (simp; done) | (simp; omega))) (by simp [World.setCell]; exact B0.out.le))
    have y1 : w1.cell? ⟨w0.heap.size, 1, none⟩ = some (.int .i64 x.day) := by rw [hw1']; go_simp
    have ly : w0.heap.size < w1.heap.size := by rw [hw1']; simp [World.setCell]
    have le1 := B1.out.le
    clear hw1' c9 f9 lg
    have c0 : w1.cell? ⟨g, 0, none⟩ = some (.int .i64 a.b.stay) := A1.out.cell 0
    have c1 : w1.cell? ⟨g, 1, none⟩ = some (.int .i64 a.b.channel) := A1.out.cell 1
    have c2 : w1.cell? ⟨g, 2, none⟩ = some (.int .i64 a.b.place) := A1.out.cell 2
    have c3 : w1.cell? ⟨g, 3, none⟩ = some (.int .i64 a.b.kind) := A1.out.cell 3
    have c4 : w1.cell? ⟨g, 4, none⟩ = some (.int .i64 a.b.frm) := A1.out.cell 4
    have c5 : w1.cell? ⟨g, 5, none⟩ = some (.int .i64 a.b.til) := A1.out.cell 5
    have c6 : w1.cell? ⟨g, 6, none⟩ = some (.int .i64 a.b.persons) := A1.out.cell 6
    have c7 : w1.cell? ⟨g, 7, none⟩ = some (.int .i64 a.b.price) := A1.out.cell 7
    have c8 : w1.cell? ⟨g, 8, none⟩ = some (.int .i64 a.b.keep) := A1.out.cell 8
    have c10 : w1.cell? ⟨g, 10, none⟩ = some (.int .i64 a.paid) := A1.out.cell 10
    have lg := A1.out.lt
    have lgc : gc < w1.heap.size := Nat.lt_of_lt_of_le hgc le1
    refine (direct_any g { a with st := 4 } _ A1.out).mono ?_
    rintro e w' ⟨rfl, rfl⟩
    rw [hd]
    go_wp2_with fail
    obtain ⟨ev1, hev1⟩ : ∃ ev1, ev1 = ev0 := ⟨_, rfl⟩
    subst hev1
    refine wp_region_still_tail 17 (by kernel_rfl) (by kernel_rfl) ?_
    change wpStill _ _ (World.drew _) _ _ _
    simp only [List.take_succ_cons, List.take_zero, List.drop_succ_cons, List.drop_zero]
    repeat (first | still_step | (first | still_call (still_w (house_any g { a with st := 4 } _ (by exact A1.out) hbk)) | still_call (still_w (payer_any g { a with st := 4 } _ (by exact A1.out) hbk))))
    refine wpStill_nil ?_
    change wpList _ _ _ _ _ (World.drew _)
    go_wp2_with fail
    refine (move_any gc gm base V At ct es x.day ev1 (300 + a.b.place) (payerA a.b) a.b.keep a.b.stay _ (B1.out.up (by repeat' (first | (with_reducible exact Below.refl _ _) | (with_reducible assumption) | (with_reducible refine below_drewN ?_ _) | (with_reducible refine Below.drew ?_) | (with_reducible refine below_regrown_up _ _ ?_ ?_) | (with_reducible refine Below.alloc ?_ ?_ _) | (with_reducible refine Below.setCell ?_ ?_ _) | (with_reducible refine below_up ?_ ?_ (by assumption)) | (with_reducible exact Nat.le_refl _) | omega | (simp; done) | (simp; omega)))) (by omega)).mono ?_
    rintro e w2 ⟨rfl, ⟨ev2, B'2, T'2⟩, P'2⟩
    have A2 := Lib.hid (T'2.acc (A1.out.up (by repeat' (first | (with_reducible exact Below.refl _ _) | (with_reducible assumption) | (with_reducible refine below_drewN ?_ _) | (with_reducible refine Below.drew ?_) | (with_reducible refine below_regrown_up _ _ ?_ ?_) | (with_reducible refine Below.alloc ?_ ?_ _) | (with_reducible refine Below.setCell ?_ ?_ _) | (with_reducible refine below_up ?_ ?_ (by assumption)) | (with_reducible exact Nat.le_refl _) | omega | (simp; done) | (simp; omega)))) hg (by simpa using hne))
    have TT2 := Lib.hid ((TT1.out.up (by repeat' (first | (with_reducible exact Below.refl _ _) | (with_reducible assumption) | (with_reducible refine below_drewN ?_ _) | (with_reducible refine Below.drew ?_) | (with_reducible refine below_regrown_up _ _ ?_ ?_) | (with_reducible refine Below.alloc ?_ ?_ _) | (with_reducible refine Below.setCell ?_ ?_ _) | (with_reducible refine below_up ?_ ?_ (by assumption)) | (with_reducible exact Nat.le_refl _) | omega | (simp; done) | (simp; omega))) B1.out.le).trans (T'2.more (by simp)))
    have B2 := Lib.hid B'2
    have le2 := B'2.le
    clear B'2 T'2 P'2
    go_wp2_with fail
    go_ret
    exact ⟨rfl, ⟨ev2, B2.out, TT2.out⟩, A2.out⟩
  · obtain ⟨r, er, hr⟩ : ∃ r er, entriesR a.b a.paid x.day = (r, er) := ⟨_, _, rfl⟩
    have hrl : r.length ≤ 2 := by
      have : r = (entriesR a.b a.paid x.day).1 := by rw [hr]
      rw [this]
      unfold entriesR
      split
      · simp
      · exact entriesL_len _ _ _ _
    have HR : Hid (cancelD es a x = (es ++ r, { a with st := 4 })) := Lib.hid (by unfold cancelD; rw [hd, hr]; rfl)
    have HE : Hid (∀ W, Calls Tryz.prog 128 #[a.b.v, .int .i64 a.paid, .int .i64 x.day] W fun e w' => (∃ A c, e = .returned (.tuple #[.slice A r.length c, .int .i64 er]) ∧ r.length ≤ c ∧ SlEnt w' A r) ∧ Below W.heap.size W w') := Lib.hid (fun W => by
      have := entries_any a.b a.paid x.day W
      rw [hr] at this
      exact this)
    clear hr
    rw [HR.out]
    go_enter Tryz.func111, Tryz.ntmps111
    go_wp2_with fail
    refine name_calls (fun w1 hw1' => ?_)
    have B1 : Hid (Bk w1 gc gm base V At ct es x.day ev0) := Lib.hid (by rw [hw1']; exact (B0.out.set hg hne 9 _).up (by repeat' (first | (with_reducible exact Below.refl _ _) | (with_reducible assumption) | (with_reducible refine below_drewN ?_ _) | (with_reducible refine Below.drew ?_) | (with_reducible refine below_regrown_up _ _ ?_ ?_) | (with_reducible refine Below.alloc ?_ ?_ _) | (with_reducible refine Below.setCell ?_ ?_ _) | (with_reducible refine below_up ?_ ?_ (by assumption)) | (with_reducible exact Nat.le_refl _) | omega | (simp; done) | (simp; omega))))
    have A1 : Hid (AccIn w1 g { a with st := 4 }) := Lib.hid (by rw [hw1']; exact (A0.out.set (o := 9) (v := .int .i64 4) rfl).up (by repeat' (first | (with_reducible exact Below.refl _ _) | (with_reducible assumption) | (with_reducible refine below_drewN ?_ _) | (with_reducible refine Below.drew ?_) | (with_reducible refine below_regrown_up _ _ ?_ ?_) | (with_reducible refine Below.alloc ?_ ?_ _) | (with_reducible refine Below.setCell ?_ ?_ _) | (with_reducible refine below_up ?_ ?_ (by assumption)) | (with_reducible exact Nat.le_refl _) | omega | (simp; done) | (simp; omega))))
    have TT1 : Hid (Turn [gc, g] base ev0 ev0 w0 w1) := Lib.hid (by rw [hw1']; exact (TT0.out.set (g := g) (by simp) _).up (by repeat' (first | (with_reducible exact Below.refl _ _) | (with_reducible assumption) | (with_reducible refine below_drewN ?_ _) | (with_reducible refine Below.drew ?_) | (with_reducible refine below_regrown_up _ _ ?_ ?_) | (with_reducible refine Below.alloc ?_ ?_ _) | (with_reducible refine Below.setCell ?_ ?_ _) | (with_reducible refine below_up ?_ ?_ (by assumption)) | (with_reducible exact Nat.le_refl _) | omega | (simp; done) | (simp; omega))) (by simp [World.setCell]; exact B0.out.le))
    have y1 : w1.cell? ⟨w0.heap.size, 1, none⟩ = some (.int .i64 x.day) := by rw [hw1']; go_simp
    have ly : w0.heap.size < w1.heap.size := by rw [hw1']; simp [World.setCell]
    have le1 := B1.out.le
    clear hw1' c9 f9 lg
    have c0 : w1.cell? ⟨g, 0, none⟩ = some (.int .i64 a.b.stay) := A1.out.cell 0
    have c1 : w1.cell? ⟨g, 1, none⟩ = some (.int .i64 a.b.channel) := A1.out.cell 1
    have c2 : w1.cell? ⟨g, 2, none⟩ = some (.int .i64 a.b.place) := A1.out.cell 2
    have c3 : w1.cell? ⟨g, 3, none⟩ = some (.int .i64 a.b.kind) := A1.out.cell 3
    have c4 : w1.cell? ⟨g, 4, none⟩ = some (.int .i64 a.b.frm) := A1.out.cell 4
    have c5 : w1.cell? ⟨g, 5, none⟩ = some (.int .i64 a.b.til) := A1.out.cell 5
    have c6 : w1.cell? ⟨g, 6, none⟩ = some (.int .i64 a.b.persons) := A1.out.cell 6
    have c7 : w1.cell? ⟨g, 7, none⟩ = some (.int .i64 a.b.price) := A1.out.cell 7
    have c8 : w1.cell? ⟨g, 8, none⟩ = some (.int .i64 a.b.keep) := A1.out.cell 8
    have c10 : w1.cell? ⟨g, 10, none⟩ = some (.int .i64 a.paid) := A1.out.cell 10
    have lg := A1.out.lt
    have lgc : gc < w1.heap.size := Nat.lt_of_lt_of_le hgc le1
    refine (direct_any g { a with st := 4 } _ A1.out).mono ?_
    rintro e w' ⟨rfl, rfl⟩
    rw [hd]
    go_wp2_with fail
    go_region_law (go_simp; go_at_call 128; go_loud (refine (HE.out _).mono ?_); rintro e w2 ⟨⟨A2', c2', rfl, _, s2⟩, b2'⟩; have b2 : Below w1.heap.size w1 w2 := ⟨b2'.os, b2'.tape, b2'.output, b2'.size, b2'.block⟩; clear b2')
    all_goals
      have le2 : base ≤ w2.heap.size := Nat.le_trans le1 b2.size
      have B2 := Lib.hid (B1.out.up b2)
      have A2 := Lib.hid (A1.out.up b2)
      have TT2 := Lib.hid (TT1.out.up b2 B1.out.le)
      have q0 : w2.cell? ⟨gc, 0, none⟩ = some ev0 := B2.out.cell 0
      have g0 := B2.out.free 0
      have lgc2 : gc < w2.heap.size := by omega
      clear c0 c1 c2 c3 c4 c5 c6 c7 c8 c10 y1
      go_wp2_with (at_builtin; go_loud (refine wpList_append_all _ rfl (.tmp 52) (.tmp 53) 45 60 rfl base 5 40 Entry.cs elemEnt ent_len ent_one ev0 es rfl B2.out.own A2' c2' _ r rfl s2 (by omega) (by omega) le2 ?_); intro v3 w3 hown3 hgrow3 hat3; obtain ⟨A3, c3, rfl, _, _⟩ := hown3.form; have b3 : Below base w2 w3 := below_push (e := 60) (size := 5) (enc := Entry.cs) (L := es) (Below.refl base w2) B2.out.own hgrow3 le2; have u0 : w3.cell? ⟨gc, 0, none⟩ = some ev0 := (b3.cell (p := ⟨gc, 0, none⟩) hgc).trans q0; have uf : w3.frozen? ⟨gc, 0, none⟩ = false := (b3.frozen (p := ⟨gc, 0, none⟩) hgc).trans g0; have hgat : w3.heap[gc]? = w2.heap[gc]? := b3.block gc hgc; have lgc3 : gc < w3.heap.size := by have := b3.size; omega)
      (try go_wp2_with fail)
      rw [List.length_append] at hown3
      go_ret
      refine ⟨rfl, ⟨.slice A3 (es.length + r.length) c3, ?_, ?_⟩, ?_⟩
      · exact ⟨(heap_setCell_same w3 gc 0 _ _ (.slice A3 (es.length + r.length) c3) (hgat.trans B2.out.at_)).trans rfl, hown3.turn (B := 0) (fun k h1 _ => Below.heap_setCell _ _ _ _ (by show k ≠ gc; omega)) (by simp [World.setCell]), hgc, Nat.le_trans le2 (by have := b3.size; simp [World.setCell]; omega)⟩
      · refine (TT2.out.trans (.grown (ev' := .slice A3 (es.length + r.length) c3) b3 hgrow3 (fun b hb => ?_))).set (g := gc) (by simp) _
        rw [List.length_append] at hat3
        rcases hat3 with h | h
        · exact .inl (h.symm.trans hb)
        · have hx : some w2.heap.size = some b := h.symm.trans hb
          injection hx with hx
          exact .inr (by omega)
      · exact (A2.out.of_eq (b3.block g hg)).far (by exact Ne.symm hne) _
theorem pay_any' (gc gm base : Nat) (V : Env) (At : Option Addr) (ct : Nat) (es : List Entry) (ev : Value) (g : Nat) (a : Acc) (x : Deed) (n : Nat) (L : Nat) (w : World) (h : Bk w gc gm base V At ct es x.day ev) (hA : AccIn w g a) (hg : g < base) (hne : g ≠ gc)
    (hl : es.length ≤ 3000) (hao : AccOk a n) (hn : n ≤ 500) (x0 : 1 ≤ x.cents) (x1 : x.cents ≤ 1000000000) (hce : CentsOk es) (hts : Sl w L 7 Tax.cs At V.ts) (hL : L ≤ w.heap.size) (htl : V.ts.length ≤ 1000000000000) :
    Calls Tryz.prog 109 #[.pointer (some ⟨gc, 0, none⟩), .pointer (some ⟨g, 0, none⟩), x.v] w (Done gc gm base V At ct x.day ev g (payD V es a x) es a w) := by
  have HTS := Lib.hid (fun (W : World) (hb : Below w.heap.size w W) => hts.below (hb.mono hL))
  clear hts
  have hown : some w.heap.size ≠ ev.ownBlock := fun e => by have := (h.own.lt _ e.symm).2; omega
  have hown1 : some (w.heap.size + 1) ≠ ev.ownBlock := fun e => by have := (h.own.lt _ e.symm).2; omega
  have HOWN := Lib.hid (And.intro hown hown1)
  clear hown hown1
  have hgc := h.lt
  have hs := (Bill.ok_iff.1 hao.b).2.2.2.1
  have hch := (Bill.ok_iff.1 hao.b).2.2.2.2.1
  have hpl := (Bill.ok_iff.1 hao.b).2.2.2.2.2.1
  have hbk := hao.b
  have hp := hao.paid
  have hp1 : a.paid ≤ 500000000000 := by omega
  have le0 := h.le
  have B0 := Lib.hid h
  have A0 := Lib.hid hA
  have TT0 := Lib.hid (Turn.refl [gc, g] base w (ev := ev))
  obtain ⟨w0, hw0⟩ : ∃ w0, w0 = w := ⟨_, rfl⟩
  obtain ⟨ev0, hev0⟩ : ∃ ev0, ev0 = ev := ⟨_, rfl⟩
  subst hw0 hev0
  clear h hA
  have HCE := Lib.hid hce
  clear hce
  have hwp : IntKind.i64.wrap (a.paid + x.cents) = a.paid + x.cents := IntWalk.i64_in _ (by omega)
  by_cases h3 : a.st = 3
  · have hst : (a.st != 3) = false := by simpa using h3
    by_cases hm : sumE (payerA a.b) (ownE a.b) es < x.cents
    · have HR : Hid (payD V es a x = .error 41) := Lib.hid (by unfold payD mostR; rw [if_pos h3]; simp only; rw [if_pos hm])
      have hd : decide (sumE (payerA a.b) (ownE a.b) es < x.cents) = true := by simpa using hm
      clear h3
      rw [HR.out]
      go_enter Tryz.func109, Tryz.ntmps109
      go_wp2_with fail
      refine name_world (fun w1 hw1' => ?_)
      have b1 : Below w0.heap.size w0 w1 := by rw [hw1']; exact (by repeat' (first | (with_reducible exact Below.refl _ _) | (with_reducible assumption) | (with_reducible refine below_drewN ?_ _) | (with_reducible refine Below.drew ?_) | (with_reducible refine below_regrown_up _ _ ?_ ?_) | (with_reducible refine Below.alloc ?_ ?_ _) | (with_reducible refine Below.setCell ?_ ?_ _) | (with_reducible refine below_up ?_ ?_ (by assumption)) | (with_reducible exact Nat.le_refl _) | omega | (simp; done) | (simp; omega)))
      have z1 : w1.heap.size = w0.heap.size + 1 + 1 := by rw [hw1']; simp
      have x0' : w1.cell? ⟨w0.heap.size, 0, none⟩ = some (.pointer (some ⟨g, 0, none⟩)) := by rw [hw1']; go_simp
      have y3 : w1.cell? ⟨w0.heap.size + 1, 3, none⟩ = some (.int .i64 x.cents) := by rw [hw1']; go_simp
      have lx1 : w0.heap.size < w1.heap.size := by omega
      have ly1 : w0.heap.size + 1 < w1.heap.size := by omega
      clear hw1'
      have B1 := Lib.hid (B0.out.up b1)
      have A1 := Lib.hid (A0.out.up b1)
      have TT1 := Lib.hid (TT0.out.up b1 B0.out.le)
      have le1 := B1.out.le
      obtain ⟨A, cc, hev, _, _, hsl⟩ := B1.out.own.sl ent_len
      have q0 : w1.cell? ⟨gc, 0, none⟩ = some (.slice A es.length cc) := by rw [← hev]; exact B1.out.cell 0
      have HEV := Lib.hid hev
      have lgc1 : gc < w1.heap.size := by omega
      clear hev z1
      have HSUM := Lib.hid (fun (W : World) (hb : Below w1.heap.size w1 W) => sum_own0 es A cc (payerA a.b) w0.heap.size a.b W (hsl.up hb) (by omega) HCE.out (fun e W' hb' => own1_any e g w0.heap.size a W' ((A1.out.up hb).up hb') (((hb.trans (hb'.mono hb.size)).cell (p := ⟨w0.heap.size, 0, none⟩) lx1).trans x0') (by have := hb.size; have := hb'.size; omega)))
      have hgr := regrown_cells w1 (B := w1.heap.size) (by omega)
      refine wp_region_quiet_below (by kernel_rfl) (by kernel_rfl) ?_
      repeat (quiet_step ((first | (go_at_call 123; exact quiet_s (payer_any g a _ (A1.out.up (below_regrown _ _ _)) hbk)) | (go_at_call 105; exact quiet_b (HSUM.out _ (below_regrown _ _ _))))))
      refine wpQuiet_nil ?_
      intro _ hw'
      obtain ⟨⟨dq, osq⟩, hw''⟩ := hw'
      subst hw''
      have hb2 := below_regrown w1 dq osq
      clear hgr
      generalize grow (redrawn w1 dq) osq = w2 at hb2 ⊢
      have hz2 := hb2.size
      (try simp only [World.size_alloc, World.size_setCell, World.size_drew, size_drewN', size_grow, size_redrawn] at hz2)
      obtain ⟨hc2, hf2⟩ := bcellB (B := w1.heap.size) hb2 (by first | omega | (simp only [World.size_alloc, World.size_setCell, World.size_drew, size_drewN', size_grow, size_redrawn]; omega))
      have b2 := hb2
      have x02 : w2.cell? ⟨w0.heap.size, 0, none⟩ = some (.pointer (some ⟨g, 0, none⟩)) := (b2.cell (p := ⟨w0.heap.size, 0, none⟩) lx1).trans x0'
      have y32 : w2.cell? ⟨w0.heap.size + 1, 3, none⟩ = some (.int .i64 x.cents) := (b2.cell (p := ⟨w0.heap.size + 1, 3, none⟩) ly1).trans y3
      have lx2 : w0.heap.size < w2.heap.size := by have := b2.size; omega
      have ly2 : w0.heap.size + 1 < w2.heap.size := by have := b2.size; omega
      clear hc2 hf2 q0 x0' y3 hsl HSUM lgc1
      have B2 := Lib.hid (B1.out.up b2)
      have A2 := Lib.hid (A1.out.up b2)
      have TT2 := Lib.hid (TT1.out.up b2 B1.out.le)
      have le2 := B2.out.le
      have c0 : w2.cell? ⟨g, 0, none⟩ = some (.int .i64 a.b.stay) := (A2.out).cell 0
      have c1 : w2.cell? ⟨g, 1, none⟩ = some (.int .i64 a.b.channel) := (A2.out).cell 1
      have c2 : w2.cell? ⟨g, 2, none⟩ = some (.int .i64 a.b.place) := (A2.out).cell 2
      have c3 : w2.cell? ⟨g, 3, none⟩ = some (.int .i64 a.b.kind) := (A2.out).cell 3
      have c4 : w2.cell? ⟨g, 4, none⟩ = some (.int .i64 a.b.frm) := (A2.out).cell 4
      have c5 : w2.cell? ⟨g, 5, none⟩ = some (.int .i64 a.b.til) := (A2.out).cell 5
      have c6 : w2.cell? ⟨g, 6, none⟩ = some (.int .i64 a.b.persons) := (A2.out).cell 6
      have c7 : w2.cell? ⟨g, 7, none⟩ = some (.int .i64 a.b.price) := (A2.out).cell 7
      have c8 : w2.cell? ⟨g, 8, none⟩ = some (.int .i64 a.b.keep) := (A2.out).cell 8
      have c9 : w2.cell? ⟨g, 9, none⟩ = some (.int .i64 a.st) := (A2.out).cell 9
      have c10 : w2.cell? ⟨g, 10, none⟩ = some (.int .i64 a.paid) := (A2.out).cell 10
      have f9 := (A2.out).free 9
      have f10 := (A2.out).free 10
      have lg := (A2.out).lt
      have lgc : gc < w2.heap.size := Nat.lt_of_lt_of_le hgc (by assumption)
      go_wp2_with fail
      go_ret
      exact ⟨rfl, ⟨_, B2.out, TT2.out⟩, A2.out⟩
    · have HR : Hid (payD V es a x = .ok (mvE x.day (payerA a.b) 900 x.cents a.b.stay es, { a with paid := a.paid + x.cents })) := Lib.hid (by unfold payD mostR; rw [if_pos h3]; simp only; rw [if_neg hm])
      have hd : decide (sumE (payerA a.b) (ownE a.b) es < x.cents) = false := by simpa using hm
      clear h3
      rw [HR.out]
      go_enter Tryz.func109, Tryz.ntmps109
      go_wp2_with fail
      refine name_world (fun w1 hw1' => ?_)
      have b1 : Below w0.heap.size w0 w1 := by rw [hw1']; exact (by repeat' (first | (with_reducible exact Below.refl _ _) | (with_reducible assumption) | (with_reducible refine below_drewN ?_ _) | (with_reducible refine Below.drew ?_) | (with_reducible refine below_regrown_up _ _ ?_ ?_) | (with_reducible refine Below.alloc ?_ ?_ _) | (with_reducible refine Below.setCell ?_ ?_ _) | (with_reducible refine below_up ?_ ?_ (by assumption)) | (with_reducible exact Nat.le_refl _) | omega | (simp; done) | (simp; omega)))
      have z1 : w1.heap.size = w0.heap.size + 1 + 1 := by rw [hw1']; simp
      have x0' : w1.cell? ⟨w0.heap.size, 0, none⟩ = some (.pointer (some ⟨g, 0, none⟩)) := by rw [hw1']; go_simp
      have y3 : w1.cell? ⟨w0.heap.size + 1, 3, none⟩ = some (.int .i64 x.cents) := by rw [hw1']; go_simp
      have lx1 : w0.heap.size < w1.heap.size := by omega
      have ly1 : w0.heap.size + 1 < w1.heap.size := by omega
      clear hw1'
      have B1 := Lib.hid (B0.out.up b1)
      have A1 := Lib.hid (A0.out.up b1)
      have TT1 := Lib.hid (TT0.out.up b1 B0.out.le)
      have le1 := B1.out.le
      obtain ⟨A, cc, hev, _, _, hsl⟩ := B1.out.own.sl ent_len
      have q0 : w1.cell? ⟨gc, 0, none⟩ = some (.slice A es.length cc) := by rw [← hev]; exact B1.out.cell 0
      have HEV := Lib.hid hev
      have lgc1 : gc < w1.heap.size := by omega
      clear hev z1
      have HSUM := Lib.hid (fun (W : World) (hb : Below w1.heap.size w1 W) => sum_own0 es A cc (payerA a.b) w0.heap.size a.b W (hsl.up hb) (by omega) HCE.out (fun e W' hb' => own1_any e g w0.heap.size a W' ((A1.out.up hb).up hb') (((hb.trans (hb'.mono hb.size)).cell (p := ⟨w0.heap.size, 0, none⟩) lx1).trans x0') (by have := hb.size; have := hb'.size; omega)))
      have hgr := regrown_cells w1 (B := w1.heap.size) (by omega)
      refine wp_region_quiet_below (by kernel_rfl) (by kernel_rfl) ?_
      repeat (quiet_step ((first | (go_at_call 123; exact quiet_s (payer_any g a _ (A1.out.up (below_regrown _ _ _)) hbk)) | (go_at_call 105; exact quiet_b (HSUM.out _ (below_regrown _ _ _))))))
      refine wpQuiet_nil ?_
      intro _ hw'
      obtain ⟨⟨dq, osq⟩, hw''⟩ := hw'
      subst hw''
      have hb2 := below_regrown w1 dq osq
      clear hgr
      generalize grow (redrawn w1 dq) osq = w2 at hb2 ⊢
      have hz2 := hb2.size
      (try simp only [World.size_alloc, World.size_setCell, World.size_drew, size_drewN', size_grow, size_redrawn] at hz2)
      obtain ⟨hc2, hf2⟩ := bcellB (B := w1.heap.size) hb2 (by first | omega | (simp only [World.size_alloc, World.size_setCell, World.size_drew, size_drewN', size_grow, size_redrawn]; omega))
      have b2 := hb2
      have x02 : w2.cell? ⟨w0.heap.size, 0, none⟩ = some (.pointer (some ⟨g, 0, none⟩)) := (b2.cell (p := ⟨w0.heap.size, 0, none⟩) lx1).trans x0'
      have y32 : w2.cell? ⟨w0.heap.size + 1, 3, none⟩ = some (.int .i64 x.cents) := (b2.cell (p := ⟨w0.heap.size + 1, 3, none⟩) ly1).trans y3
      have lx2 : w0.heap.size < w2.heap.size := by have := b2.size; omega
      have ly2 : w0.heap.size + 1 < w2.heap.size := by have := b2.size; omega
      clear hc2 hf2 q0 x0' y3 hsl HSUM lgc1
      have B2 := Lib.hid (B1.out.up b2)
      have A2 := Lib.hid (A1.out.up b2)
      have TT2 := Lib.hid (TT1.out.up b2 B1.out.le)
      have le2 := B2.out.le
      have c0 : w2.cell? ⟨g, 0, none⟩ = some (.int .i64 a.b.stay) := (A2.out).cell 0
      have c1 : w2.cell? ⟨g, 1, none⟩ = some (.int .i64 a.b.channel) := (A2.out).cell 1
      have c2 : w2.cell? ⟨g, 2, none⟩ = some (.int .i64 a.b.place) := (A2.out).cell 2
      have c3 : w2.cell? ⟨g, 3, none⟩ = some (.int .i64 a.b.kind) := (A2.out).cell 3
      have c4 : w2.cell? ⟨g, 4, none⟩ = some (.int .i64 a.b.frm) := (A2.out).cell 4
      have c5 : w2.cell? ⟨g, 5, none⟩ = some (.int .i64 a.b.til) := (A2.out).cell 5
      have c6 : w2.cell? ⟨g, 6, none⟩ = some (.int .i64 a.b.persons) := (A2.out).cell 6
      have c7 : w2.cell? ⟨g, 7, none⟩ = some (.int .i64 a.b.price) := (A2.out).cell 7
      have c8 : w2.cell? ⟨g, 8, none⟩ = some (.int .i64 a.b.keep) := (A2.out).cell 8
      have c9 : w2.cell? ⟨g, 9, none⟩ = some (.int .i64 a.st) := (A2.out).cell 9
      have c10 : w2.cell? ⟨g, 10, none⟩ = some (.int .i64 a.paid) := (A2.out).cell 10
      have f9 := (A2.out).free 9
      have f10 := (A2.out).free 10
      have lg := (A2.out).lt
      have lgc : gc < w2.heap.size := Nat.lt_of_lt_of_le hgc (by assumption)
      go_wp2_with fail
      refine wp_region_still_tail 12 (by kernel_rfl) (by kernel_rfl) ?_
      change wpStill _ _ (World.drew _) _ _ _
      simp only [List.take_succ_cons, List.take_zero, List.drop_succ_cons, List.drop_zero]
      repeat (first | still_step | (still_call (still_w (payer_any g a _ (by exact A2.out) hbk))))
      refine wpStill_nil ?_
      change wpList _ _ _ _ _ (World.drew _)
      go_wp2_with fail
      refine name_calls (fun wx hwx => ?_)
      have bx : Below w2.heap.size w2 wx := by rw [hwx]; exact (by repeat' (first | (with_reducible exact Below.refl _ _) | (with_reducible assumption) | (with_reducible refine below_drewN ?_ _) | (with_reducible refine Below.drew ?_) | (with_reducible refine below_regrown_up _ _ ?_ ?_) | (with_reducible refine Below.alloc ?_ ?_ _) | (with_reducible refine Below.setCell ?_ ?_ _) | (with_reducible refine below_up ?_ ?_ (by assumption)) | (with_reducible exact Nat.le_refl _) | omega | (simp; done) | (simp; omega)))
      have zx : wx.heap.size = w2.heap.size := by rw [hwx]; simp
      have xx : wx.cell? ⟨w0.heap.size, 0, none⟩ = some (.pointer (some ⟨g, 0, none⟩)) := (bx.cell (p := ⟨w0.heap.size, 0, none⟩) lx2).trans x02
      have yx : wx.cell? ⟨w0.heap.size + 1, 3, none⟩ = some (.int .i64 x.cents) := (bx.cell (p := ⟨w0.heap.size + 1, 3, none⟩) ly2).trans y32
      clear hwx
      refine (move_any gc gm base V At ct es x.day ev0 (payerA a.b) 900 x.cents a.b.stay wx (B2.out.up bx) (by omega)).mono ?_
      rintro e w3 ⟨rfl, ⟨ev3, B'3, T'3⟩, P'3⟩
      have x03 : w3.cell? ⟨w0.heap.size, 0, none⟩ = some (.pointer (some ⟨g, 0, none⟩)) := (P'3.cell (by omega) (by omega) HOWN.out.1).trans xx
      have y33 : w3.cell? ⟨w0.heap.size + 1, 3, none⟩ = some (.int .i64 x.cents) := (P'3.cell (by omega) (by omega) HOWN.out.2).trans yx
      have lx3 : w0.heap.size < w3.heap.size := by have := T'3.size; omega
      have ly3 : w0.heap.size + 1 < w3.heap.size := by have := T'3.size; omega
      have A3 := Lib.hid (T'3.acc (A2.out.up bx) hg (by simpa using hne))
      have TT3 := Lib.hid ((TT2.out.up bx B2.out.le).trans (T'3.more (by simp)))
      have B3 := Lib.hid B'3
      have le3 := B'3.le
      clear B'3 T'3 P'3 xx yx
      clear c0 c1 c2 c3 c4 c5 c6 c7 c8 c9 c10 f9 f10 lg lgc
      have c0 : w3.cell? ⟨g, 0, none⟩ = some (.int .i64 a.b.stay) := (A3.out).cell 0
      have c1 : w3.cell? ⟨g, 1, none⟩ = some (.int .i64 a.b.channel) := (A3.out).cell 1
      have c2 : w3.cell? ⟨g, 2, none⟩ = some (.int .i64 a.b.place) := (A3.out).cell 2
      have c3 : w3.cell? ⟨g, 3, none⟩ = some (.int .i64 a.b.kind) := (A3.out).cell 3
      have c4 : w3.cell? ⟨g, 4, none⟩ = some (.int .i64 a.b.frm) := (A3.out).cell 4
      have c5 : w3.cell? ⟨g, 5, none⟩ = some (.int .i64 a.b.til) := (A3.out).cell 5
      have c6 : w3.cell? ⟨g, 6, none⟩ = some (.int .i64 a.b.persons) := (A3.out).cell 6
      have c7 : w3.cell? ⟨g, 7, none⟩ = some (.int .i64 a.b.price) := (A3.out).cell 7
      have c8 : w3.cell? ⟨g, 8, none⟩ = some (.int .i64 a.b.keep) := (A3.out).cell 8
      have c9 : w3.cell? ⟨g, 9, none⟩ = some (.int .i64 a.st) := (A3.out).cell 9
      have c10 : w3.cell? ⟨g, 10, none⟩ = some (.int .i64 a.paid) := (A3.out).cell 10
      have f9 := (A3.out).free 9
      have f10 := (A3.out).free 10
      have lg := (A3.out).lt
      have lgc : gc < w3.heap.size := Nat.lt_of_lt_of_le hgc (by assumption)
      go_wp2_with fail
      refine wp_region_still_tail 9 (by kernel_rfl) (by kernel_rfl) ?_
      change wpStill _ _ (World.drew _) _ _ _
      simp only [List.take_succ_cons, List.take_zero, List.drop_succ_cons, List.drop_zero]
      repeat (first | still_step | (fail))
      refine wpStill_nil ?_
      change wpList _ _ _ _ _ (World.drew _)
      go_wp2_with fail
      go_ret
      refine ⟨rfl, ⟨ev3, (B3.out.set hg hne 10 _).up (by repeat' (first | (with_reducible exact Below.refl _ _) | (with_reducible assumption) | (with_reducible refine below_drewN ?_ _) | (with_reducible refine Below.drew ?_) | (with_reducible refine below_regrown_up _ _ ?_ ?_) | (with_reducible refine Below.alloc ?_ ?_ _) | (with_reducible refine Below.setCell ?_ ?_ _) | (with_reducible refine below_up ?_ ?_ (by assumption)) | (with_reducible exact Nat.le_refl _) | omega | (simp; done) | (simp; omega))), ?_⟩, (A3.out.set (o := 10) (v := .int .i64 (a.paid + x.cents)) rfl).up (by repeat' (first | (with_reducible exact Below.refl _ _) | (with_reducible assumption) | (with_reducible refine below_drewN ?_ _) | (with_reducible refine Below.drew ?_) | (with_reducible refine below_regrown_up _ _ ?_ ?_) | (with_reducible refine Below.alloc ?_ ?_ _) | (with_reducible refine Below.setCell ?_ ?_ _) | (with_reducible refine below_up ?_ ?_ (by assumption)) | (with_reducible exact Nat.le_refl _) | omega | (simp; done) | (simp; omega)))⟩
      exact (TT3.out.set (g := g) (by simp) _).up (by repeat' (first | (with_reducible exact Below.refl _ _) | (with_reducible assumption) | (with_reducible refine below_drewN ?_ _) | (with_reducible refine Below.drew ?_) | (with_reducible refine below_regrown_up _ _ ?_ ?_) | (with_reducible refine Below.alloc ?_ ?_ _) | (with_reducible refine Below.setCell ?_ ?_ _) | (with_reducible refine below_up ?_ ?_ (by assumption)) | (with_reducible exact Nat.le_refl _) | omega | (simp; done) | (simp; omega))) (by simp [World.setCell]; exact B3.out.le)
  · have hst : (a.st != 3) = true := by simpa using h3
    cases hc : comesR V.ts a.b with
    | none =>
      have HR : Hid (payD V es a x = .error 3) := Lib.hid (by unfold payD mostR; rw [if_neg h3, hc])
      have HC : Hid (RetC (comesT (comesR V.ts a.b)) = .returned (.tuple #[.int .i64 0, .int .i64 0, .int .i64 3])) := Lib.hid (by rw [hc]; rfl)
      clear hc h3
      rw [HR.out]
      go_enter Tryz.func109, Tryz.ntmps109
      go_wp2_with fail
      refine name_world (fun w1 hw1' => ?_)
      have b1 : Below w0.heap.size w0 w1 := by rw [hw1']; exact (by repeat' (first | (with_reducible exact Below.refl _ _) | (with_reducible assumption) | (with_reducible refine below_drewN ?_ _) | (with_reducible refine Below.drew ?_) | (with_reducible refine below_regrown_up _ _ ?_ ?_) | (with_reducible refine Below.alloc ?_ ?_ _) | (with_reducible refine Below.setCell ?_ ?_ _) | (with_reducible refine below_up ?_ ?_ (by assumption)) | (with_reducible exact Nat.le_refl _) | omega | (simp; done) | (simp; omega)))
      have z1 : w1.heap.size = w0.heap.size + 1 + 1 := by rw [hw1']; simp
      have x0' : w1.cell? ⟨w0.heap.size, 0, none⟩ = some (.pointer (some ⟨g, 0, none⟩)) := by rw [hw1']; go_simp
      have y3 : w1.cell? ⟨w0.heap.size + 1, 3, none⟩ = some (.int .i64 x.cents) := by rw [hw1']; go_simp
      have lx1 : w0.heap.size < w1.heap.size := by omega
      have ly1 : w0.heap.size + 1 < w1.heap.size := by omega
      clear hw1'
      have B1 := Lib.hid (B0.out.up b1)
      have A1 := Lib.hid (A0.out.up b1)
      have TT1 := Lib.hid (TT0.out.up b1 B0.out.le)
      have le1 := B1.out.le
      obtain ⟨A, cc, hev, _, _, hsl⟩ := B1.out.own.sl ent_len
      have q0 : w1.cell? ⟨gc, 0, none⟩ = some (.slice A es.length cc) := by rw [← hev]; exact B1.out.cell 0
      have HEV := Lib.hid hev
      have lgc1 : gc < w1.heap.size := by omega
      clear hev z1
      have HSUM := Lib.hid (fun (W : World) (hb : Below w1.heap.size w1 W) => sum_own0 es A cc (payerA a.b) w0.heap.size a.b W (hsl.up hb) (by omega) HCE.out (fun e W' hb' => own1_any e g w0.heap.size a W' ((A1.out.up hb).up hb') (((hb.trans (hb'.mono hb.size)).cell (p := ⟨w0.heap.size, 0, none⟩) lx1).trans x0') (by have := hb.size; have := hb'.size; omega)))
      have hgr := regrown_cells w1 (B := w1.heap.size) (by omega)
      refine wp_region_quiet_below (by kernel_rfl) (by kernel_rfl) ?_
      repeat (quiet_step ((first | (go_at_call 123; exact quiet_s (payer_any g a _ (A1.out.up (below_regrown _ _ _)) hbk)) | (go_at_call 105; exact quiet_b (HSUM.out _ (below_regrown _ _ _))))))
      refine wpQuiet_nil ?_
      intro _ hw'
      obtain ⟨⟨dq, osq⟩, hw''⟩ := hw'
      subst hw''
      have hb2 := below_regrown w1 dq osq
      clear hgr
      generalize grow (redrawn w1 dq) osq = w2 at hb2 ⊢
      have hz2 := hb2.size
      (try simp only [World.size_alloc, World.size_setCell, World.size_drew, size_drewN', size_grow, size_redrawn] at hz2)
      obtain ⟨hc2, hf2⟩ := bcellB (B := w1.heap.size) hb2 (by first | omega | (simp only [World.size_alloc, World.size_setCell, World.size_drew, size_drewN', size_grow, size_redrawn]; omega))
      have b2 := hb2
      have x02 : w2.cell? ⟨w0.heap.size, 0, none⟩ = some (.pointer (some ⟨g, 0, none⟩)) := (b2.cell (p := ⟨w0.heap.size, 0, none⟩) lx1).trans x0'
      have y32 : w2.cell? ⟨w0.heap.size + 1, 3, none⟩ = some (.int .i64 x.cents) := (b2.cell (p := ⟨w0.heap.size + 1, 3, none⟩) ly1).trans y3
      have lx2 : w0.heap.size < w2.heap.size := by have := b2.size; omega
      have ly2 : w0.heap.size + 1 < w2.heap.size := by have := b2.size; omega
      clear hc2 hf2 q0 x0' y3 hsl HSUM lgc1
      have B2 := Lib.hid (B1.out.up b2)
      have A2 := Lib.hid (A1.out.up b2)
      have TT2 := Lib.hid (TT1.out.up b2 B1.out.le)
      have le2 := B2.out.le
      have c0 : w2.cell? ⟨g, 0, none⟩ = some (.int .i64 a.b.stay) := (A2.out).cell 0
      have c1 : w2.cell? ⟨g, 1, none⟩ = some (.int .i64 a.b.channel) := (A2.out).cell 1
      have c2 : w2.cell? ⟨g, 2, none⟩ = some (.int .i64 a.b.place) := (A2.out).cell 2
      have c3 : w2.cell? ⟨g, 3, none⟩ = some (.int .i64 a.b.kind) := (A2.out).cell 3
      have c4 : w2.cell? ⟨g, 4, none⟩ = some (.int .i64 a.b.frm) := (A2.out).cell 4
      have c5 : w2.cell? ⟨g, 5, none⟩ = some (.int .i64 a.b.til) := (A2.out).cell 5
      have c6 : w2.cell? ⟨g, 6, none⟩ = some (.int .i64 a.b.persons) := (A2.out).cell 6
      have c7 : w2.cell? ⟨g, 7, none⟩ = some (.int .i64 a.b.price) := (A2.out).cell 7
      have c8 : w2.cell? ⟨g, 8, none⟩ = some (.int .i64 a.b.keep) := (A2.out).cell 8
      have c9 : w2.cell? ⟨g, 9, none⟩ = some (.int .i64 a.st) := (A2.out).cell 9
      have c10 : w2.cell? ⟨g, 10, none⟩ = some (.int .i64 a.paid) := (A2.out).cell 10
      have f9 := (A2.out).free 9
      have f10 := (A2.out).free 10
      have lg := (A2.out).lt
      have lgc : gc < w2.heap.size := Nat.lt_of_lt_of_le hgc (by assumption)
      go_wp2_with fail
      refine (comes_any gc gm base V At ct es x.day ev0 g a L w2 B2.out A2.out (HTS.out _ (below_up b1 b1.size b2)) (by omega) htl hbk).mono ?_
      rintro e w3 ⟨he, b3⟩
      rw [HC.out] at he
      subst he
      go_wp2_with fail
      go_ret
      exact ⟨rfl, ⟨_, B2.out.up b3, TT2.out.up b3 B2.out.le⟩, A2.out.up b3⟩
    | some q =>
      obtain ⟨tx, c⟩ := q
      have hbd := comes_bd hbk hc
      have hwm : IntKind.i64.wrap (c - a.paid) = c - a.paid := IntWalk.i64_in _ (by omega)
      have HC : Hid (RetC (comesT (comesR V.ts a.b)) = .returned (.tuple #[.int .i64 tx, .int .i64 c, .int .i64 0])) := Lib.hid (by rw [hc]; rfl)
      by_cases hm : c - a.paid < x.cents
      · have HR : Hid (payD V es a x = .error 41) := Lib.hid (by unfold payD mostR; rw [if_neg h3, hc]; simp only; rw [if_pos hm])
        have hd : decide (c - a.paid < x.cents) = true := by simpa using hm
        clear hc h3
        rw [HR.out]
        go_enter Tryz.func109, Tryz.ntmps109
        go_wp2_with fail
        refine name_world (fun w1 hw1' => ?_)
        have b1 : Below w0.heap.size w0 w1 := by rw [hw1']; exact (by repeat' (first | (with_reducible exact Below.refl _ _) | (with_reducible assumption) | (with_reducible refine below_drewN ?_ _) | (with_reducible refine Below.drew ?_) | (with_reducible refine below_regrown_up _ _ ?_ ?_) | (with_reducible refine Below.alloc ?_ ?_ _) | (with_reducible refine Below.setCell ?_ ?_ _) | (with_reducible refine below_up ?_ ?_ (by assumption)) | (with_reducible exact Nat.le_refl _) | omega | (simp; done) | (simp; omega)))
        have z1 : w1.heap.size = w0.heap.size + 1 + 1 := by rw [hw1']; simp
        have x0' : w1.cell? ⟨w0.heap.size, 0, none⟩ = some (.pointer (some ⟨g, 0, none⟩)) := by rw [hw1']; go_simp
        have y3 : w1.cell? ⟨w0.heap.size + 1, 3, none⟩ = some (.int .i64 x.cents) := by rw [hw1']; go_simp
        have lx1 : w0.heap.size < w1.heap.size := by omega
        have ly1 : w0.heap.size + 1 < w1.heap.size := by omega
        clear hw1'
        have B1 := Lib.hid (B0.out.up b1)
        have A1 := Lib.hid (A0.out.up b1)
        have TT1 := Lib.hid (TT0.out.up b1 B0.out.le)
        have le1 := B1.out.le
        obtain ⟨A, cc, hev, _, _, hsl⟩ := B1.out.own.sl ent_len
        have q0 : w1.cell? ⟨gc, 0, none⟩ = some (.slice A es.length cc) := by rw [← hev]; exact B1.out.cell 0
        have HEV := Lib.hid hev
        have lgc1 : gc < w1.heap.size := by omega
        clear hev z1
        have HSUM := Lib.hid (fun (W : World) (hb : Below w1.heap.size w1 W) => sum_own0 es A cc (payerA a.b) w0.heap.size a.b W (hsl.up hb) (by omega) HCE.out (fun e W' hb' => own1_any e g w0.heap.size a W' ((A1.out.up hb).up hb') (((hb.trans (hb'.mono hb.size)).cell (p := ⟨w0.heap.size, 0, none⟩) lx1).trans x0') (by have := hb.size; have := hb'.size; omega)))
        have hgr := regrown_cells w1 (B := w1.heap.size) (by omega)
        refine wp_region_quiet_below (by kernel_rfl) (by kernel_rfl) ?_
        repeat (quiet_step ((first | (go_at_call 123; exact quiet_s (payer_any g a _ (A1.out.up (below_regrown _ _ _)) hbk)) | (go_at_call 105; exact quiet_b (HSUM.out _ (below_regrown _ _ _))))))
        refine wpQuiet_nil ?_
        intro _ hw'
        obtain ⟨⟨dq, osq⟩, hw''⟩ := hw'
        subst hw''
        have hb2 := below_regrown w1 dq osq
        clear hgr
        generalize grow (redrawn w1 dq) osq = w2 at hb2 ⊢
        have hz2 := hb2.size
        (try simp only [World.size_alloc, World.size_setCell, World.size_drew, size_drewN', size_grow, size_redrawn] at hz2)
        obtain ⟨hc2, hf2⟩ := bcellB (B := w1.heap.size) hb2 (by first | omega | (simp only [World.size_alloc, World.size_setCell, World.size_drew, size_drewN', size_grow, size_redrawn]; omega))
        have b2 := hb2
        have x02 : w2.cell? ⟨w0.heap.size, 0, none⟩ = some (.pointer (some ⟨g, 0, none⟩)) := (b2.cell (p := ⟨w0.heap.size, 0, none⟩) lx1).trans x0'
        have y32 : w2.cell? ⟨w0.heap.size + 1, 3, none⟩ = some (.int .i64 x.cents) := (b2.cell (p := ⟨w0.heap.size + 1, 3, none⟩) ly1).trans y3
        have lx2 : w0.heap.size < w2.heap.size := by have := b2.size; omega
        have ly2 : w0.heap.size + 1 < w2.heap.size := by have := b2.size; omega
        clear hc2 hf2 q0 x0' y3 hsl HSUM lgc1
        have B2 := Lib.hid (B1.out.up b2)
        have A2 := Lib.hid (A1.out.up b2)
        have TT2 := Lib.hid (TT1.out.up b2 B1.out.le)
        have le2 := B2.out.le
        have c0 : w2.cell? ⟨g, 0, none⟩ = some (.int .i64 a.b.stay) := (A2.out).cell 0
        have c1 : w2.cell? ⟨g, 1, none⟩ = some (.int .i64 a.b.channel) := (A2.out).cell 1
        have c2 : w2.cell? ⟨g, 2, none⟩ = some (.int .i64 a.b.place) := (A2.out).cell 2
        have c3 : w2.cell? ⟨g, 3, none⟩ = some (.int .i64 a.b.kind) := (A2.out).cell 3
        have c4 : w2.cell? ⟨g, 4, none⟩ = some (.int .i64 a.b.frm) := (A2.out).cell 4
        have c5 : w2.cell? ⟨g, 5, none⟩ = some (.int .i64 a.b.til) := (A2.out).cell 5
        have c6 : w2.cell? ⟨g, 6, none⟩ = some (.int .i64 a.b.persons) := (A2.out).cell 6
        have c7 : w2.cell? ⟨g, 7, none⟩ = some (.int .i64 a.b.price) := (A2.out).cell 7
        have c8 : w2.cell? ⟨g, 8, none⟩ = some (.int .i64 a.b.keep) := (A2.out).cell 8
        have c9 : w2.cell? ⟨g, 9, none⟩ = some (.int .i64 a.st) := (A2.out).cell 9
        have c10 : w2.cell? ⟨g, 10, none⟩ = some (.int .i64 a.paid) := (A2.out).cell 10
        have f9 := (A2.out).free 9
        have f10 := (A2.out).free 10
        have lg := (A2.out).lt
        have lgc : gc < w2.heap.size := Nat.lt_of_lt_of_le hgc (by assumption)
        go_wp2_with fail
        refine (comes_any gc gm base V At ct es x.day ev0 g a L w2 B2.out A2.out (HTS.out _ (below_up b1 b1.size b2)) (by omega) htl hbk).mono ?_
        rintro e w3 ⟨he, b3⟩
        rw [HC.out] at he
        subst he
        have x03 : w3.cell? ⟨w0.heap.size, 0, none⟩ = some (.pointer (some ⟨g, 0, none⟩)) := (b3.cell (p := ⟨w0.heap.size, 0, none⟩) lx2).trans x02
        have y33 : w3.cell? ⟨w0.heap.size + 1, 3, none⟩ = some (.int .i64 x.cents) := (b3.cell (p := ⟨w0.heap.size + 1, 3, none⟩) ly2).trans y32
        have lx3 : w0.heap.size < w3.heap.size := by have := b3.size; omega
        have ly3 : w0.heap.size + 1 < w3.heap.size := by have := b3.size; omega
        clear x02 y32
        have B3 := Lib.hid (B2.out.up b3)
        have A3 := Lib.hid (A2.out.up b3)
        have TT3 := Lib.hid (TT2.out.up b3 B2.out.le)
        have le3 := B3.out.le
        clear c0 c1 c2 c3 c4 c5 c6 c7 c8 c9 c10 f9 f10 lg lgc
        have c0 : w3.cell? ⟨g, 0, none⟩ = some (.int .i64 a.b.stay) := (A3.out).cell 0
        have c1 : w3.cell? ⟨g, 1, none⟩ = some (.int .i64 a.b.channel) := (A3.out).cell 1
        have c2 : w3.cell? ⟨g, 2, none⟩ = some (.int .i64 a.b.place) := (A3.out).cell 2
        have c3 : w3.cell? ⟨g, 3, none⟩ = some (.int .i64 a.b.kind) := (A3.out).cell 3
        have c4 : w3.cell? ⟨g, 4, none⟩ = some (.int .i64 a.b.frm) := (A3.out).cell 4
        have c5 : w3.cell? ⟨g, 5, none⟩ = some (.int .i64 a.b.til) := (A3.out).cell 5
        have c6 : w3.cell? ⟨g, 6, none⟩ = some (.int .i64 a.b.persons) := (A3.out).cell 6
        have c7 : w3.cell? ⟨g, 7, none⟩ = some (.int .i64 a.b.price) := (A3.out).cell 7
        have c8 : w3.cell? ⟨g, 8, none⟩ = some (.int .i64 a.b.keep) := (A3.out).cell 8
        have c9 : w3.cell? ⟨g, 9, none⟩ = some (.int .i64 a.st) := (A3.out).cell 9
        have c10 : w3.cell? ⟨g, 10, none⟩ = some (.int .i64 a.paid) := (A3.out).cell 10
        have f9 := (A3.out).free 9
        have f10 := (A3.out).free 10
        have lg := (A3.out).lt
        have lgc : gc < w3.heap.size := Nat.lt_of_lt_of_le hgc (by assumption)
        go_wp2_with fail
        go_ret
        exact ⟨rfl, ⟨_, B3.out, TT3.out⟩, A3.out⟩
      · have HR : Hid (payD V es a x = .ok (mvE x.day (payerA a.b) 900 x.cents a.b.stay es, { a with paid := a.paid + x.cents })) := Lib.hid (by unfold payD mostR; rw [if_neg h3, hc]; simp only; rw [if_neg hm])
        have hd : decide (c - a.paid < x.cents) = false := by simpa using hm
        clear hc h3
        rw [HR.out]
        go_enter Tryz.func109, Tryz.ntmps109
        go_wp2_with fail
        refine name_world (fun w1 hw1' => ?_)
        have b1 : Below w0.heap.size w0 w1 := by rw [hw1']; exact (by repeat' (first | (with_reducible exact Below.refl _ _) | (with_reducible assumption) | (with_reducible refine below_drewN ?_ _) | (with_reducible refine Below.drew ?_) | (with_reducible refine below_regrown_up _ _ ?_ ?_) | (with_reducible refine Below.alloc ?_ ?_ _) | (with_reducible refine Below.setCell ?_ ?_ _) | (with_reducible refine below_up ?_ ?_ (by assumption)) | (with_reducible exact Nat.le_refl _) | omega | (simp; done) | (simp; omega)))
        have z1 : w1.heap.size = w0.heap.size + 1 + 1 := by rw [hw1']; simp
        have x0' : w1.cell? ⟨w0.heap.size, 0, none⟩ = some (.pointer (some ⟨g, 0, none⟩)) := by rw [hw1']; go_simp
        have y3 : w1.cell? ⟨w0.heap.size + 1, 3, none⟩ = some (.int .i64 x.cents) := by rw [hw1']; go_simp
        have lx1 : w0.heap.size < w1.heap.size := by omega
        have ly1 : w0.heap.size + 1 < w1.heap.size := by omega
        clear hw1'
        have B1 := Lib.hid (B0.out.up b1)
        have A1 := Lib.hid (A0.out.up b1)
        have TT1 := Lib.hid (TT0.out.up b1 B0.out.le)
        have le1 := B1.out.le
        obtain ⟨A, cc, hev, _, _, hsl⟩ := B1.out.own.sl ent_len
        have q0 : w1.cell? ⟨gc, 0, none⟩ = some (.slice A es.length cc) := by rw [← hev]; exact B1.out.cell 0
        have HEV := Lib.hid hev
        have lgc1 : gc < w1.heap.size := by omega
        clear hev z1
        have HSUM := Lib.hid (fun (W : World) (hb : Below w1.heap.size w1 W) => sum_own0 es A cc (payerA a.b) w0.heap.size a.b W (hsl.up hb) (by omega) HCE.out (fun e W' hb' => own1_any e g w0.heap.size a W' ((A1.out.up hb).up hb') (((hb.trans (hb'.mono hb.size)).cell (p := ⟨w0.heap.size, 0, none⟩) lx1).trans x0') (by have := hb.size; have := hb'.size; omega)))
        have hgr := regrown_cells w1 (B := w1.heap.size) (by omega)
        refine wp_region_quiet_below (by kernel_rfl) (by kernel_rfl) ?_
        repeat (quiet_step ((first | (go_at_call 123; exact quiet_s (payer_any g a _ (A1.out.up (below_regrown _ _ _)) hbk)) | (go_at_call 105; exact quiet_b (HSUM.out _ (below_regrown _ _ _))))))
        refine wpQuiet_nil ?_
        intro _ hw'
        obtain ⟨⟨dq, osq⟩, hw''⟩ := hw'
        subst hw''
        have hb2 := below_regrown w1 dq osq
        clear hgr
        generalize grow (redrawn w1 dq) osq = w2 at hb2 ⊢
        have hz2 := hb2.size
        (try simp only [World.size_alloc, World.size_setCell, World.size_drew, size_drewN', size_grow, size_redrawn] at hz2)
        obtain ⟨hc2, hf2⟩ := bcellB (B := w1.heap.size) hb2 (by first | omega | (simp only [World.size_alloc, World.size_setCell, World.size_drew, size_drewN', size_grow, size_redrawn]; omega))
        have b2 := hb2
        have x02 : w2.cell? ⟨w0.heap.size, 0, none⟩ = some (.pointer (some ⟨g, 0, none⟩)) := (b2.cell (p := ⟨w0.heap.size, 0, none⟩) lx1).trans x0'
        have y32 : w2.cell? ⟨w0.heap.size + 1, 3, none⟩ = some (.int .i64 x.cents) := (b2.cell (p := ⟨w0.heap.size + 1, 3, none⟩) ly1).trans y3
        have lx2 : w0.heap.size < w2.heap.size := by have := b2.size; omega
        have ly2 : w0.heap.size + 1 < w2.heap.size := by have := b2.size; omega
        clear hc2 hf2 q0 x0' y3 hsl HSUM lgc1
        have B2 := Lib.hid (B1.out.up b2)
        have A2 := Lib.hid (A1.out.up b2)
        have TT2 := Lib.hid (TT1.out.up b2 B1.out.le)
        have le2 := B2.out.le
        have c0 : w2.cell? ⟨g, 0, none⟩ = some (.int .i64 a.b.stay) := (A2.out).cell 0
        have c1 : w2.cell? ⟨g, 1, none⟩ = some (.int .i64 a.b.channel) := (A2.out).cell 1
        have c2 : w2.cell? ⟨g, 2, none⟩ = some (.int .i64 a.b.place) := (A2.out).cell 2
        have c3 : w2.cell? ⟨g, 3, none⟩ = some (.int .i64 a.b.kind) := (A2.out).cell 3
        have c4 : w2.cell? ⟨g, 4, none⟩ = some (.int .i64 a.b.frm) := (A2.out).cell 4
        have c5 : w2.cell? ⟨g, 5, none⟩ = some (.int .i64 a.b.til) := (A2.out).cell 5
        have c6 : w2.cell? ⟨g, 6, none⟩ = some (.int .i64 a.b.persons) := (A2.out).cell 6
        have c7 : w2.cell? ⟨g, 7, none⟩ = some (.int .i64 a.b.price) := (A2.out).cell 7
        have c8 : w2.cell? ⟨g, 8, none⟩ = some (.int .i64 a.b.keep) := (A2.out).cell 8
        have c9 : w2.cell? ⟨g, 9, none⟩ = some (.int .i64 a.st) := (A2.out).cell 9
        have c10 : w2.cell? ⟨g, 10, none⟩ = some (.int .i64 a.paid) := (A2.out).cell 10
        have f9 := (A2.out).free 9
        have f10 := (A2.out).free 10
        have lg := (A2.out).lt
        have lgc : gc < w2.heap.size := Nat.lt_of_lt_of_le hgc (by assumption)
        go_wp2_with fail
        refine (comes_any gc gm base V At ct es x.day ev0 g a L w2 B2.out A2.out (HTS.out _ (below_up b1 b1.size b2)) (by omega) htl hbk).mono ?_
        rintro e w3 ⟨he, b3⟩
        rw [HC.out] at he
        subst he
        have x03 : w3.cell? ⟨w0.heap.size, 0, none⟩ = some (.pointer (some ⟨g, 0, none⟩)) := (b3.cell (p := ⟨w0.heap.size, 0, none⟩) lx2).trans x02
        have y33 : w3.cell? ⟨w0.heap.size + 1, 3, none⟩ = some (.int .i64 x.cents) := (b3.cell (p := ⟨w0.heap.size + 1, 3, none⟩) ly2).trans y32
        have lx3 : w0.heap.size < w3.heap.size := by have := b3.size; omega
        have ly3 : w0.heap.size + 1 < w3.heap.size := by have := b3.size; omega
        clear x02 y32
        have B3 := Lib.hid (B2.out.up b3)
        have A3 := Lib.hid (A2.out.up b3)
        have TT3 := Lib.hid (TT2.out.up b3 B2.out.le)
        have le3 := B3.out.le
        clear c0 c1 c2 c3 c4 c5 c6 c7 c8 c9 c10 f9 f10 lg lgc
        have c0 : w3.cell? ⟨g, 0, none⟩ = some (.int .i64 a.b.stay) := (A3.out).cell 0
        have c1 : w3.cell? ⟨g, 1, none⟩ = some (.int .i64 a.b.channel) := (A3.out).cell 1
        have c2 : w3.cell? ⟨g, 2, none⟩ = some (.int .i64 a.b.place) := (A3.out).cell 2
        have c3 : w3.cell? ⟨g, 3, none⟩ = some (.int .i64 a.b.kind) := (A3.out).cell 3
        have c4 : w3.cell? ⟨g, 4, none⟩ = some (.int .i64 a.b.frm) := (A3.out).cell 4
        have c5 : w3.cell? ⟨g, 5, none⟩ = some (.int .i64 a.b.til) := (A3.out).cell 5
        have c6 : w3.cell? ⟨g, 6, none⟩ = some (.int .i64 a.b.persons) := (A3.out).cell 6
        have c7 : w3.cell? ⟨g, 7, none⟩ = some (.int .i64 a.b.price) := (A3.out).cell 7
        have c8 : w3.cell? ⟨g, 8, none⟩ = some (.int .i64 a.b.keep) := (A3.out).cell 8
        have c9 : w3.cell? ⟨g, 9, none⟩ = some (.int .i64 a.st) := (A3.out).cell 9
        have c10 : w3.cell? ⟨g, 10, none⟩ = some (.int .i64 a.paid) := (A3.out).cell 10
        have f9 := (A3.out).free 9
        have f10 := (A3.out).free 10
        have lg := (A3.out).lt
        have lgc : gc < w3.heap.size := Nat.lt_of_lt_of_le hgc (by assumption)
        go_wp2_with fail
        refine wp_region_still_tail 12 (by kernel_rfl) (by kernel_rfl) ?_
        change wpStill _ _ (World.drew _) _ _ _
        simp only [List.take_succ_cons, List.take_zero, List.drop_succ_cons, List.drop_zero]
        repeat (first | still_step | (still_call (still_w (payer_any g a _ (by exact A3.out) hbk))))
        refine wpStill_nil ?_
        change wpList _ _ _ _ _ (World.drew _)
        go_wp2_with fail
        refine name_calls (fun wx hwx => ?_)
        have bx : Below w3.heap.size w3 wx := by rw [hwx]; exact (by repeat' (first | (with_reducible exact Below.refl _ _) | (with_reducible assumption) | (with_reducible refine below_drewN ?_ _) | (with_reducible refine Below.drew ?_) | (with_reducible refine below_regrown_up _ _ ?_ ?_) | (with_reducible refine Below.alloc ?_ ?_ _) | (with_reducible refine Below.setCell ?_ ?_ _) | (with_reducible refine below_up ?_ ?_ (by assumption)) | (with_reducible exact Nat.le_refl _) | omega | (simp; done) | (simp; omega)))
        have zx : wx.heap.size = w3.heap.size := by rw [hwx]; simp
        have xx : wx.cell? ⟨w0.heap.size, 0, none⟩ = some (.pointer (some ⟨g, 0, none⟩)) := (bx.cell (p := ⟨w0.heap.size, 0, none⟩) lx3).trans x03
        have yx : wx.cell? ⟨w0.heap.size + 1, 3, none⟩ = some (.int .i64 x.cents) := (bx.cell (p := ⟨w0.heap.size + 1, 3, none⟩) ly3).trans y33
        clear hwx
        refine (move_any gc gm base V At ct es x.day ev0 (payerA a.b) 900 x.cents a.b.stay wx (B3.out.up bx) (by omega)).mono ?_
        rintro e w4 ⟨rfl, ⟨ev4, B'4, T'4⟩, P'4⟩
        have x04 : w4.cell? ⟨w0.heap.size, 0, none⟩ = some (.pointer (some ⟨g, 0, none⟩)) := (P'4.cell (by omega) (by omega) HOWN.out.1).trans xx
        have y34 : w4.cell? ⟨w0.heap.size + 1, 3, none⟩ = some (.int .i64 x.cents) := (P'4.cell (by omega) (by omega) HOWN.out.2).trans yx
        have lx4 : w0.heap.size < w4.heap.size := by have := T'4.size; omega
        have ly4 : w0.heap.size + 1 < w4.heap.size := by have := T'4.size; omega
        have A4 := Lib.hid (T'4.acc (A3.out.up bx) hg (by simpa using hne))
        have TT4 := Lib.hid ((TT3.out.up bx B3.out.le).trans (T'4.more (by simp)))
        have B4 := Lib.hid B'4
        have le4 := B'4.le
        clear B'4 T'4 P'4 xx yx
        clear c0 c1 c2 c3 c4 c5 c6 c7 c8 c9 c10 f9 f10 lg lgc
        have c0 : w4.cell? ⟨g, 0, none⟩ = some (.int .i64 a.b.stay) := (A4.out).cell 0
        have c1 : w4.cell? ⟨g, 1, none⟩ = some (.int .i64 a.b.channel) := (A4.out).cell 1
        have c2 : w4.cell? ⟨g, 2, none⟩ = some (.int .i64 a.b.place) := (A4.out).cell 2
        have c3 : w4.cell? ⟨g, 3, none⟩ = some (.int .i64 a.b.kind) := (A4.out).cell 3
        have c4 : w4.cell? ⟨g, 4, none⟩ = some (.int .i64 a.b.frm) := (A4.out).cell 4
        have c5 : w4.cell? ⟨g, 5, none⟩ = some (.int .i64 a.b.til) := (A4.out).cell 5
        have c6 : w4.cell? ⟨g, 6, none⟩ = some (.int .i64 a.b.persons) := (A4.out).cell 6
        have c7 : w4.cell? ⟨g, 7, none⟩ = some (.int .i64 a.b.price) := (A4.out).cell 7
        have c8 : w4.cell? ⟨g, 8, none⟩ = some (.int .i64 a.b.keep) := (A4.out).cell 8
        have c9 : w4.cell? ⟨g, 9, none⟩ = some (.int .i64 a.st) := (A4.out).cell 9
        have c10 : w4.cell? ⟨g, 10, none⟩ = some (.int .i64 a.paid) := (A4.out).cell 10
        have f9 := (A4.out).free 9
        have f10 := (A4.out).free 10
        have lg := (A4.out).lt
        have lgc : gc < w4.heap.size := Nat.lt_of_lt_of_le hgc (by assumption)
        go_wp2_with fail
        refine wp_region_still_tail 9 (by kernel_rfl) (by kernel_rfl) ?_
        change wpStill _ _ (World.drew _) _ _ _
        simp only [List.take_succ_cons, List.take_zero, List.drop_succ_cons, List.drop_zero]
        repeat (first | still_step | (fail))
        refine wpStill_nil ?_
        change wpList _ _ _ _ _ (World.drew _)
        go_wp2_with fail
        go_ret
        refine ⟨rfl, ⟨ev4, (B4.out.set hg hne 10 _).up (by repeat' (first | (with_reducible exact Below.refl _ _) | (with_reducible assumption) | (with_reducible refine below_drewN ?_ _) | (with_reducible refine Below.drew ?_) | (with_reducible refine below_regrown_up _ _ ?_ ?_) | (with_reducible refine Below.alloc ?_ ?_ _) | (with_reducible refine Below.setCell ?_ ?_ _) | (with_reducible refine below_up ?_ ?_ (by assumption)) | (with_reducible exact Nat.le_refl _) | omega | (simp; done) | (simp; omega))), ?_⟩, (A4.out.set (o := 10) (v := .int .i64 (a.paid + x.cents)) rfl).up (by repeat' (first | (with_reducible exact Below.refl _ _) | (with_reducible assumption) | (with_reducible refine below_drewN ?_ _) | (with_reducible refine Below.drew ?_) | (with_reducible refine below_regrown_up _ _ ?_ ?_) | (with_reducible refine Below.alloc ?_ ?_ _) | (with_reducible refine Below.setCell ?_ ?_ _) | (with_reducible refine below_up ?_ ?_ (by assumption)) | (with_reducible exact Nat.le_refl _) | omega | (simp; done) | (simp; omega)))⟩
        exact (TT4.out.set (g := g) (by simp) _).up (by repeat' (first | (with_reducible exact Below.refl _ _) | (with_reducible assumption) | (with_reducible refine below_drewN ?_ _) | (with_reducible refine Below.drew ?_) | (with_reducible refine below_regrown_up _ _ ?_ ?_) | (with_reducible refine Below.alloc ?_ ?_ _) | (with_reducible refine Below.setCell ?_ ?_ _) | (with_reducible refine below_up ?_ ?_ (by assumption)) | (with_reducible exact Nat.le_refl _) | omega | (simp; done) | (simp; omega))) (by simp [World.setCell]; exact B4.out.le)
end Go.Proofs.YtmlhoojcdidgkaaGreat
