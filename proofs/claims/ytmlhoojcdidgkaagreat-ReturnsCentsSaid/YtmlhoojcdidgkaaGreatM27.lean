/-
  Texts, one behind the other: Com12.
-/
import Derived.Test.YtmlhoojcdidgkaaGreatM26
/-
  Package commission: whether a statement and a ledger agree.
-/
namespace Go.Proofs.YtmlhoojcdidgkaaGreat
set_option linter.unusedSimpArgs false
set_option linter.unusedVariables false
open Go.RowKit Go.Maps Go.Shelf
open Go.Sort (grow size_grow)

set_option maxHeartbeats 4000000
set_option maxRecDepth 100000
attribute [local go_sem] Oper.semAt_some
abbrev OwnM (w : World) (blk n : Nat) (D : DM) : Prop := w.ownsMap Tryz.prog 3 (plainElem Tryz.prog 3) blk n D
theorem getI_absent {D : DM} {a : Int} (h : Maps.has D (kI a) = false) : getI D a = 0 := by
  unfold getI
  cases D with
  | map es =>
    have h1 : es.any (fun p => p.1.sameKey (kI a)) = false := h
    have h2 : es.find? (fun p => p.1.sameKey (kI a)) = none := List.find?_eq_none.2 (fun p hp => by
      have := List.any_eq_false.1 h1 p hp
      simpa using this)
    have h3 : (DataW.map es : DM).atKey (kI a) (vI 0) = vI 0 := by simp only [DataW.atKey, h2]
    rw [h3]
    rfl
  | _ => rfl
theorem keepsOthers_of_below {W W' : World} (h : Below W.heap.size W W') : KeepsOthers W W' := ⟨h.size, fun k o hk _ => (h.block k (Array.getElem?_eq_some_iff.1 hk).1).trans hk⟩
theorem sl_kept {α : Type} {W W' : World} {row : Option Nat} {B size : Nat} {enc : α → List Value} {A : Option Addr} {l : List α} (h : Sl W B size enc A l) (hg : W.grownBy W' row) (hr : ∀ r, row = some r → ∃ o : Obj, W.heap[r]? = some o ∧ o.isCells = false) : Sl W' B size enc A l := fun hl => by
  obtain ⟨b, off, e, hlt, hc⟩ := h hl
  exact ⟨b, off, e, hlt, fun k hk j v hv => cell_kept (a := ⟨b, _, none⟩) (hc k hk j v hv) hg hr⟩
structure AgI (w : World) (N1 Mb T N : Nat) (es : List Entry) (acc : Int) (want : List Int) (A1 : Option Addr) (c1 : Nat) (pre : List BOk) (W : World) : Prop where
  map_ : ∃ D : DM, OwnM W Mb N D ∧ MovOf D es acc (stays (pre.map (·.1)))
  mbox : W.cell? ⟨Mb + 1, 0, none⟩ = some (.map (some Mb))
  kbox : W.cell? ⟨T, 0, none⟩ = some (.int .i64 pre.length)
  fk : W.frozen? ⟨T, 0, none⟩ = false
  wbox : W.cell? ⟨N1, 0, none⟩ = some (.slice A1 want.length c1)
  r0 : W.cell? ⟨w.heap.size + 1, 0, none⟩ = some (.bool false)
  r1 : W.cell? ⟨w.heap.size + 1 + 1, 0, none⟩ = some (.int .i64 0)
  f0 : W.frozen? ⟨w.heap.size + 1, 0, none⟩ = false
  f1 : W.frozen? ⟨w.heap.size + 1 + 1, 0, none⟩ = false
  vals : valsOk es acc want pre
  sl : Sl W N1 1 intC A1 want
  size : T + 1 + 1 + 1 ≤ W.heap.size
  below : Below w.heap.size w W
theorem agI_own {w : World} {N1 Mb T N : Nat} {es : List Entry} {acc : Int} {want : List Int} {A1 : Option Addr} {c1 B : Nat} (hB : w.heap.size ≤ B) (hM : Mb < B) : OwnFrom B (AgI w N1 Mb T N es acc want A1 c1) := fun s W W' row h hg hr => by
  have hr' : ∀ r, row = some r → ∃ o : Obj, W.heap[r]? = some o ∧ o.isCells = false := fun r e => (hr r e).2
  obtain ⟨D, hD, hS⟩ := h.map_
  exact ⟨⟨D, hD.kept hg (fun e => by have := (hr _ e.symm).1; omega), hS⟩, cell_kept h.mbox hg hr', cell_kept h.kbox hg hr', (frozen_kept h.kbox hg hr').trans h.fk, cell_kept h.wbox hg hr', cell_kept h.r0 hg hr', cell_kept h.r1 hg hr',
    (frozen_kept h.r0 hg hr').trans h.f0, (frozen_kept h.r1 hg hr').trans h.f1, h.vals, sl_kept h.sl hg hr', size_keptN h.size hg, h.below.grown hg h.below.size (fun k e => Nat.le_trans hB (hr k e).1)⟩
structure AgX (w : World) (es : List Entry) (acc : Int) (want : List Int) (c : Code) (pre : List BOk) (W : World) : Prop where
  c : c = .ret
  last : ∃ pre' x, pre = pre' ++ [x] ∧ ∃ h : pre'.length < want.length, valAt es acc pre' x ≠ want[pre'.length]
  r0 : W.cell? ⟨w.heap.size + 1, 0, none⟩ = some (.bool false)
  r1 : W.cell? ⟨w.heap.size + 1 + 1, 0, none⟩ = some (.int .i64 0)
  below : Below w.heap.size w W
theorem agX_own {w : World} {es : List Entry} {acc : Int} {want : List Int} {c : Code} {B : Nat} (hB : w.heap.size ≤ B) : OwnFrom B (AgX w es acc want c) := fun s W W' row h hg hr => by
  have hr' : ∀ r, row = some r → ∃ o : Obj, W.heap[r]? = some o ∧ o.isCells = false := fun r e => (hr r e).2
  exact ⟨h.c, h.last, cell_kept h.r0 hg hr', cell_kept h.r1 hg hr', h.below.grown hg h.below.size (fun k e => Nat.le_trans hB (hr k e).1)⟩
theorem cagrees_ok (p d : Int) (l : List Bill) (L : List BOk) (hL : L.map (·.1) = l) (A : Option Addr) (c : Nat) (ch : Int) (st : List Int) (B : Option Addr) (cB : Nat) (es : List Entry) (E : Option Addr) (cE : Nat) (w : World)
    (hs : SlBill w A l) (hl0 : l.length ≤ maxLen) (hst : SlInt w B st) (hst0 : st.length ≤ maxLen) (hse : SlEnt w E es) (h0 : l.length ≤ 3000) (h2 : billsOk l = true) (g0 : 0 ≤ ch) (g1 : ch ≤ 29) (hk : ledOk es = true)
    (want : List Int) (s : Int) (hr : stmtR p d l ch = (want, s, 0)) (hwl : want.length = (ofB L ch).length) (acc : Int) (hacc : 700 + ch = acc) (hA : agreesR p d l ch st es = (agrees want st ((ofB L ch).map (·.1)) es acc, 0)) :
    Calls Tryz.prog 42 #[.agg #[.int .i64 p, .int .i64 d], .slice A l.length c, .int .i64 ch, .slice B st.length cB, .slice E es.length cE] w fun e w' => RetBE (agreesR p d l ch st es) e ∧ Below w.heap.size w w' := by
  have hmm := @run_makeMap Tryz.prog
  have hse0 : es.length ≤ 140737488355328 := by have := (ledOk_iff.1 hk).1; omega
  have hww : IntKind.i64.wrap (700 + ch) = acc := by rw [hacc]; exact IntWalk.i64_in _ (by omega)
  have HR := Lib.hid hr
  have HA := Lib.hid hA
  have HL := Lib.hid hL
  have HWL := Lib.hid hwl
  have HACC := Lib.hid hacc
  have hel := (ledOk_iff.1 hk).1
  have HOK := Lib.hid (ledOk_iff.1 hk).2.1
  have HND : Hid (stays ((ofB L ch).map (·.1))).Nodup := Lib.hid (by rw [ofB_map, hL]; exact stays_ofCh (billsOk_iff.1 h2).2)
  clear hr hA hL hwl hacc
  refine (callsIn_wide (n := 9)).1 ?_
  refine callsIn_of_wp_marks Tryz.func42 rfl trivial ?_ rfl
  simp only [Tryz.ntmps42, List.size_toArray, List.length_cons, List.length_nil, Nat.reduceAdd, Nat.reduceSub, Array.replicate_succ, Array.replicate_zero, List.push_toArray, List.append_toArray, List.nil_append, List.cons_append]
  gi_wp2_with (first | (refine ⟨trivial, ?_⟩; gi_at_call 41; refine (callsIn_wide.2 (cstmt_lit HR.out A c _ (hs.up (by repeat' (first | (with_reducible exact Below.refl _ _) | (with_reducible assumption) | (with_reducible refine below_drewN ?_ _) | (with_reducible refine Below.drew ?_) | (with_reducible refine below_regrown_up _ _ ?_ ?_) | (with_reducible refine Below.alloc ?_ ?_ _) | (with_reducible refine Below.setCell ?_ ?_ _) | (with_reducible refine below_up ?_ ?_ (by assumption)) | (with_reducible exact Nat.le_refl _) | omega | (simp; done) | (simp; omega)))) hl0)).mono ?_; rintro e w1 ⟨⟨A1, c1', rfl, hs1⟩, hb1⟩; have hz1 := hb1.size; simp only [World.size_alloc] at hz1; obtain ⟨hc1, hf1⟩ := bcellB (B := w.heap.size + 1 + 1 + 1) hb1 (by simp); have hB1 : Below w.heap.size w w1 := (by repeat' (first | (with_reducible exact Below.refl _ _) | (with_reducible assumption) | (with_reducible refine below_drewN ?_ _) | (with_reducible refine Below.drew ?_) | (with_reducible refine below_regrown_up _ _ ?_ ?_) | (with_reducible refine Below.alloc ?_ ?_ _) | (with_reducible refine Below.setCell ?_ ?_ _) | (with_reducible refine below_up ?_ ?_ (by assumption)) | (with_reducible exact Nat.le_refl _) | omega | (simp; done) | (simp; omega)))) | (refine ⟨trivial, ?_⟩; gi_at_call 35; refine (callsIn_wide.2 (lvalid_any es E cE _ (hse.up (hB1.alloc (by omega) _)) hse0)).mono ?_; rintro e w2 ⟨rfl, hb2⟩; rw [hk]))
  have hz2 := hb2.size
  simp only [World.size_alloc] at hz2
  have hmade := World.ownsMap_made w2 Tryz.prog 3 (plainElem (H := Unit) Tryz.prog 3)
  gi_loopw [44] (fun i wr => ∃ (m : Nat) (D : DM), m ≤ es.length ∧ i = .int .i64 m ∧ OwnM wr w2.heap.size m D ∧ Hid (MovOf D (es.take m) acc []) ∧ wr.cell? ⟨w2.heap.size + 1, 0, none⟩ = some (.map (some w2.heap.size)) ∧ w2.heap.size + 1 < wr.heap.size ∧ Below w2.heap.size w2 wr) (fun i _ => es.length - (intOf i).toNat)
  case atStart => exact ⟨0, .map [], by omega, rfl, hmade.alloc _, Lib.hid (movOf_empty acc), by go_simp, by simp, (by repeat' (first | (with_reducible exact Below.refl _ _) | (with_reducible assumption) | (with_reducible refine below_drewN ?_ _) | (with_reducible refine Below.drew ?_) | (with_reducible refine below_regrown_up _ _ ?_ ?_) | (with_reducible refine Below.alloc ?_ ?_ _) | (with_reducible refine Below.setCell ?_ ?_ _) | (with_reducible refine below_up ?_ ?_ (by assumption)) | (with_reducible exact Nat.le_refl _) | omega | (simp; done) | (simp; omega)))⟩
  case round =>
    obtain ⟨m, D, hm, rfl, hown, HM, hbox, hsz, hbw⟩ := hrel
    have hbz := hbw.size
    have hB2 : Below w.heap.size w w2 := below_up (hB1.alloc (by omega) _) (by simp; omega) hb2
    by_cases hlt : m < es.length
    · have hx1 : (0 : Int) ≤ (m : Int) := by omega
      have hx2 : (m : Int) < (es.length : Int) := by omega
      have hB := below_up hB2 (by omega) hbw
      obtain ⟨be, oe, rfl, hbl, hcell⟩ := (hse.up hB).at_ hlt
      have q0 := hcell 0 _ rfl
      have q1 := hcell 1 _ rfl
      have q2 := hcell 2 _ rfl
      have q3 := hcell 3 _ rfl
      have q4 := hcell 4 _ rfl
      rw [Nat.add_zero] at q0
      clear hcell
      obtain ⟨_, _, _, hne, ⟨m0, m1⟩, r0, r1⟩ := Entry.ok_iff.1 (HOK.out _ (List.getElem_mem hlt))
      have hbd := movedR_bd (acc := acc) (ref := es[m].ref) (es := es.take m) (fun e he => HOK.out e (List.mem_of_mem_take he))
      rw [List.length_take] at hbd
      have hv := HM.out.at_ es[m].ref
      rw [if_neg (by simp)] at hv
      rw [← hv] at hbd
      have HB := Lib.hid (show -5000000000000 ≤ getI D es[m].ref ∧ getI D es[m].ref ≤ 5000000000000 by omega)
      have HTK := Lib.hid (List.take_succ_eq_append_getElem hlt)
      have HNE := Lib.hid hne
      clear hbd hv hne
      have hlw : w2.heap.size < wr.heap.size := by omega
      by_cases t1 : es[m].debit = acc
      · have s1 : (acc == es[m].debit) = true := by simpa using t1.symm
        have HT := Lib.hid t1
        clear t1
        gi_wp2_with (first
          | (gi_at_lookup; go_loud (refine wpListIn_lookup_own_int _ rfl (.tmp 53) (.tmp 55) 76 rfl 3 3 .i64 keyedI' Tryz.underlying76 Tryz.underlying3 (zero_int _) w2.heap.size _ D rfl (hown.alloc _) _ _ rfl (keyOf_int_mk Tryz.underlying3 (WalkArith.wf_i64 (by omega))) ?_); intro c1 hat1 hwc1; have HG1 := Lib.hid (getI_of hat1); clear hat1 hwc1; obtain ⟨v1, v2⟩ : -5000000000000 ≤ c1 ∧ c1 ≤ 5000000000000 := by (rw [← HG1.out]; exact HB.out))
          | (gi_at_mapUpdate; go_loud (refine wpListIn_mapUpdate_own _ rfl (.tmp 53) (.tmp 55) (.tmp 59) 76 rfl 3 3 keyedI' Tryz.underlying76 _ w2.heap.size _ D rfl (hown.alloc _) (by unfold maxLen; omega) _ _ _ rfl rfl (keyOf_int_mk Tryz.underlying3 (WalkArith.wf_i64 (by omega))) _ [] (plainElem_int Tryz.underlying3 (WalkArith.wf_i64 (by omega))) ?_); intro w4 hown4 hgrow4))
        have hg4 := (World.grownBy_alloc wr (.cells #[.int .i64 es[m].day, .int .i64 es[m].debit, .int .i64 es[m].credit, .int .i64 es[m].cents, .int .i64 es[m].ref] 60) (some w2.heap.size)).trans hgrow4
        go_roundw
        case rel => exact ⟨m + 1, _, by omega, by go_num, hown4, Lib.hid (by rw [HTK.out]; exact HM.out.plus HT.out (fun e => HNE.out (HT.out.trans e.symm)) HG1.out), hg4.cell hbox (by simp), Nat.lt_of_lt_of_le hsz hg4.size, hbw.grown hg4 hbz (fun k e => by injection e with e; omega)⟩
        case measure => simp [intOf]; omega
      · have s1 : (acc == es[m].debit) = false := by rw [beq_eq_false_iff_ne]; exact fun e => t1 e.symm
        have HT := Lib.hid t1
        clear t1
        by_cases t2 : es[m].credit = acc
        · have s2 : (acc == es[m].credit) = true := by simpa using t2.symm
          have HT2 := Lib.hid t2
          clear t2
          gi_wp2_with (first
            | (gi_at_lookup; go_loud (refine wpListIn_lookup_own_int _ rfl (.tmp 64) (.tmp 66) 76 rfl 3 3 .i64 keyedI' Tryz.underlying76 Tryz.underlying3 (zero_int _) w2.heap.size _ D rfl (hown.alloc _) _ _ rfl (keyOf_int_mk Tryz.underlying3 (WalkArith.wf_i64 (by omega))) ?_); intro c1 hat1 hwc1; have HG1 := Lib.hid (getI_of hat1); clear hat1 hwc1; obtain ⟨v1, v2⟩ : -5000000000000 ≤ c1 ∧ c1 ≤ 5000000000000 := by (rw [← HG1.out]; exact HB.out))
            | (gi_at_mapUpdate; go_loud (refine wpListIn_mapUpdate_own _ rfl (.tmp 64) (.tmp 66) (.tmp 70) 76 rfl 3 3 keyedI' Tryz.underlying76 _ w2.heap.size _ D rfl (hown.alloc _) (by unfold maxLen; omega) _ _ _ rfl rfl (keyOf_int_mk Tryz.underlying3 (WalkArith.wf_i64 (by omega))) _ [] (plainElem_int Tryz.underlying3 (WalkArith.wf_i64 (by omega))) ?_); intro w4 hown4 hgrow4))
          have hg4 := (World.grownBy_alloc wr (.cells #[.int .i64 es[m].day, .int .i64 es[m].debit, .int .i64 es[m].credit, .int .i64 es[m].cents, .int .i64 es[m].ref] 60) (some w2.heap.size)).trans hgrow4
          go_roundw
          case rel => exact ⟨m + 1, _, by omega, by go_num, hown4, Lib.hid (by rw [HTK.out]; exact HM.out.minus HT.out HT2.out HG1.out), hg4.cell hbox (by simp), Nat.lt_of_lt_of_le hsz hg4.size, hbw.grown hg4 hbz (fun k e => by injection e with e; omega)⟩
          case measure => simp [intOf]; omega
        · have s2 : (acc == es[m].credit) = false := by rw [beq_eq_false_iff_ne]; exact fun e => t2 e.symm
          have HT2 := Lib.hid t2
          clear t2
          gi_wp2
          go_roundw
          case rel => exact ⟨m + 1, D, by omega, by go_num, (hown.alloc _).mono (by omega), Lib.hid (by rw [HTK.out]; exact HM.out.same HT.out HT2.out), by go_simp, by simp; omega, hbw.alloc hbz _⟩
          case measure => simp [intOf]; omega
    · obtain rfl : m = es.length := by omega
      rw [List.take_of_length_le (Nat.le_refl _)] at HM
      gi_wp2_with (refine ⟨trivial, ?_⟩; gi_at_call 74; refine (callsIn_wide.2 (of_any A l.length c ch _)).mono ?_; rintro e w5 ⟨rfl, hw5⟩)
      have hb5 : Below wr.heap.size wr w5 := by
        rw [hw5]
        repeat' (first
          | (with_reducible exact Below.refl _ _)
          | (with_reducible assumption)
          | (with_reducible refine below_drewN ?_ _)
          | (with_reducible refine Below.drew ?_)
          | (with_reducible refine below_regrown_up _ _ ?_ ?_)
          | (with_reducible refine Below.alloc ?_ ?_ _)
          | (with_reducible refine Below.setCell ?_ ?_ _)
          | (with_reducible refine below_up ?_ ?_ (by assumption))
          | (with_reducible exact Nat.le_refl _)
          | omega
          | (simp; done)
          | (simp; omega))
      have hB0 : Below w.heap.size w wr := below_up hB2 (by omega) hbw
      have hB5 : Below w.heap.size w w5 := below_up hB0 hB0.size hb5
      have hws : w5.heap.size = wr.heap.size + 1 + 1 + 1 := by rw [hw5]; simp
      obtain ⟨hc5, hf5⟩ := bcellB (B := w2.heap.size + 1 + 1) hb5 (by omega)
      obtain ⟨hcr, hfr⟩ := bcellB (B := w1.heap.size + 1) hbw (by omega)
      obtain ⟨hc2, hf2⟩ := bcellB (B := w1.heap.size + 1) hb2 (by simp)
      have hlA : w.heap.size + 1 < w1.heap.size := by omega
      have hlB : w.heap.size + 1 + 1 < w1.heap.size := by omega
      have k0 : w5.cell? ⟨wr.heap.size, 0, none⟩ = some (.int .i64 0) := by rw [hw5]; go_simp
      have k1 : w5.frozen? ⟨wr.heap.size, 0, none⟩ = false := by rw [hw5]; go_simp
      have k2 : w5.cell? ⟨wr.heap.size + 1, 0, none⟩ = some (.slice A L.length c) := by rw [hw5]; have e := congrArg List.length HL.out; rw [List.length_map] at e; rw [e]; go_simp
      have k3 : w5.cell? ⟨wr.heap.size + 1 + 1, 0, none⟩ = some (.int .i64 ch) := by rw [hw5]; go_simp
      have k4 : w5.cell? ⟨w2.heap.size + 1, 0, none⟩ = some (.map (some w2.heap.size)) := by rw [hc5 _ _ (by omega)]; exact hbox
      have k5 : w5.cell? ⟨w1.heap.size, 0, none⟩ = some (.slice A1 want.length c1') := by rw [hc5 _ _ (by omega), hcr _ _ (by omega), hc2 _ _ (by omega)]; go_simp
      have k6 : w5.cell? ⟨w.heap.size + 1, 0, none⟩ = some (.bool false) := by rw [hc5 _ _ (by omega), hcr _ _ (by omega), hc2 _ _ (by omega)]; go_simp
      have k7 : w5.cell? ⟨w.heap.size + 1 + 1, 0, none⟩ = some (.int .i64 0) := by rw [hc5 _ _ (by omega), hcr _ _ (by omega), hc2 _ _ (by omega)]; go_simp
      have g6 : w5.frozen? ⟨w.heap.size + 1, 0, none⟩ = false := by rw [hf5 _ _ (by omega), hfr _ _ (by omega), hf2 _ _ (by omega)]; go_simp
      have g7 : w5.frozen? ⟨w.heap.size + 1 + 1, 0, none⟩ = false := by rw [hf5 _ _ (by omega), hfr _ _ (by omega), hf2 _ _ (by omega)]; go_simp
      have hs15 : Sl w5 w1.heap.size 1 intC A1 want := by
        have hbb : Below w1.heap.size w1 w5 := below_up (below_up (below_up ((Below.refl _ _).alloc (Nat.le_refl _) _) (by simp) hb2) (by omega) hbw) (by omega) hb5
        exact hs1.below hbb
      have h00 : AgI w w1.heap.size w2.heap.size wr.heap.size es.length es acc want A1 c1' [] w5 :=
        ⟨⟨D, hown.kept (grownBy_below hb5 none) (by simp), by simpa [stays] using HM.out⟩, k4, k0, k1, k5, k6, k7, g6, g7, valsOk_nil _ _ _, hs15, by omega, hB5⟩
      have hXs : ∀ k, (k < w.heap.size ∨ k = wr.heap.size + 1 ∨ k = wr.heap.size + 1 + 1) → k < w5.heap.size := fun k hk => by rcases hk with h | h | h <;> omega
      have hst5 := of_stops 8 (by omega) (wr.heap.size + 1) (wr.heap.size + 1 + 1) (fun k => k < w.heap.size ∨ k = wr.heap.size + 1 ∨ k = wr.heap.size + 1 + 1) L ch A c w5
        (.inr (.inl rfl)) (.inr (.inr rfl)) (fun hne bk off e => by
          obtain ⟨b', off', e', hlt, _⟩ := hs (by rw [← HL.out, ne_eq, List.map_eq_nil_iff]; exact hne)
          rw [e] at e'
          injection e' with e'
          injection e' with e1 e2
          exact .inl (by omega)) hXs k2 k3 (by rw [HL.out]; exact (hs.below hB5).more (by have := hB5.size; omega)) (by have e := congrArg List.length HL.out; rw [List.length_map] at e; omega)
      rw [← hw5]
      clear k0 k1 k2 k3 k4 k5 k6 k7 g6 g7
      refine wpIn_rangeFunc_ownH (w := w5) rfl (by omega) (gf := 101) (lb := #[.pointer (some ⟨wr.heap.size + 1, 0, none⟩), .pointer (some ⟨wr.heap.size + 1 + 1, 0, none⟩)]) rfl trivial (enters_of Tryz.func101 (by kernel_rfl) rfl)
        hst5 (fun h k => ⟨h.1.trans k.1, Nat.le_trans h.2 k.2⟩) (fun W l o o' h1 h2 h3 h4 => ⟨keepOn_b hXs W l o o' h1 h2 h3 h4, by simp⟩) (Below.refl _ _) (fun _ => rfl)
        (AgI w w1.heap.size w2.heap.size wr.heap.size es.length es acc want A1 c1') (AgX w es acc want) (agI_own (by omega) (by omega)) (fun c => agX_own (by omega)) h00
        (fun x a' W => ∃ Bx, wr.heap.size + 1 + 1 < Bx ∧ Bx < W.heap.size ∧ (∀ (j : Nat) (u : Value), x.1.cs[j]? = some u → W.cell? ⟨Bx, j, none⟩ = some u) ∧ a' = { tmps := #[Value.agg #[Value.int IntKind.i64 p, Value.int IntKind.i64 d], Value.slice A l.length c, Value.int IntKind.i64 ch, Value.slice B st.length cB, Value.slice E es.length cE, Value.pointer (some { block := w.heap.size, off := 0 }), undef, undef, undef, undef, Value.pointer (some { block := w.heap.size + 1, off := 0 }), Value.pointer (some { block := w.heap.size + 1 + 1, off := 0 }), Value.pointer (some { block := w1.heap.size, off := 0 }), Value.int IntKind.i64 s, Value.int IntKind.i64 0, Value.int IntKind.i64 acc, Value.pointer (some { block := w2.heap.size + 1, off := 0 }), undef, u18, Value.pointer (some { block := wr.heap.size, off := 0 }), Value.pointer (some { block := Bx, off := 0 }), undef, undef, Value.tuple #[Value.slice A1 want.length c1', Value.int IntKind.i64 s, Value.int IntKind.i64 0], Value.agg #[Value.int IntKind.i64 p, Value.int IntKind.i64 d], Value.slice A l.length c, Value.int IntKind.i64 ch, Value.tuple #[Value.slice A1 want.length c1', Value.int IntKind.i64 s, Value.int IntKind.i64 0], Value.slice A1 want.length c1', Value.int IntKind.i64 s, Value.int IntKind.i64 0, Value.bool false, Value.int IntKind.i64 0, Value.bool false, undef, Value.bool false, Value.slice E es.length cE, Value.bool true, Value.bool false, Value.int IntKind.i64 ch, Value.int IntKind.i64 acc, Value.map (some w2.heap.size), Value.slice E es.length cE, Value.int IntKind.i64 es.length, Value.int IntKind.i64 es.length, Value.bool false, u46, u47, u48, u49, u50, u51, u52, u53, u54, u55, u56, u57, u58, u59, u60, u61, u62, u63, u64, u65, u66, u67, u68, u69, u70, u71, Value.slice A l.length c, Value.int IntKind.i64 ch, Value.func (Fn.func 101) #[] #[Value.pointer (some { block := wr.heap.size + 1, off := 0 }), Value.pointer (some { block := wr.heap.size + 1 + 1, off := 0 })], x.1.v, undef, undef, undef, undef, undef, undef, undef, undef, undef, undef, undef, undef, undef, undef, undef, undef, undef, undef, undef, undef, undef, undef, undef, undef, undef], defers := [] })
        (fun x a' _ X Y row hs hg hr => by obtain ⟨Bx, h1, h2, h3, h4⟩ := hs; exact ⟨Bx, h1, size_keptN h2 hg, fun j u hu => cell_kept (h3 j u hu) hg (fun r e => (hr r e).2), h4⟩)
        ?assign ?body ?done ?stop
      case assign =>
        intro l pre x W K hI hK
        gi_wp2
        refine hK _ _ ((KeepsOthers.alloc _ _).from _) ⟨(KeepOn.refl _ W).alloc (fun k hk => by have := hXs k hk; have := hI.size; omega) _, by simp⟩ ((agI_own (B := w5.heap.size) (by omega) (by omega)).alloc _ hI) ⟨W.heap.size, by have := hI.size; omega, by simp, news_new _ _ _ _ rfl, rfl⟩
      case body =>
        rintro l' pre x a' W hl' ⟨r, hr⟩ hI ⟨Bx, hBx, hBxs, hcx, rfl⟩ hlen
        dsimp only []
        obtain ⟨b, hbk⟩ := x
        obtain ⟨s0, s1⟩ := (Bill.ok_iff.1 hbk).2.2.2.1
        simp only at hcx
        have cx := hcx 0 _ rfl
        have hkw : pre.length < want.length := by rw [HWL.out]; exact hlen
        have hpl : (ofB L ch).length ≤ 3000 := by
          have h1 := List.length_filter_le (fun b : BOk => b.1.channel == ch) L
          have h2 := congrArg List.length HL.out
          rw [List.length_map] at h2
          unfold ofB
          omega
        have hx1 : (0 : Int) ≤ (pre.length : Int) := by omega
        have hx2 : (pre.length : Int) < (want.length : Int) := by omega
        obtain ⟨D, hownW, hMv⟩ := hI.map_
        obtain ⟨b1, o1, rfl, hbl1, hcell1⟩ := hI.sl.at_ hkw
        have p1 := hcell1 0 _ rfl
        rw [Nat.add_zero, Nat.mul_one] at p1
        have i1 := hI.mbox
        have i2 := hI.kbox
        have i3 := hI.fk
        have i4 := hI.wbox
        have i5 := hI.r0
        have i6 := hI.r1
        have i7 := hI.f0
        have i8 := hI.f1
        have hszW := hI.size
        obtain ⟨cv, hrun, hat, hwc⟩ := (hownW.drew).lookup_int (t := 76) keyedI' Tryz.underlying76 Tryz.underlying3 (zero_int _) (key := .int .i64 b.stay) (keyOf_int_mk Tryz.underlying3 (WalkArith.wf_i64 (by omega)))
        have hcv : valAt es acc pre ⟨b, hbk⟩ = cv := by
          have h1 := getI_of hat
          rw [hMv.at_] at h1
          exact h1
        have HCV := Lib.hid hcv
        have HMV := Lib.hid hMv
        have HI := Lib.hid hI
        clear hcv hMv hI hcx hcell1 hat hwc
        obtain ⟨wk, hwk⟩ : ∃ wk, want[pre.length] = wk := ⟨_, rfl⟩
        rw [hwk] at p1
        by_cases he : cv = wk
        · have heb : (cv != wk) = false := by simpa using he
          have HE := Lib.hid he
          have HWK := Lib.hid hwk
          clear he hwk
          gi_wp2
          refine region_round_quiet rfl (by kernel_rfl) (by kernel_rfl) (by kernel_rfl) (by kernel_rfl) ?_
          (refine quiet_one (.map (some w2.heap.size)) (by first | rfl | (simp [Oper.about])) rfl (by go_simp) ?_)
          (refine quiet_one (.pointer (some ⟨Bx, 0, none⟩)) (by first | rfl | (simp [Oper.about])) rfl (by go_simp) ?_)
          (refine quiet_one (.int .i64 b.stay) (by first | rfl | (simp [Oper.about])) rfl (by go_simp) ?_)
          (refine quiet_one (.int .i64 cv) (by first | rfl | (simp [Oper.about])) rfl (by go_simp) ?_)
          (refine quiet_one (.slice (some ⟨b1, o1, none⟩) want.length c1') (by first | rfl | (simp [Oper.about])) rfl (by go_simp) ?_)
          (refine quiet_one (.int .i64 pre.length) (by first | rfl | (simp [Oper.about])) rfl (by go_simp) ?_)
          (refine quiet_one (.pointer (some ⟨b1, o1 + pre.length, none⟩)) (by first | rfl | (simp [Oper.about])) rfl (by go_simp) ?_)
          (refine quiet_one (.int .i64 wk) (by first | rfl | (simp [Oper.about])) rfl (by go_simp) ?_)
          (refine quiet_one (.bool false) (by first | rfl | (simp [Oper.about])) rfl (by go_simp) ?_)
          refine wpQuietIn_nil ?_
          show Exit.then _ _ _ _ _
          go_simp
          gi_wp2_with (gi_at_delete; go_loud (refine wpListIn_delete_own _ rfl (.tmp 85) (.tmp 87) 76 3 rfl 3 keyedI' Tryz.underlying76 _ w2.heap.size _ D rfl hownW.drew _ _ rfl (keyOf_int_mk Tryz.underlying3 (WalkArith.wf_i64 (by omega))) ?_); intro w7 hown7 hturn7; have i27 : w7.cell? ⟨wr.heap.size, 0, none⟩ = some (.int .i64 pre.length) := hturn7.grown.cell i2 (by simp; omega); have i37 : w7.frozen? ⟨wr.heap.size, 0, none⟩ = false := (hturn7.frozen _).trans i3)
          have hg7 : W.grownBy w7 (some w2.heap.size) := ⟨hturn7.grown.os, hturn7.grown.tape, hturn7.grown.output, hturn7.grown.size, hturn7.grown.block⟩
          have hcell : ∀ (q : Addr) (v : Value), q.block ≠ w2.heap.size → q.block ≠ wr.heap.size → W.cell? q = some v → (w7.setCell ⟨wr.heap.size, 0, none⟩ (.int .i64 (pre.length + 1))).cell? q = some v := fun q v h1 h2 h => (World.cell?_setCell_other _ _ _ _ (fun e => h2 (by first | rw [e] | rw [← e]))).trans (hg7.cell h (by simpa using h1))
          have hfro : ∀ q : Addr, (w7.setCell ⟨wr.heap.size, 0, none⟩ (.int .i64 (pre.length + 1))).frozen? q = W.frozen? q := fun q => by rw [World.frozen?_setCell]; exact hturn7.frozen q
          have hss : stays ((pre ++ [(⟨b, hbk⟩ : BOk)]).map (·.1)) = stays (pre.map (·.1)) ++ [b.stay] := by rw [List.map_append]; unfold stays; rw [List.map_append]; rfl
          have hmb : w2.heap.size ≠ wr.heap.size := by omega
          refine ⟨⟨Nat.le_trans hg7.size (by simp), fun k o hB ho hc => (KeepsOthers.setCell w7 _ _).same _ _ ((hg7.block k (Array.getElem?_eq_some_iff.1 ho).1 (fun e => by injection e with e; omega)).trans ho) hc⟩, ⟨((KeepOn.refl _ W).grown (fun k hk => by have := hXs k hk; omega) hg7 (fun k e hk => by injection e with e; subst e; rcases hk with h | h | h <;> omega)).setCell (fun hk => by simp only at hk; omega) _, Nat.le_trans hg7.size (by simp)⟩, ⟨⟨delI D b.stay, ?_, by rw [hss]; exact HMV.out.del b.stay⟩, ?_, ?_, ?_, ?_, ?_, ?_, ?_, ?_, ?_, ?_, ?_, ?_⟩⟩
          · obtain ⟨es', clock, hb', rest⟩ := hown7
            exact ⟨es', clock, (Below.heap_setCell w7 _ _ _ hmb).trans hb', rest⟩
          · exact hcell _ _ (by simp) (by simp only; omega) i1
          · rw [World.cell?_setCell_same _ _ _ i27, List.length_append]; rfl
          · rw [hfro]; exact i3
          · exact hcell _ _ (by simp only; omega) (by simp only; omega) i4
          · exact hcell _ _ (by simp only; omega) (by simp only; omega) i5
          · exact hcell _ _ (by simp only; omega) (by simp only; omega) i6
          · rw [hfro]; exact i7
          · rw [hfro]; exact i8
          · exact valsOk_snoc HI.out.vals hkw (by rw [HCV.out, HE.out, HWK.out])
          · intro hl
            obtain ⟨b', off, e, hlt', hc⟩ := HI.out.sl hl
            exact ⟨b', off, e, hlt', fun k hk j v hv => hcell ⟨b', _, none⟩ v (by simp only; omega) (by simp only; omega) (hc k hk j v hv)⟩
          · have := hg7.size
            simp
            omega
          · exact (HI.out.below.grown hg7 HI.out.below.size (fun k e => by injection e with e; omega)).setCell (by simp only; omega) _
        · have heb : (cv != wk) = true := by simpa using he
          have HE := Lib.hid he
          have HWK := Lib.hid hwk
          clear he hwk
          gi_wp2
          refine region_round_quiet rfl (by kernel_rfl) (by kernel_rfl) (by kernel_rfl) (by kernel_rfl) ?_
          (refine quiet_one (.map (some w2.heap.size)) (by first | rfl | (simp [Oper.about])) rfl (by go_simp) ?_)
          (refine quiet_one (.pointer (some ⟨Bx, 0, none⟩)) (by first | rfl | (simp [Oper.about])) rfl (by go_simp) ?_)
          (refine quiet_one (.int .i64 b.stay) (by first | rfl | (simp [Oper.about])) rfl (by go_simp) ?_)
          (refine quiet_one (.int .i64 cv) (by first | rfl | (simp [Oper.about])) rfl (by go_simp) ?_)
          (refine quiet_one (.slice (some ⟨b1, o1, none⟩) want.length c1') (by first | rfl | (simp [Oper.about])) rfl (by go_simp) ?_)
          (refine quiet_one (.int .i64 pre.length) (by first | rfl | (simp [Oper.about])) rfl (by go_simp) ?_)
          (refine quiet_one (.pointer (some ⟨b1, o1 + pre.length, none⟩)) (by first | rfl | (simp [Oper.about])) rfl (by go_simp) ?_)
          (refine quiet_one (.int .i64 wk) (by first | rfl | (simp [Oper.about])) rfl (by go_simp) ?_)
          (refine quiet_one (.bool true) (by first | rfl | (simp [Oper.about])) rfl (by go_simp) ?_)
          refine wpQuietIn_nil ?_
          show Exit.then _ _ _ _ _
          go_simp
          gi_wp2
          refine ⟨(((KeepsOthers.setCell W _ _).trans (KeepsOthers.setCell _ _ _)).trans (KeepsOthers.drew _)).from _, rfl, ⟨pre, _, rfl, hkw, fun h => HE.out (by rw [← HCV.out, h, HWK.out])⟩, ?_, ?_, ?_⟩
          · go_simp
          · exact World.cell?_setCell_same _ _ _ (u := .int .i64 0) (by go_simp)
          · exact ((HI.out.below.setCell (p := ⟨w.heap.size + 1, 0, none⟩) (by simp) _).setCell (p := ⟨w.heap.size + 1 + 1, 0, none⟩) (by simp; omega) _).drew
      case done =>
        rintro D' xs W hD rfl hI hK
        obtain ⟨D, hownW, hMv⟩ := hI.map_
        have i1 := hI.mbox
        have i4 := hI.wbox
        have i5 := hI.r0
        have i6 := hI.r1
        have i7 := hI.f0
        have i8 := hI.f1
        have hszW := hI.size
        have hbl := hI.below
        have hml := movedL_ok HND.out HWL.out hI.vals
        have HML := Lib.hid hml
        have HMV := Lib.hid hMv
        clear hml hMv
        gi_wp2_with (gi_at_range; go_loud (refine wpListIn_range_own _ rfl _ 76 rfl 3 3 keyedI' Tryz.underlying76 _ w2.heap.size _ D rfl hownW ?_); intro w8 hrg8 hg8 hs8; go_frame)
        have hb8 : Below W.heap.size W w8 := ⟨hg8.os, hg8.tape, hg8.output, hg8.size, fun i hi => hg8.block i hi (by simp)⟩
        gi_loopw [22] (fun _ wr2 => ∃ (left : Lit → Bool) (cnt : Nat), wr2.ranges Tryz.prog 3 (plainElem (H := Unit) Tryz.prog 3) w2.heap.size W.heap.size es.length D left cnt ∧ Hid (∀ a, left (kI a) = false → getI D a = 0) ∧ Below W.heap.size W wr2) (fun _ wr2 => wr2.rangeLeft w2.heap.size W.heap.size)
        case atStart => exact ⟨_, _, hrg8, Lib.hid (fun a h => getI_absent h), hb8⟩
        case round =>
          obtain ⟨left, cnt, hrg, hleft, hbw2⟩ := hrel
          have hbz2 := hbw2.size
          have hBw : Below w.heap.size w wr := below_up hbl hbl.size hbw2
          have y4 : wr.cell? ⟨w1.heap.size, 0, none⟩ = some (.slice A1 want.length c1') := (hbw2.cell (p := ⟨w1.heap.size, 0, none⟩) (by simp only; omega)).trans i4
          have y5 : wr.cell? ⟨w.heap.size + 1, 0, none⟩ = some (.bool false) := (hbw2.cell (p := ⟨w.heap.size + 1, 0, none⟩) (by simp only; omega)).trans i5
          have y6 : wr.cell? ⟨w.heap.size + 1 + 1, 0, none⟩ = some (.int .i64 0) := (hbw2.cell (p := ⟨w.heap.size + 1 + 1, 0, none⟩) (by simp only; omega)).trans i6
          have y7 : wr.frozen? ⟨w.heap.size + 1, 0, none⟩ = false := (hbw2.frozen (p := ⟨w.heap.size + 1, 0, none⟩) (by simp only; omega)).trans i7
          have y8 : wr.frozen? ⟨w.heap.size + 1 + 1, 0, none⟩ = false := (hbw2.frozen (p := ⟨w.heap.size + 1 + 1, 0, none⟩) (by simp only; omega)).trans i8
          have hslw : SlInt wr A1 want := (hI.sl.below (hbw2.mono (by omega))).more (by omega)
          have hstw : SlInt wr B st := hst.up hBw
          have hwn : want.length ≤ 1000000000000 := by
            have h1 := List.length_filter_le (fun b : BOk => b.1.channel == ch) L
            have h3 := congrArg List.length HL.out
            rw [List.length_map] at h3
            rw [HWL.out]
            unfold ofB
            omega
          gi_wp2_with (gi_at_next; refine wpListIn_next_ranges_ii _ rfl _ rfl 3 3 .i64 .i64 keyedI' Tryz.underlying3 Tryz.underlying3 w2.heap.size W.heap.size es.length _ _ _ rfl hrg ?_ ?_)
          · intro _ hl0
            have hfin : agreesR p d l ch st es = (decide (want = st), 0) := by
              rw [HA.out, agrees_done HML.out]
              intro r hr'
              have h1 := hleft.out r (hl0 _)
              rw [HMV.out.at_, if_neg hr'] at h1
              exact h1
            have HF := Lib.hid hfin
            clear hfin hl0
            gi_wp2_with (refine ⟨trivial, ?_⟩; gi_at_call 75; refine (callsIn_wide.2 (equal_ints_any want st A1 B c1' cB _ hslw hstw hwn)).mono ?_; rintro e w9 ⟨rfl, hb9⟩; obtain ⟨hc9, hf9⟩ := bcellB (B := w1.heap.size + 1) hb9 (by omega); have hz9 := hb9.size; have z5 : w9.cell? ⟨w.heap.size + 1, 0, none⟩ = some (.bool false) := (hc9 _ _ (by omega)).trans y5; have z6 : w9.cell? ⟨w.heap.size + 1 + 1, 0, none⟩ = some (.int .i64 0) := (hc9 _ _ (by omega)).trans y6; have z7 : w9.frozen? ⟨w.heap.size + 1, 0, none⟩ = false := (hf9 _ _ (by omega)).trans y7; have z8 : w9.frozen? ⟨w.heap.size + 1 + 1, 0, none⟩ = false := (hf9 _ _ (by omega)).trans y8)
            have hbW9 : Below W.heap.size W w9 := below_up hbw2 hbz2 hb9
            have hK' := (show KeepsOthers W ((w9.setCell ⟨w.heap.size + 1, 0, none⟩ (.bool (decide (want = st)))).setCell ⟨w.heap.size + 1 + 1, 0, none⟩ (.int .i64 0)) from (((keepsOthers_of_below hbW9).trans (KeepsOthers.setCell _ _ _)).trans (KeepsOthers.setCell _ _ _))).same D' _ hK rfl
            have d0 := cell_kept (W := ((w9.setCell ⟨w.heap.size + 1, 0, none⟩ (.bool (decide (want = st)))).setCell ⟨w.heap.size + 1 + 1, 0, none⟩ (.int .i64 0))) (v := .bool (decide (want = st))) (a := ⟨w.heap.size + 1, 0, none⟩) (by go_simp) (grownBy_putObj' _ D' (.deferred none)) (fun r e => by cases e; exact ⟨_, hK', rfl⟩)
            have d1 := cell_kept (W := ((w9.setCell ⟨w.heap.size + 1, 0, none⟩ (.bool (decide (want = st)))).setCell ⟨w.heap.size + 1 + 1, 0, none⟩ (.int .i64 0))) (v := .int .i64 0) (a := ⟨w.heap.size + 1 + 1, 0, none⟩) (World.cell?_setCell_same _ _ _ (u := .int .i64 0) (by go_simp)) (grownBy_putObj' _ D' (.deferred none)) (fun r e => by cases e; exact ⟨_, hK', rfl⟩)
            refine ⟨by simp, .inl ⟨_, _, rfl, run_takeDeferred hK', ?_⟩⟩
            refine ⟨.tuple #[.bool (decide (want = st)), .int .i64 0], ?_, ?_, ?_⟩
            · simp [results, Tryz.f42, go_sem, d0, d1]
            · exact (by rw [HF.out]; rfl)
            · exact ((((below_up hBw (by omega) hb9).setCell (p := ⟨w.heap.size + 1, 0, none⟩) (by simp) _).setCell (p := ⟨w.heap.size + 1 + 1, 0, none⟩) (by simp; omega) _)).trans (belowK_b (w := w) (Nat.le_refl _) _ D' _ _ (by omega) hK' rfl rfl)
          · intro a v w6 cnt6 hwa hwv hla hat hrg6 hlt6 hg6 hs6 hen
            have hga : getI D a = v := by unfold getI; rw [hat]; rfl
            have HGA := Lib.hid hga
            have hb6 : Below W.heap.size W w6 := hbw2.grown hg6 hbz2 (fun j e => by cases e; omega)
            clear hat hga hla hwa hwv
            by_cases hv : v = 0
            · have hvb : (v != 0) = false := by simpa using hv
              have HV := Lib.hid hv
              clear hv
              gi_wp2
              go_roundw
              case rel =>
                refine ⟨_, cnt6, hrg6, Lib.hid (fun a' h => ?_), hb6⟩
                simp only [Bool.and_eq_false_iff, Bool.not_eq_false'] at h
                rcases h with h | h
                · exact hleft.out a' h
                · have h1 := WideAt.sameKey_eq h
                  injection h1 with _ h1
                  subst h1
                  rw [HGA.out, HV.out]
              case measure => rw [hrg6.left_eq, hrg.left_eq]; exact hlt6
            · have hvb : (v != 0) = true := by simpa using hv
              have hfin : agreesR p d l ch st es = (false, 0) := by
                have h1 := HGA.out
                rw [HMV.out.at_] at h1
                by_cases hin : a ∈ stays ((ofB L ch).map (·.1))
                · rw [if_pos hin] at h1
                  exact absurd h1.symm hv
                · rw [if_neg hin] at h1
                  rw [HA.out, agrees_left hin (by rw [h1]; exact hv)]
              have HF := Lib.hid hfin
              clear hv hfin
              have z5 : w6.cell? ⟨w.heap.size + 1, 0, none⟩ = some (.bool false) := (hb6.cell (p := ⟨w.heap.size + 1, 0, none⟩) (by simp only; omega)).trans i5
              have z6 : w6.cell? ⟨w.heap.size + 1 + 1, 0, none⟩ = some (.int .i64 0) := (hb6.cell (p := ⟨w.heap.size + 1 + 1, 0, none⟩) (by simp only; omega)).trans i6
              have z7 : w6.frozen? ⟨w.heap.size + 1, 0, none⟩ = false := (hb6.frozen (p := ⟨w.heap.size + 1, 0, none⟩) (by simp only; omega)).trans i7
              have z8 : w6.frozen? ⟨w.heap.size + 1 + 1, 0, none⟩ = false := (hb6.frozen (p := ⟨w.heap.size + 1 + 1, 0, none⟩) (by simp only; omega)).trans i8
              gi_wp2
              have hK' := (show KeepsOthers W ((w6.setCell ⟨w.heap.size + 1, 0, none⟩ (.bool false)).setCell ⟨w.heap.size + 1 + 1, 0, none⟩ (.int .i64 0)) from (((keepsOthers_of_below hb6).trans (KeepsOthers.setCell _ _ _)).trans (KeepsOthers.setCell _ _ _))).same D' _ hK rfl
              have d0 := cell_kept (W := ((w6.setCell ⟨w.heap.size + 1, 0, none⟩ (.bool false)).setCell ⟨w.heap.size + 1 + 1, 0, none⟩ (.int .i64 0))) (v := .bool false) (a := ⟨w.heap.size + 1, 0, none⟩) (by go_simp) (grownBy_putObj' _ D' (.deferred none)) (fun r e => by cases e; exact ⟨_, hK', rfl⟩)
              have d1 := cell_kept (W := ((w6.setCell ⟨w.heap.size + 1, 0, none⟩ (.bool false)).setCell ⟨w.heap.size + 1 + 1, 0, none⟩ (.int .i64 0))) (v := .int .i64 0) (a := ⟨w.heap.size + 1 + 1, 0, none⟩) (World.cell?_setCell_same _ _ _ (u := .int .i64 0) (by go_simp)) (grownBy_putObj' _ D' (.deferred none)) (fun r e => by cases e; exact ⟨_, hK', rfl⟩)
              refine ⟨by simp, .inl ⟨_, _, rfl, run_takeDeferred hK', ?_⟩⟩
              refine ⟨.tuple #[.bool false, .int .i64 0], ?_, ?_, ?_⟩
              · simp [results, Tryz.f42, go_sem, d0, d1]
              · exact (by rw [HF.out]; rfl)
              · exact ((((below_up hbl hbl.size hb6).setCell (p := ⟨w.heap.size + 1, 0, none⟩) (by simp) _).setCell (p := ⟨w.heap.size + 1 + 1, 0, none⟩) (by simp; omega) _)).trans (belowK_b (w := w) (Nat.le_refl _) _ D' _ _ (by omega) hK' rfl rfl)
      case stop =>
        rintro D' c' pre W hD hpre hX hK
        obtain rfl := hX.c
        obtain ⟨pre', x, rfl, hlw, hne⟩ := hX.last
        have hbad := agrees_mismatch (st := st) HND.out hpre hlw hne
        have hfin : agreesR p d l ch st es = (false, 0) := by rw [HA.out, hbad]
        have HF := Lib.hid hfin
        have i5 := hX.r0
        have i6 := hX.r1
        have hbl := hX.below
        clear hbad hfin
        gi_wp2
        have hK' := (show KeepsOthers W W from KeepsOthers.refl W).same D' _ hK rfl
        have d0 := cell_kept (W := W) (v := .bool false) (a := ⟨w.heap.size + 1, 0, none⟩) i5 (grownBy_putObj' _ D' (.deferred none)) (fun r e => by cases e; exact ⟨_, hK', rfl⟩)
        have d1 := cell_kept (W := W) (v := .int .i64 0) (a := ⟨w.heap.size + 1 + 1, 0, none⟩) i6 (grownBy_putObj' _ D' (.deferred none)) (fun r e => by cases e; exact ⟨_, hK', rfl⟩)
        refine ⟨by simp, .inl ⟨_, _, rfl, run_takeDeferred hK', ?_⟩⟩
        refine ⟨.tuple #[.bool false, .int .i64 0], ?_, ?_, ?_⟩
        · simp [results, Tryz.f42, go_sem, d0, d1]
        · exact (by rw [HF.out]; rfl)
        · exact (hbl).trans (belowK_b (w := w) (Nat.le_refl _) _ D' _ _ (by omega) hK' rfl rfl)
end Go.Proofs.YtmlhoojcdidgkaaGreat
