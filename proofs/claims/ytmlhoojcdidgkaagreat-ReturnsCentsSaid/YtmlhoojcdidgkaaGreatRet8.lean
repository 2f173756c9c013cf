/-
  Package returns: whether a ledger agrees with everything.
-/
import Derived.Test.YtmlhoojcdidgkaaGreatRet3
import Derived.Test.YtmlhoojcdidgkaaGreatRet5
import Derived.Test.YtmlhoojcdidgkaaGreatRet7
namespace Go.Proofs.YtmlhoojcdidgkaaGreat
set_option linter.unusedSimpArgs false
set_option linter.unusedVariables false
open Go.RowKit Go.Maps
open Go.Sort (grow size_grow)


set_option maxHeartbeats 4000000
set_option maxRecDepth 100000
theorem risPart_any (p d : Int) (w : World) : Calls Tryz.prog 36 #[.agg #[.int .i64 p, .int .i64 d]] w fun e w' => e = .returned (.bool (partOk p d)) ∧ Below w.heap.size w w' := by
  have hst : stmtR p d [] 0 = ([], 0, if partOk p d = true then 0 else 1) := by
    cases h : partOk p d
    · rw [stmtR_no (by simp) (by rw [h]; rfl)]; rfl
    · rw [stmtR_ok (by simp) h (by decide) (by decide) (by simp [comms, ofCh])]; rfl
  have HST := Lib.hid hst
  clear hst
  go_enter Tryz.func36, Tryz.ntmps36
  go_wp2_with fail
  refine (cstmt_lit HST.out none 0 _ Sl.nil_ (by simp)).mono ?_
  rintro e w1 ⟨⟨A1, c1, rfl, _⟩, b1⟩
  have B1 : Below w.heap.size w w1 := below_up ((Below.refl _ w).alloc (Nat.le_refl _) _) (by simp) b1
  cases h : partOk p d
  all_goals
    go_wp2_with fail
    go_ret
    exact ⟨by rw [h]; rfl, B1⟩
def agreeR (es : List Entry) (bills : List Bill) (ts : List Tax) (p d : Int) : Bool × Int :=
  if checkR ts bills ≠ 0 then (false, checkR ts bills) else if (!ledOk es || !partOk p d) = true then (false, 1) else everyR (ask1R ts bills es) (ask2R p d bills es) (ask3R p d bills es, 0)
theorem grownBy_drew' {w w' : World} {row : Option Nat} (h : w.drew.grownBy w' row) : w.grownBy w' row := by
  obtain ⟨h1, h2, h3, h4, h5⟩ := h
  exact ⟨h1, h2, h3, h4, h5⟩
theorem agree_ok (es : List Entry) (bills : List Bill) (ts : List Tax) (p d : Int) (E B A : Option Addr) (cE cB cA : Nat) (w : World) (he : SlEnt w E es) (hs : SlBill w B bills) (ht : SlTax w A ts) (hl2 : ts.length ≤ 1000000000000)
    (h1 : checkR ts bills = 0) (h2 : ledOk es = true) (h3 : partOk p d = true) :
    Calls Tryz.prog 16 #[.slice E es.length cE, .slice B bills.length cB, .slice A ts.length cA, .agg #[.int .i64 p, .int .i64 d]] w fun e w' => e = .returned (.tuple #[.bool (agreeR es bills ts p d).1, .int .i64 (agreeR es bills ts p d).2]) ∧ Below w.heap.size w w' := by
  have hr : agreeR es bills ts p d = everyR (ask1R ts bills es) (ask2R p d bills es) (ask3R p d bills es, 0) := by unfold agreeR; rw [if_neg (by simp [h1]), h2, h3]; rfl
  obtain ⟨hb3, hbo, hto⟩ := checkR_zero.1 h1
  have hel := (ledOk_iff.1 h2).1
  have HOK := Lib.hid (ledOk_iff.1 h2).2.1
  have HCH := Lib.hid h1
  have HBO := Lib.hid (And.intro hbo (And.intro h2 h3))
  have HR := Lib.hid hr
  have hmm := @run_makeMap Tryz.prog
  clear h1 hto hr hbo
  go_enter Tryz.func16, Tryz.ntmps16
  go_wp2_with fail
  refine name_calls (fun w0 hw0 => ?_)
  have b0 : Below w.heap.size w w0 := by rw [hw0]; exact (by repeat' (first | (with_reducible exact Below.refl _ _) | (with_reducible assumption) | (with_reducible refine below_drewN ?_ _) | (with_reducible refine Below.drew ?_) | (with_reducible refine below_regrown_up _ _ ?_ ?_) | (with_reducible refine Below.alloc ?_ ?_ _) | (with_reducible refine Below.setCell ?_ ?_ _) | (with_reducible refine below_up ?_ ?_ (by assumption)) | (with_reducible exact Nat.le_refl _) | omega | (simp; done) | (simp; omega)))
  have hbox : Hid (∀ W, Below w0.heap.size w0 W → W.cell? ⟨w.heap.size, 0, none⟩ = some (.slice E es.length cE) ∧ W.cell? ⟨w.heap.size + 1, 0, none⟩ = some (.slice B bills.length cB) ∧ W.cell? ⟨w.heap.size + 1 + 1, 0, none⟩ = some (.slice A ts.length cA) ∧ W.cell? ⟨w.heap.size + 1 + 1 + 1, 0, none⟩ = some (.int .i64 p) ∧ W.cell? ⟨w.heap.size + 1 + 1 + 1, 1, none⟩ = some (.int .i64 d) ∧ w.heap.size + 1 + 1 + 1 < W.heap.size) := Lib.hid (fun W hb => by
    have hz0 : w.heap.size + 1 + 1 + 1 < w0.heap.size := by rw [hw0]; simp
    have e : ∀ b o, b < w0.heap.size → W.cell? ⟨b, o, none⟩ = w0.cell? ⟨b, o, none⟩ := fun b o h => hb.cell (p := ⟨b, o, none⟩) h
    have hz := hb.size
    refine ⟨?_, ?_, ?_, ?_, ?_, by omega⟩
    all_goals
      rw [e _ _ (by omega), hw0]
      go_simp)
  clear hw0
  refine (check_any ts bills A B cA cB w0 (ht.up b0) (hs.up b0) (by unfold maxLen; omega) hl2).mono ?_
  rintro e w1 ⟨rfl, b1⟩
  rw [HCH.out]
  have B1 := below_up b0 b0.size b1
  obtain ⟨k4, k5, k6, k70, k71, lk⟩ := hbox.out w1 b1
  go_wp2_with fail
  refine (lvalid_any es E cE w1 (he.up B1) (by omega)).mono ?_
  rintro e w2 ⟨rfl, b2⟩
  rw [HBO.out.2.1]
  have b02 := below_up b1 b1.size b2
  have B2 := below_up B1 B1.size b2
  clear k4 k5 k6 k70 k71 lk
  obtain ⟨k4, k5, k6, k70, k71, lk⟩ := hbox.out w2 b02
  go_wp2_with fail
  refine (risPart_any p d w2).mono ?_
  rintro e w3 ⟨rfl, b3⟩
  rw [HBO.out.2.2]
  have b03 := below_up b02 b02.size b3
  have B3 := below_up B2 B2.size b3
  clear k4 k5 k6 k70 k71 lk
  obtain ⟨k4, k5, k6, k70, k71, lk⟩ := hbox.out w3 b03
  have hmade := World.ownsMap_made w3 Tryz.prog 81 (plainElem (H := Unit) Tryz.prog 3)
  have lk1 : w.heap.size < w3.heap.size := by omega
  have lk2 : w.heap.size < w3.heap.size + 1 := by omega
  go_wp2_with fail
  go_loopw [33] (fun i wr => ∃ (m : Nat) (D : DM), m ≤ es.length ∧ i = .int .i64 m ∧ OwnP wr w3.heap.size (2 * m) D ∧ Hid (PairOf D (es.take m)) ∧ wr.cell? ⟨w3.heap.size + 1, 0, none⟩ = some (.map (some w3.heap.size)) ∧ w3.heap.size + 1 < wr.heap.size ∧ Below w3.heap.size w3 wr) (fun i _ => es.length - (intOf i).toNat)
  case atStart => exact ⟨0, .map [], by omega, rfl, hmade.alloc _, Lib.hid pairOf_empty, by go_simp, by simp, (by repeat' (first | (with_reducible exact Below.refl _ _) | (with_reducible assumption) | (with_reducible refine below_drewN ?_ _) | (with_reducible refine Below.drew ?_) | (with_reducible refine below_regrown_up _ _ ?_ ?_) | (with_reducible refine Below.alloc ?_ ?_ _) | (with_reducible refine Below.setCell ?_ ?_ _) | (with_reducible refine below_up ?_ ?_ (by assumption)) | (with_reducible exact Nat.le_refl _) | omega | (simp; done) | (simp; omega)))⟩
  case round =>
    obtain ⟨m, D, hm, rfl, hown, HM, hcell11, hsz, hbw⟩ := hrel
    have hbz := hbw.size
    by_cases hlt : m < es.length
    · have hx1 : (0 : Int) ≤ (m : Int) := by omega
      have hx2 : (m : Int) < (es.length : Int) := by omega
      obtain ⟨be, oe, rfl, hbl, hcell⟩ := (he.up (below_up B3 B3.size hbw)).at_ hlt
      have q0 := hcell 0 _ rfl
      have q1 := hcell 1 _ rfl
      have q2 := hcell 2 _ rfl
      have q3 := hcell 3 _ rfl
      have q4 := hcell 4 _ rfl
      rw [Nat.add_zero] at q0
      clear hcell
      obtain ⟨_, ⟨d1, d2⟩, ⟨g1, g2⟩, hne, ⟨m0, m1⟩, r0, r1⟩ := Entry.ok_iff.1 (HOK.out _ (List.getElem_mem hlt))
      have hbd := movedR_bd (acc := es[m].credit) (ref := es[m].ref) (es := es.take m) (fun e he => HOK.out e (List.mem_of_mem_take he))
      rw [List.length_take] at hbd
      have hv := HM.out.at_ es[m].credit es[m].ref (by omega) (by omega) (by omega) (by omega)
      go_wp2_with fail
      refine name_world (fun wE hwE => ?_)
      have bE : Below wr.heap.size wr wE := by rw [hwE]; exact (by repeat' (first | (with_reducible exact Below.refl _ _) | (with_reducible assumption) | (with_reducible refine below_drewN ?_ _) | (with_reducible refine Below.drew ?_) | (with_reducible refine below_regrown_up _ _ ?_ ?_) | (with_reducible refine Below.alloc ?_ ?_ _) | (with_reducible refine Below.setCell ?_ ?_ _) | (with_reducible refine below_up ?_ ?_ (by assumption)) | (with_reducible exact Nat.le_refl _) | omega | (simp; done) | (simp; omega)))
      have lE : wr.heap.size < wE.heap.size := by rw [hwE]; simp
      have x1 : wE.cell? ⟨wr.heap.size, 1, none⟩ = some (.int .i64 es[m].debit) := by rw [hwE]; go_simp
      have x2 : wE.cell? ⟨wr.heap.size, 2, none⟩ = some (.int .i64 es[m].credit) := by rw [hwE]; go_simp
      have x3 : wE.cell? ⟨wr.heap.size, 3, none⟩ = some (.int .i64 es[m].cents) := by rw [hwE]; go_simp
      have x4 : wE.cell? ⟨wr.heap.size, 4, none⟩ = some (.int .i64 es[m].ref) := by rw [hwE]; go_simp
      have x11 : wE.cell? ⟨w3.heap.size + 1, 0, none⟩ = some (.map (some w3.heap.size)) := (bE.cell (p := ⟨w3.heap.size + 1, 0, none⟩) hsz).trans hcell11
      have ownE : OwnP wE w3.heap.size (2 * m) D := hown.kept (grownBy_below bE none) (by simp)
      clear hwE q0 q1 q2 q3 q4
      obtain ⟨c1, st1, W1, hc1, hwc1, hl1, hme1, hl1', hg1, hst1⟩ := entry_pair (w := wE.drew) ownE.drew (by unfold maxLen; omega) es[m].credit es[m].ref (wf_small (by omega) (by omega)) (wf_small r0 r1)
      obtain ⟨v1, v2⟩ : -5000000000000 ≤ c1 ∧ c1 ≤ 5000000000000 := by omega
      obtain ⟨W2, hes1, own2, hg2⟩ := hst1 (c1 + es[m].cents) (WalkArith.wf_i64 (by omega))
      have hw1 : IntKind.i64.wrap (c1 + es[m].cents) = c1 + es[m].cents := IntWalk.i64_in _ (by omega)
      have S0 : Hid (wE.drew.cell? ⟨w3.heap.size + 1, 0, none⟩ = some (.map (some w3.heap.size)) ∧ wE.drew.cell? ⟨wr.heap.size, 2, none⟩ = some (.int .i64 es[m].credit) ∧ wE.drew.cell? ⟨wr.heap.size, 3, none⟩ = some (.int .i64 es[m].cents) ∧ wE.drew.cell? ⟨wr.heap.size, 4, none⟩ = some (.int .i64 es[m].ref)) := Lib.hid ⟨x11, x2, x3, x4⟩
      have S1 : Hid (W1.cell? ⟨w3.heap.size + 1, 0, none⟩ = some (.map (some w3.heap.size)) ∧ W1.cell? ⟨wr.heap.size, 2, none⟩ = some (.int .i64 es[m].credit) ∧ W1.cell? ⟨wr.heap.size, 3, none⟩ = some (.int .i64 es[m].cents) ∧ W1.cell? ⟨wr.heap.size, 4, none⟩ = some (.int .i64 es[m].ref)) := Lib.hid ⟨hg1.cell x11 (by simp), hg1.cell x2 (by simp; omega), hg1.cell x3 (by simp; omega), hg1.cell x4 (by simp; omega)⟩
      have S2 : Hid (W2.cell? ⟨w3.heap.size + 1, 0, none⟩ = some (.map (some w3.heap.size)) ∧ W2.cell? ⟨wr.heap.size, 2, none⟩ = some (.int .i64 es[m].credit) ∧ W2.cell? ⟨wr.heap.size, 3, none⟩ = some (.int .i64 es[m].cents) ∧ W2.cell? ⟨wr.heap.size, 4, none⟩ = some (.int .i64 es[m].ref)) := Lib.hid ⟨hg2.cell x11 (by simp), hg2.cell x2 (by simp; omega), hg2.cell x3 (by simp; omega), hg2.cell x4 (by simp; omega)⟩
      clear hst1
      go_cut [37] (fun x W => x = .map (some w3.heap.size) ∧ W = W2)
      case first =>
        go_region_held3 (fun W => W.cell? ⟨w3.heap.size + 1, 0, none⟩ = some (.map (some w3.heap.size)) ∧ W.cell? ⟨wr.heap.size, 2, none⟩ = some (.int .i64 es[m].credit) ∧ W.cell? ⟨wr.heap.size, 3, none⟩ = some (.int .i64 es[m].cents) ∧ W.cell? ⟨wr.heap.size, 4, none⟩ = some (.int .i64 es[m].ref))
          (first | exact S0.out | exact S1.out | exact S2.out) (fail)
        all_goals
          go_wp2_with fail
          go_meet
          exact ⟨rfl, rfl⟩
      case rest =>
        obtain ⟨rfl, hW⟩ := hcut
        rw [hW]
        obtain ⟨x11, x2, x3, x4⟩ := S2.out
        have x1' : W2.cell? ⟨wr.heap.size, 1, none⟩ = some (.int .i64 es[m].debit) := hg2.cell x1 (by simp; omega)
        have hv2 := HM.out.at_ es[m].debit es[m].ref (by omega) (by omega) (by omega) (by omega)
        have hbd2 := movedR_bd (acc := es[m].debit) (ref := es[m].ref) (es := es.take m) (fun e he => HOK.out e (List.mem_of_mem_take he))
        rw [List.length_take] at hbd2
        have hkn : kP es[m].debit es[m].ref ≠ kP es[m].credit es[m].ref := fun h => hne (kP_inj (wf_small (by omega) (by omega)) (wf_small r0 r1) (wf_small (by omega) (by omega)) (wf_small r0 r1) h).1
        rw [← getP_other hkn (c1 + es[m].cents)] at hv2
        have S3 : Hid (W2.drew.cell? ⟨w3.heap.size + 1, 0, none⟩ = some (.map (some w3.heap.size)) ∧ W2.drew.cell? ⟨wr.heap.size, 1, none⟩ = some (.int .i64 es[m].debit) ∧ W2.drew.cell? ⟨wr.heap.size, 3, none⟩ = some (.int .i64 es[m].cents) ∧ W2.drew.cell? ⟨wr.heap.size, 4, none⟩ = some (.int .i64 es[m].ref)) := Lib.hid ⟨x11, x1', x3, x4⟩
        have hz2 := hg2.size
        have HOWN := Lib.hid (And.intro hc1 hg2)
        have HTK := Lib.hid (List.take_succ_eq_append_getElem hlt)
        clear hwc1 hme1 hes1 hg1 hw1 hcell11 x2 S0 S1 S2 hc1
        obtain ⟨c2, st2, W3, hc2, hwc2, hl2', hme2, hl2'', hg3, hst2⟩ := entry_pair (w := W2.drew) own2.drew (by unfold maxLen; omega) es[m].debit es[m].ref (wf_small (by omega) (by omega)) (wf_small r0 r1)
        obtain ⟨y1, y2⟩ : -5000000000000 ≤ c2 ∧ c2 ≤ 5000000000000 := by omega
        obtain ⟨W4, hes2, own4, hg4⟩ := hst2 (c2 - es[m].cents) (WalkArith.wf_i64 (by omega))
        have hw2 : IntKind.i64.wrap (c2 - es[m].cents) = c2 - es[m].cents := IntWalk.i64_in _ (by omega)
        have S4 : Hid (W3.cell? ⟨w3.heap.size + 1, 0, none⟩ = some (.map (some w3.heap.size)) ∧ W3.cell? ⟨wr.heap.size, 1, none⟩ = some (.int .i64 es[m].debit) ∧ W3.cell? ⟨wr.heap.size, 3, none⟩ = some (.int .i64 es[m].cents) ∧ W3.cell? ⟨wr.heap.size, 4, none⟩ = some (.int .i64 es[m].ref)) := Lib.hid ⟨hg3.cell x11 (by simp), hg3.cell x1' (by simp; omega), hg3.cell x3 (by simp; omega), hg3.cell x4 (by simp; omega)⟩
        have S5 : Hid (W4.cell? ⟨w3.heap.size + 1, 0, none⟩ = some (.map (some w3.heap.size)) ∧ W4.cell? ⟨wr.heap.size, 1, none⟩ = some (.int .i64 es[m].debit) ∧ W4.cell? ⟨wr.heap.size, 3, none⟩ = some (.int .i64 es[m].cents) ∧ W4.cell? ⟨wr.heap.size, 4, none⟩ = some (.int .i64 es[m].ref)) := Lib.hid ⟨hg4.cell x11 (by simp), hg4.cell x1' (by simp; omega), hg4.cell x3 (by simp; omega), hg4.cell x4 (by simp; omega)⟩
        clear hst2
        go_wp2_with fail
        have hgg : wr.grownBy W4 (some w3.heap.size) := ((grownBy_below bE (some w3.heap.size)).trans (grownBy_drew' hg2)).trans (grownBy_drew' hg4)
        have hz4 := hgg.size
        have HG2 := Lib.hid hc2
        clear hc2
        go_region_held3 (fun W => W.cell? ⟨w3.heap.size + 1, 0, none⟩ = some (.map (some w3.heap.size)) ∧ W.cell? ⟨wr.heap.size, 1, none⟩ = some (.int .i64 es[m].debit) ∧ W.cell? ⟨wr.heap.size, 3, none⟩ = some (.int .i64 es[m].cents) ∧ W.cell? ⟨wr.heap.size, 4, none⟩ = some (.int .i64 es[m].ref))
          (first | exact S3.out | exact S4.out | exact S5.out) (fail)
        all_goals
          clear hwc2 hme2 hes2 hg3 hw2 S3 S4 x11 x1' x3 x4 hl2' hl2''
          go_wp2_with fail
          go_roundw
          case rel => exact ⟨m + 1, _, by omega, by go_num, own4.mono (by omega), Lib.hid (by rw [HTK.out]; exact HM.out.step (HOK.out _ (List.getElem_mem hlt)) HOWN.out.1 HG2.out), S5.out.1, by omega, hbw.grown hgg hbz (fun k e => by injection e with e; omega)⟩
          case measure => simp [intOf]; omega
    · obtain rfl : m = es.length := by omega
      have hPP := HM.out
      rw [List.take_of_length_le (Nat.le_refl _)] at hPP
      have HPP := Lib.hid hPP
      clear hPP HM k4 k5 k6 k70 k71 lk lk1 lk2
      go_wp2_with fail
      refine name_calls (fun w5 hw5 => ?_)
      have b5 : Below wr.heap.size wr w5 := by rw [hw5]; exact (by repeat' (first | (with_reducible exact Below.refl _ _) | (with_reducible assumption) | (with_reducible refine below_drewN ?_ _) | (with_reducible refine Below.drew ?_) | (with_reducible refine below_regrown_up _ _ ?_ ?_) | (with_reducible refine Below.alloc ?_ ?_ _) | (with_reducible refine Below.setCell ?_ ?_ _) | (with_reducible refine below_up ?_ ?_ (by assumption)) | (with_reducible exact Nat.le_refl _) | omega | (simp; done) | (simp; omega)))
      have l5 : wr.heap.size < w5.heap.size := by rw [hw5]; simp
      have f0 : w5.cell? ⟨wr.heap.size, 0, none⟩ = some (.func (.func 38) #[] #[.pointer (some ⟨w.heap.size + 1 + 1, 0, none⟩), .pointer (some ⟨w.heap.size + 1, 0, none⟩), .pointer (some ⟨w.heap.size, 0, none⟩)]) := by rw [hw5]; go_simp
      have f1 : w5.cell? ⟨wr.heap.size, 1, none⟩ = some (.func (.func 40) #[] #[.pointer (some ⟨w.heap.size + 1 + 1 + 1, 0, none⟩), .pointer (some ⟨w.heap.size + 1, 0, none⟩), .pointer (some ⟨w.heap.size, 0, none⟩)]) := by rw [hw5]; go_simp
      have f2 : w5.cell? ⟨wr.heap.size, 2, none⟩ = some (.func (.func 43) #[] #[.pointer (some ⟨w.heap.size + 1, 0, none⟩), .pointer (some ⟨w.heap.size + 1 + 1 + 1, 0, none⟩), .pointer (some ⟨w3.heap.size + 1, 0, none⟩)]) := by rw [hw5]; go_simp
      clear hw5
      have b35 := below_up hbw hbz b5
      have b05 := below_up b03 b03.size b35
      have B5 := below_up B3 B3.size b35
      have own5 : OwnP w5 w3.heap.size (2 * es.length) D := hown.kept (grownBy_below b5 none) (by simp)
      have x11 : w5.cell? ⟨w3.heap.size + 1, 0, none⟩ = some (.map (some w3.heap.size)) := (b5.cell (p := ⟨w3.heap.size + 1, 0, none⟩) hsz).trans hcell11
      have hz5 := b5.size
      have hl2' := hl2
      have HKB := Lib.hid (billsOk_iff.1 HBO.out.1).1
      refine (every_any _ _ _ _ _ _ _ _ _ (ask1R ts bills es) (ask2R p d bills es) (ask3R p d bills es, 0) wr.heap.size w5 l5 f0 f1 f2 (Lib.hid fun W hW => ?_) (Lib.hid fun W hW => ?_) (Lib.hid fun W hW => ?_)).mono ?_
      · obtain ⟨k4, k5, k6, k70, k71, lk⟩ := hbox.out W (below_up b05 b05.size hW)
        have BW := below_up B5 B5.size hW
        exact ask1_any ts bills es A B E cA cB cE _ _ _ W (ht.up BW) (hs.up BW) (he.up BW) k6 k5 k4 (by omega) (by omega) (by omega) hb3 hl2 HKB.out HBO.out.2.1
      · obtain ⟨k4, k5, k6, k70, k71, lk⟩ := hbox.out W (below_up b05 b05.size hW)
        have BW := below_up B5 B5.size hW
        exact ask2_any p d bills es B E cB cE _ _ _ W (hs.up BW) (he.up BW) k70 k71 k5 k4 (by omega) (by omega) (by omega) hb3 HBO.out.2.2 HBO.out.1 HBO.out.2.1
      · obtain ⟨k4, k5, k6, k70, k71, lk⟩ := hbox.out W (below_up b05 b05.size hW)
        have BW := below_up B5 B5.size hW
        have hzW := hW.size
        exact ask3_any p d bills es B cB _ _ _ w3.heap.size (2 * es.length) D W (hs.up BW) (own5.kept (grownBy_below hW none) (by simp)) HPP.out k70 k71 k5 ((hW.cell (p := ⟨w3.heap.size + 1, 0, none⟩) (by simp only; omega)).trans x11) (by omega) (by omega) (by omega) hb3 HBO.out.2.2 HKB.out
      · rintro e w6 ⟨rfl, b6⟩
        go_wp2_with fail
        go_ret2
        exact ⟨by rw [HR.out]; rfl, below_up B5 B5.size b6⟩
theorem agree_any (es : List Entry) (bills : List Bill) (ts : List Tax) (p d : Int) (E B A : Option Addr) (cE cB cA : Nat) (w : World) (he : SlEnt w E es) (hs : SlBill w B bills) (ht : SlTax w A ts) (hle : es.length ≤ 140737488355328) (hl : bills.length ≤ maxLen) (hl2 : ts.length ≤ 1000000000000) :
    Calls Tryz.prog 16 #[.slice E es.length cE, .slice B bills.length cB, .slice A ts.length cA, .agg #[.int .i64 p, .int .i64 d]] w fun e w' => e = .returned (.tuple #[.bool (agreeR es bills ts p d).1, .int .i64 (agreeR es bills ts p d).2]) ∧ Below w.heap.size w w' := by
  by_cases h1 : checkR ts bills = 0
  · cases h2 : ledOk es
    · have hr : agreeR es bills ts p d = (false, 1) := by unfold agreeR; rw [if_neg (by simp [h1]), h2]; rfl
      have HR := Lib.hid hr
      have HC := Lib.hid h1
      clear hr h1
      go_enter Tryz.func16, Tryz.ntmps16
      go_wp2_with fail
      refine name_calls (fun w0 hw0 => ?_)
      have b0 : Below w.heap.size w w0 := by rw [hw0]; exact (by repeat' (first | (with_reducible exact Below.refl _ _) | (with_reducible assumption) | (with_reducible refine below_drewN ?_ _) | (with_reducible refine Below.drew ?_) | (with_reducible refine below_regrown_up _ _ ?_ ?_) | (with_reducible refine Below.alloc ?_ ?_ _) | (with_reducible refine Below.setCell ?_ ?_ _) | (with_reducible refine below_up ?_ ?_ (by assumption)) | (with_reducible exact Nat.le_refl _) | omega | (simp; done) | (simp; omega)))
      have k4 : w0.cell? ⟨w.heap.size, 0, none⟩ = some (.slice E es.length cE) := by rw [hw0]; go_simp
      have l4 : w.heap.size < w0.heap.size := by rw [hw0]; simp; omega
      clear hw0
      refine (check_any ts bills A B cA cB w0 (ht.up b0) (hs.up b0) hl hl2).mono ?_
      rintro e w1 ⟨rfl, b1⟩
      rw [HC.out]
      have B1 := below_up b0 b0.size b1
      have j4 := (b1.cell (p := ⟨w.heap.size, 0, none⟩) l4).trans k4
      clear k4
      go_wp2_with fail
      refine (lvalid_any es E cE w1 (he.up B1) hle).mono ?_
      rintro e w2 ⟨rfl, b2⟩
      rw [h2]
      go_wp2_with fail
      go_ret2
      exact ⟨by rw [HR.out]; rfl, below_up B1 B1.size b2⟩
    · cases h3 : partOk p d
      · have hr : agreeR es bills ts p d = (false, 1) := by unfold agreeR; rw [if_neg (by simp [h1]), h2, h3]; rfl
        have HR := Lib.hid hr
        have HC := Lib.hid h1
        clear hr h1
        go_enter Tryz.func16, Tryz.ntmps16
        go_wp2_with fail
        refine name_calls (fun w0 hw0 => ?_)
        have b0 : Below w.heap.size w w0 := by rw [hw0]; exact (by repeat' (first | (with_reducible exact Below.refl _ _) | (with_reducible assumption) | (with_reducible refine below_drewN ?_ _) | (with_reducible refine Below.drew ?_) | (with_reducible refine below_regrown_up _ _ ?_ ?_) | (with_reducible refine Below.alloc ?_ ?_ _) | (with_reducible refine Below.setCell ?_ ?_ _) | (with_reducible refine below_up ?_ ?_ (by assumption)) | (with_reducible exact Nat.le_refl _) | omega | (simp; done) | (simp; omega)))
        have k4 : w0.cell? ⟨w.heap.size, 0, none⟩ = some (.slice E es.length cE) := by rw [hw0]; go_simp
        have k70 : w0.cell? ⟨w.heap.size + 1 + 1 + 1, 0, none⟩ = some (.int .i64 p) := by rw [hw0]; go_simp
        have k71 : w0.cell? ⟨w.heap.size + 1 + 1 + 1, 1, none⟩ = some (.int .i64 d) := by rw [hw0]; go_simp
        have l7 : w.heap.size + 1 + 1 + 1 < w0.heap.size := by rw [hw0]; simp
        have l4 : w.heap.size < w0.heap.size := by omega
        clear hw0
        refine (check_any ts bills A B cA cB w0 (ht.up b0) (hs.up b0) hl hl2).mono ?_
        rintro e w1 ⟨rfl, b1⟩
        rw [HC.out]
        have B1 := below_up b0 b0.size b1
        have j4 := (b1.cell (p := ⟨w.heap.size, 0, none⟩) l4).trans k4
        go_wp2_with fail
        refine (lvalid_any es E cE w1 (he.up B1) hle).mono ?_
        rintro e w2 ⟨rfl, b2⟩
        rw [h2]
        have b02 := below_up b1 b1.size b2
        have B2 := below_up B1 B1.size b2
        have i70 := (b02.cell (p := ⟨w.heap.size + 1 + 1 + 1, 0, none⟩) l7).trans k70
        have i71 := (b02.cell (p := ⟨w.heap.size + 1 + 1 + 1, 1, none⟩) l7).trans k71
        clear k4 j4 k70 k71
        go_wp2_with fail
        refine (risPart_any p d w2).mono ?_
        rintro e w3 ⟨rfl, b3⟩
        rw [h3]
        go_wp2_with fail
        go_ret2
        exact ⟨by rw [HR.out]; rfl, below_up B2 B2.size b3⟩
      · exact agree_ok es bills ts p d E B A cE cB cA w he hs ht hl2 h1 h2 h3
  · have hr : agreeR es bills ts p d = (false, checkR ts bills) := by unfold agreeR; rw [if_pos h1]
    have hcb : (checkR ts bills != 0) = true := by simpa using h1
    have HR := Lib.hid hr
    clear hr h1
    go_enter Tryz.func16, Tryz.ntmps16
    go_wp2_with fail
    refine name_calls (fun w0 hw0 => ?_)
    have b0 : Below w.heap.size w w0 := by rw [hw0]; exact (by repeat' (first | (with_reducible exact Below.refl _ _) | (with_reducible assumption) | (with_reducible refine below_drewN ?_ _) | (with_reducible refine Below.drew ?_) | (with_reducible refine below_regrown_up _ _ ?_ ?_) | (with_reducible refine Below.alloc ?_ ?_ _) | (with_reducible refine Below.setCell ?_ ?_ _) | (with_reducible refine below_up ?_ ?_ (by assumption)) | (with_reducible exact Nat.le_refl _) | omega | (simp; done) | (simp; omega)))
    clear hw0
    refine (check_any ts bills A B cA cB w0 (ht.up b0) (hs.up b0) hl hl2).mono ?_
    rintro e w1 ⟨rfl, b1⟩
    go_wp2_with fail
    go_ret2
    exact ⟨by rw [HR.out]; rfl, below_up b0 b0.size b1⟩
end Go.Proofs.YtmlhoojcdidgkaaGreat
