/-
  Texts, one behind the other: FoW16, FoS, FoW17, FoHead, ComArgs.
-/
import Derived.Test.YtmlhoojcdidgkaaGreatM24
import Derived.Test.YtmlhoojcdidgkaaGreatM21
import Derived.Test.YtmlhoojcdidgkaaGreatM10
import Derived.Test.YtmlhoojcdidgkaaGreatM14
import Derived.Test.YtmlhoojcdidgkaaGreatM09
import Derived.HandedShaped
/-
  Package folio: the run of deeds, well-formed.
-/
namespace Go.Proofs.YtmlhoojcdidgkaaGreat
set_option linter.unusedSimpArgs false
set_option linter.unusedVariables false
open Go.RowKit Go.Maps
open Go.Sort (grow size_grow)


set_option maxHeartbeats 4000000
set_option maxRecDepth 100000
theorem Made.start {w w4 wr : World} {V : Env} {At : Option Addr} {ct : Nat} (hB : Below w.heap.size w w4) (hwr : wr = (w4.alloc (.map #[] 0)).alloc (.cells (crsCells (.slice none 0 0) 0 w4.heap.size V At ct) 96)) : Made w wr (w4.heap.size + 1) w4.heap.size [] V At ct [] := by
  subst hwr
  have h0 := World.ownsMap_made w4 Tryz.prog 3 rdV
  have := hB.size
  refine ⟨?_, rfl, fun i hi => by simp at hi, fun b hb => by simp at hb, List.Pairwise.nil, ⟨.map [], h0.alloc _, MapOf.nil⟩, ⟨by omega, by omega, by simp; omega, by simp, by omega⟩, (hB.alloc hB.size _).alloc (by simp; omega) _⟩
  have := heap_alloc_new (w4.alloc (.map #[] 0)) (.cells (crsCells (.slice none 0 0) 0 w4.heap.size V At ct) 96 (0, 0))
  rw [World.size_alloc] at this
  exact this
theorem frun_ok (V : Env) (bills : List Bill) (l : List Deed) (A At Al : Option Addr) (c ct cl : Nat) (w : World) (hs : SlBill w A bills) (hts : SlTax w At V.ts) (hsl : SlDeed w Al l) (hb : bills.length ≤ 3000) (htl : V.ts.length ≤ 1000) (hll : l.length ≤ 500)
    (hst : ∀ x ∈ l, -9223372036854775808 ≤ x.stay ∧ x.stay ≤ 9223372036854775807) (hok : runOk V bills = true) :
    Calls Tryz.prog 17 #[.slice A bills.length c, .slice At V.ts.length ct, .agg #[.int .i64 V.p, .int .i64 V.d], V.k.v, .slice Al l.length cl] w fun e w' => OutRun (runR V bills l) e w' ∧ Below w.heap.size w w' := by
  have hR : runR V bills l = ((runAll V bills l).1.es, (runAll V bills l).2, 0) := by unfold runR; rw [if_neg (by omega), hok]; rfl
  rw [hR]
  have hx : ¬ (500 : Int) < (l.length : Int) := by omega
  have hmm := @run_makeMap Tryz.prog
  obtain ⟨hV, h2, _, htx⟩ := runOk_iff.1 hok
  obtain ⟨r, s, er, hstm⟩ : ∃ r s er, stmtR V.p V.d bills 0 = (r, s, er) := ⟨_, _, _, rfl⟩
  obtain ⟨q, e2, hq⟩ : ∃ q e2, payR V.k 0 = (q, e2) := ⟨_, _, rfl⟩
  have hq2 : e2 = 0 := by have := payR_zero (k := V.k); rw [hq, hV.k, if_pos rfl] at this; exact this
  subst hq2
  have HST := Lib.hid (fun W h => cstmt_lit hstm A c W h (by unfold maxLen; omega))
  have HPAY : Hid (∀ W, Calls Tryz.prog 45 #[V.k.v, .int .i64 0] W fun e w' => e = .returned (.tuple #[.int .i64 q, .int .i64 0]) ∧ Below W.heap.size W w') := Lib.hid (fun W => by
    have := wpay_any V.k 0 W
    rw [hq] at this
    exact this)
  have hers : er = 0 ∨ er = 3 := by
    rcases stmt_err (p := V.p) (d := V.d) hb with ⟨_, _, he⟩ | ⟨hno, _⟩
    · rw [hstm] at he; exact he
    · exact absurd ⟨hV.p, h2⟩ hno
  have HV := Lib.hid hV
  have HB2 := Lib.hid h2
  have HDS := Lib.hid hst
  clear hV h2 hok hq hR hst hstm
  go_enter Tryz.func17, Tryz.ntmps17
  go_wp2_with fail
  refine (HST.out _ (hs.up (by repeat' (first | (with_reducible exact Below.refl _ _) | (with_reducible assumption) | (with_reducible refine below_drewN ?_ _) | (with_reducible refine Below.drew ?_) | (with_reducible refine below_regrown_up _ _ ?_ ?_) | (with_reducible refine Below.alloc ?_ ?_ _) | (with_reducible refine Below.setCell ?_ ?_ _) | (with_reducible refine below_up ?_ ?_ (by assumption)) | (with_reducible exact Nat.le_refl _) | omega | (simp; done) | (simp; omega))))).mono ?_
  rintro e w1 ⟨⟨A1, c1, rfl, _⟩, b1⟩
  have z1 := b1.size
  simp only [World.size_alloc] at z1
  obtain ⟨hc1, hf1⟩ := bcellB (B := w.heap.size + 1 + 1) b1 (by simp)
  have x0 : w1.cell? ⟨w.heap.size + 1, 0, none⟩ = some (.int .i64 V.k.fx) := by rw [hc1 _ _ (by omega)]; go_simp
  have x1 : w1.cell? ⟨w.heap.size + 1, 1, none⟩ = some (.int .i64 V.k.n) := by rw [hc1 _ _ (by omega)]; go_simp
  have x2 : w1.cell? ⟨w.heap.size + 1, 2, none⟩ = some (.int .i64 V.k.d) := by rw [hc1 _ _ (by omega)]; go_simp
  have x3 : w1.cell? ⟨w.heap.size + 1, 3, none⟩ = some (.int .i64 V.k.most) := by rw [hc1 _ _ (by omega)]; go_simp
  have y0 : w1.cell? ⟨w.heap.size, 0, none⟩ = some (.int .i64 V.p) := by rw [hc1 _ _ (by omega)]; go_simp
  have y1 : w1.cell? ⟨w.heap.size, 1, none⟩ = some (.int .i64 V.d) := by rw [hc1 _ _ (by omega)]; go_simp
  have hb1 : Below w.heap.size w w1 := (by repeat' (first | (with_reducible exact Below.refl _ _) | (with_reducible assumption) | (with_reducible refine below_drewN ?_ _) | (with_reducible refine Below.drew ?_) | (with_reducible refine below_regrown_up _ _ ?_ ?_) | (with_reducible refine Below.alloc ?_ ?_ _) | (with_reducible refine Below.setCell ?_ ?_ _) | (with_reducible refine below_up ?_ ?_ (by assumption)) | (with_reducible exact Nat.le_refl _) | omega | (simp; done) | (simp; omega)))
  have lx : w.heap.size + 1 < w1.heap.size := by omega
  have ly : w.heap.size < w1.heap.size := by omega
  clear hc1 hf1 b1 z1
  go_upto_region 4 with fail
  go_cut [41] (fun v41 wc => v41 = .bool false ∧ wc = w1)
  case first =>
    rcases hers with rfl | rfl
    · go_wp2_with fail
      go_meet
      exact ⟨rfl, rfl⟩
    · go_wp2_with fail
      go_meet
      exact ⟨rfl, rfl⟩
  case rest =>
    obtain ⟨rfl, rfl⟩ := hcut
    clear hers HST
    go_wp2_with fail
    refine (HPAY.out _).mono ?_
    rintro e w2 ⟨rfl, b2⟩
    have hb2 := below_up hb1 hb1.size b2
    go_wp2_with fail
    refine (tvalid_any V.ts At ct _ (hts.up hb2) (by omega)).mono ?_
    rintro e w3 ⟨rfl, b3⟩
    rw [htx]
    have hb3 := below_up hb2 hb2.size b3
    have b23 := below_up b2 b2.size b3
    have X0 := (b23.cell (p := ⟨w.heap.size + 1, 0, none⟩) lx).trans x0
    have X1 := (b23.cell (p := ⟨w.heap.size + 1, 1, none⟩) lx).trans x1
    have X2 := (b23.cell (p := ⟨w.heap.size + 1, 2, none⟩) lx).trans x2
    have X3 := (b23.cell (p := ⟨w.heap.size + 1, 3, none⟩) lx).trans x3
    have Y0 := (b23.cell (p := ⟨w.heap.size, 0, none⟩) ly).trans y0
    have Y1 := (b23.cell (p := ⟨w.heap.size, 1, none⟩) ly).trans y1
    have LX : w.heap.size + 1 < w3.heap.size := by have := b23.size; omega
    have LY : w.heap.size < w3.heap.size := by omega
    clear x0 x1 x2 x3 y0 y1 lx ly b2 b3 b23
    go_wp2_with fail
    refine name_world (fun wB hwB => ?_)
    have hM0 : Made w wB (w3.heap.size + 1) w3.heap.size [] V At ct [] := Made.start hb3 (by rw [hwB]; rfl)
    clear hwB X0 X1 X2 X3 Y0 Y1 LX LY hmm
    have hg0 := hM0.bd
    obtain ⟨gc, hgc⟩ : ∃ gc, w3.heap.size + 1 = gc := ⟨_, rfl⟩
    obtain ⟨gm, hgm⟩ : ∃ gm, w3.heap.size = gm := ⟨_, rfl⟩
    rw [hgc, hgm] at hM0 hg0
    rw [hgc]
    clear hgc hgm hb1 hb2 hb3
    go_loopw [62] (fun i wr => ∃ (m : Nat) (bl : List Nat), m ≤ bills.length ∧ i = .int .i64 m ∧ Made w wr gc gm bl V At ct (bills.take m)) (fun i _ => bills.length - (intOf i).toNat)
    case atStart => exact ⟨0, [], by omega, rfl, hM0⟩
    case round =>
      obtain ⟨m, bl, hm, rfl, hM⟩ := hrel
      by_cases hlt : m < bills.length
      · have hx1 : (0 : Int) ≤ (m : Int) := by omega
        have hx2 : (m : Int) < (bills.length : Int) := by omega
        have hbd := hM.bd
        obtain ⟨b, off, rfl, hbl, hcell⟩ := (hs.up hM.below).at_ hlt
        have q0 := hcell 0 _ rfl
        have q1 := hcell 1 _ rfl
        have q2 := hcell 2 _ rfl
        have q3 := hcell 3 _ rfl
        have q4 := hcell 4 _ rfl
        have q5 := hcell 5 _ rfl
        have q6 := hcell 6 _ rfl
        have q7 := hcell 7 _ rfl
        have q8 := hcell 8 _ rfl
        rw [Nat.add_zero] at q0
        clear hcell
        have hbk := (billsOk_iff.1 HB2.out).1 _ (List.getElem_mem hlt)
        have hsy := (Bill.ok_iff.1 hbk).2.2.2.1
        have hnew : bills[m].stay ∉ stays (bills.take m) := by
          have hn := (billsOk_iff.1 HB2.out).2
          have hsub : (stays (bills.take (m + 1))).Sublist (stays bills) := (List.take_sublist _ _).map _
          have := hn.sublist hsub
          rw [stays_take hlt] at this
          exact fun hin => absurd rfl ((List.nodup_append.1 this).2.2 _ hin _ (by simp))
        have HN := Lib.hid hnew
        have HM := Lib.hid hM
        clear hnew hbk hM
        go_wp2_with fail
        refine name_world (fun w5 hw5 => ?_)
        have b5 : Below wr.heap.size wr w5 := by rw [hw5]; exact (by repeat' (first | (with_reducible exact Below.refl _ _) | (with_reducible assumption) | (with_reducible refine below_drewN ?_ _) | (with_reducible refine Below.drew ?_) | (with_reducible refine below_regrown_up _ _ ?_ ?_) | (with_reducible refine Below.alloc ?_ ?_ _) | (with_reducible refine Below.setCell ?_ ?_ _) | (with_reducible refine below_up ?_ ?_ (by assumption)) | (with_reducible exact Nat.le_refl _) | omega | (simp; done) | (simp; omega)))
        have p0 : w5.cell? ⟨wr.heap.size, 0, none⟩ = some (.int .i64 bills[m].stay) := by rw [hw5]; go_simp
        have p1 : w5.cell? ⟨wr.heap.size, 1, none⟩ = some (.int .i64 bills[m].channel) := by rw [hw5]; go_simp
        have p2 : w5.cell? ⟨wr.heap.size, 2, none⟩ = some (.int .i64 bills[m].place) := by rw [hw5]; go_simp
        have p3 : w5.cell? ⟨wr.heap.size, 3, none⟩ = some (.int .i64 bills[m].kind) := by rw [hw5]; go_simp
        have p4 : w5.cell? ⟨wr.heap.size, 4, none⟩ = some (.int .i64 bills[m].frm) := by rw [hw5]; go_simp
        have p5 : w5.cell? ⟨wr.heap.size, 5, none⟩ = some (.int .i64 bills[m].til) := by rw [hw5]; go_simp
        have p6 : w5.cell? ⟨wr.heap.size, 6, none⟩ = some (.int .i64 bills[m].persons) := by rw [hw5]; go_simp
        have p7 : w5.cell? ⟨wr.heap.size, 7, none⟩ = some (.int .i64 bills[m].price) := by rw [hw5]; go_simp
        have p8 : w5.cell? ⟨wr.heap.size, 8, none⟩ = some (.int .i64 bills[m].keep) := by rw [hw5]; go_simp
        have l5 : wr.heap.size < w5.heap.size := by rw [hw5]; simp
        have hM5 := HM.out.up b5
        have r2 : w5.cell? ⟨gc, 2, none⟩ = some (.map (some gm)) := cell_of_row w5 gc 2 _ _ _ hM5.at_
        have lgc5 : gc < w5.heap.size := hM5.bd.2.2.2.1
        have lgm5 : gm < w5.heap.size := hM5.bd.2.2.1
        clear hw5 q0 q1 q2 q3 q4 q5 q6 q7 q8
        obtain ⟨D, hown, hmap⟩ := hM5.map
        have hlen : (bills.take m).length = m := by rw [List.length_take]; omega
        obtain ⟨w6, hrun6, o6, g6'⟩ := (World.ownsMap.drew (hown.alloc (.cells #[.int .i64 bills[m].stay, .int .i64 bills[m].channel, .int .i64 bills[m].place, .int .i64 bills[m].kind, .int .i64 bills[m].frm, .int .i64 bills[m].til, .int .i64 bills[m].persons, .int .i64 bills[m].price, .int .i64 bills[m].keep, .int .i64 0, .int .i64 0] 99))).update (t := 92) keyedI' Tryz.underlying92 (by rw [hlen]; unfold maxLen; omega) (key := .int .i64 bills[m].stay) (kl := .int .i64 bills[m].stay) (val := .pointer (some ⟨w5.heap.size, 0, none⟩)) (d := .held (ptrV w5.heap.size)) (ps := []) (keyOf_int_mk Tryz.underlying3 (WalkArith.wf_i64 (by omega))) rfl
        have g6 := World.grownBy.trans (World.grownBy_alloc w5 (.cells #[.int .i64 bills[m].stay, .int .i64 bills[m].channel, .int .i64 bills[m].place, .int .i64 bills[m].kind, .int .i64 bills[m].frm, .int .i64 bills[m].til, .int .i64 bills[m].persons, .int .i64 bills[m].price, .int .i64 bills[m].keep, .int .i64 0, .int .i64 0] 99) (some gm)) (c := w6) ⟨g6'.os, g6'.tape, g6'.output, g6'.size, g6'.block⟩
        have hD : IsMap D := by
          obtain ⟨es, clock, hb, F, _, rfl⟩ := hown
          exact ⟨_, rfl⟩
        have HFIN : Hid (Made w w6 gc gm (bl ++ [w5.heap.size]) V At ct (bills.take (m + 1))) := Lib.hid (by
          rw [List.take_succ_eq_append_getElem hlt]
          refine Made.snoc (wr := w5) hM5 g6 ?_ (Nat.le_refl _) ⟨D, hown, hmap, rfl, hD⟩ o6 HN.out
          unfold AccIn
          rw [g6'.block w5.heap.size (by simp) (by intro e; injection e with e; omega)]
          exact heap_alloc_new w5 _)
        clear hown hmap o6 g6 g6' hD hM5 hlen
        go_region_law (fail)
        all_goals
          go_wp2_with fail
          go_roundw
          case rel => exact ⟨m + 1, _, by omega, by go_num, HFIN.out⟩
          case measure => simp [intOf]; omega
      · obtain rfl : m = bills.length := by omega
        rw [List.take_of_length_le (Nat.le_refl _)] at hM
        go_wp2_with fail
        obtain ⟨wB, hwB⟩ : ∃ wB, wB = wr := ⟨_, rfl⟩
        subst hwB
        have hC0 := hM.course hts
        have hbd := hM.bd
        have hLB := hM.below
        have hLs := hLB.size
        go_loopw [21, 78] (fun v21 i wr => ∃ (m : Nat) (errv : Value), m ≤ l.length ∧ i = .int .i64 m ∧ errv = v21 ∧ LoopR w gc gm wB.heap.size bl V At ct w.heap.size bills (l.take m) errv wr) (fun _ i _ => l.length - (intOf i).toNat)
        case atStart => exact ⟨0, _, by omega, rfl, rfl, _, hC0, OwnL.nil_, (fun b hb => (by cases hb)), hLB⟩
        case round =>
          obtain ⟨m, errv, hm, rfl, rfl, hL⟩ := hrel
          obtain ⟨ev, hC, hO, hD, hB⟩ := hL
          have hbz := hC.bk.le
          by_cases hlt : m < l.length
          · have hx1 : (0 : Int) ≤ (m : Int) := by omega
            have hx2 : (m : Int) < (l.length : Int) := by omega
            have htk : l.take (m + 1) = l.take m ++ [l[m]] := List.take_succ_eq_append_getElem hlt
            have HTK := Lib.hid htk
            clear htk
            obtain ⟨bD, offD, hAl, hbD, hcell⟩ := (hsl.up hB).at_ hlt
            subst hAl
            have z0 := hcell 0 _ rfl
            have z1 := hcell 1 _ rfl
            have z2 := hcell 2 _ rfl
            have z3 := hcell 3 _ rfl
            rw [Nat.add_zero] at z0
            clear hcell
            have hel : (runAll V bills (l.take m)).2.length ≤ 500 := by rw [run_len, List.length_take]; omega
            have HXS := Lib.hid (HDS.out _ (List.getElem_mem hlt))
            have HC := Lib.hid hC
            have HO := Lib.hid hO
            have HD := Lib.hid hD
            have HBW := Lib.hid hB
            have hgcb := hC.bk.lt
            clear hC hO hD hB
            go_wp2_with fail
            refine name_calls (fun w5 hw5 => ?_)
            have b5 : Below wr.heap.size wr w5 := by rw [hw5]; exact (by repeat' (first | (with_reducible exact Below.refl _ _) | (with_reducible assumption) | (with_reducible refine below_drewN ?_ _) | (with_reducible refine Below.drew ?_) | (with_reducible refine below_regrown_up _ _ ?_ ?_) | (with_reducible refine Below.alloc ?_ ?_ _) | (with_reducible refine Below.setCell ?_ ?_ _) | (with_reducible refine below_up ?_ ?_ (by assumption)) | (with_reducible exact Nat.le_refl _) | omega | (simp; done) | (simp; omega)))
            have k0 : w5.cell? ⟨wr.heap.size, 0, none⟩ = some (.int .i64 l[m].kind) := by rw [hw5]; go_simp
            have k1 : w5.cell? ⟨wr.heap.size, 1, none⟩ = some (.int .i64 l[m].day) := by rw [hw5]; go_simp
            have k2 : w5.cell? ⟨wr.heap.size, 2, none⟩ = some (.int .i64 l[m].stay) := by rw [hw5]; go_simp
            have k3 : w5.cell? ⟨wr.heap.size, 3, none⟩ = some (.int .i64 l[m].cents) := by rw [hw5]; go_simp
            have l5 : wr.heap.size < w5.heap.size := by rw [hw5]; simp
            clear hw5 z0 z1 z2 z3
            refine (fformed_any gc gm wB.heap.size V At ct _ _ ev l[m] w5 (HC.out.bk.up b5)).mono ?_
            rintro e w6 ⟨rfl, b6⟩
            have b56 := below_up b5 b5.size b6
            have hB6 := below_up HBW.out HBW.out.size b56
            have h60 := (b6.cell (p := ⟨wr.heap.size, 0, none⟩) l5).trans k0
            have h61 := (b6.cell (p := ⟨wr.heap.size, 1, none⟩) l5).trans k1
            have h62 := (b6.cell (p := ⟨wr.heap.size, 2, none⟩) l5).trans k2
            have h63 := (b6.cell (p := ⟨wr.heap.size, 3, none⟩) l5).trans k3
            have l6 : wr.heap.size < w6.heap.size := by have := b6.size; omega
            have z6 : wB.heap.size ≤ w6.heap.size := by omega
            clear k0 k1 k2 k3
            cases hf : formedD (runAll V bills (l.take m)).1.day l[m]
            · go_upto_region 20 with fail
              have hC6 := Lib.hid (HC.out.up b56)
              have hO6 := Lib.hid (HO.out.below b56)
              have HF := Lib.hid hf
              clear hf
              go_wp2_with (at_builtin; go_loud (refine wpList_append_all _ rfl (.tmp 86) (.tmp 87) 52 33 rfl wB.heap.size 1 8 intC elemErr int_len int_one errv _ rfl (hO6.out.alloc _) (some ⟨w6.heap.size, 0, none⟩) 1 (w6.heap.size + 1) [1] rfl (sl_of_box (cs := #[.int .i64 1]) (fun _ => rfl) (fun o => World.cell?_alloc_new w6 _ _ o) (by simp) rfl) (by simp; omega) (by omega) (by simp; omega) ?_); intro v7 w7 hown7 hgrow7 hat7)
              go_roundw
              case rel =>
                refine ⟨m + 1, _, by omega, by go_num, rfl, ?_⟩
                rw [HTK.out]
                exact LoopR.push (hC6.out.up ((Below.refl _ _).alloc (Nat.le_refl _) _)) HD.out (hO6.out.alloc _) hown7 hgrow7 hat7 (hB6.alloc hB6.size _) hLs (run_form HF.out)
              case measure => simp [intOf]; omega
            · have hC6 := HC.out.up b56
              have r1 : w6.cell? ⟨gc, 1, none⟩ = some (.int .i64 (runAll V bills (l.take m)).1.day) := hC6.bk.cell 1
              have rf := hC6.bk.free 1
              have lgc : gc < w6.heap.size := by omega
              have HC6 := Lib.hid hC6
              have HO6 := Lib.hid (HO.out.below b56)
              have HSO := Lib.hid (step_ok_of HV.out HB2.out (by rw [List.length_take]; omega) htl hf HXS.out)
              have HF := Lib.hid hf
              clear hf hC6
              go_wp2_with fail
              refine name_calls (fun w7 hw7 => ?_)
              have hC7 : CIn w7 gc gm wB.heap.size bl V At ct w.heap.size { (runAll V bills (l.take m)).1 with day := l[m].day } ev := by rw [hw7]; exact HC6.out.day_ _
              have hO7 : OwnErr w7 wB.heap.size errv (runAll V bills (l.take m)).2 := by
                rw [hw7]
                exact HO6.out.turn (B := 0) (fun k h1 _ => Below.heap_setCell _ _ _ _ (by show k ≠ gc; omega)) (by simp [World.setCell])
              have hB7 : Below w.heap.size w w7 := by rw [hw7]; exact hB6.setCell (by show w.heap.size ≤ gc; omega) _
              have hz7 : w7.heap.size = w6.heap.size := by rw [hw7]; simp [World.setCell]
              clear hw7 r1 rf h60 h61 h62 h63
              refine (step_any gc gm wB.heap.size bl V At ct w.heap.size _ ev l[m] _ w7 hC7 HSO.out).mono ?_
              rintro e w8 ⟨rfl, ev8, hC8, hT8⟩
              have hS : ∀ k ∈ gc :: bl, k < wB.heap.size := fun k hk => by
                rcases List.mem_cons.1 hk with rfl | hk
                · exact hgcb
                · exact (hC7.lt k hk).1
              have hSL : ∀ k ∈ gc :: bl, w.heap.size ≤ k := fun k hk => by
                rcases List.mem_cons.1 hk with rfl | hk
                · exact hC7.low
                · exact (hC7.lt k hk).2.2
              have HO8 := Lib.hid (hO7.turned hT8 hS HD.out)
              have HD8 : Hid (∀ b, ev8.ownBlock = some b → errv.ownBlock ≠ some b) := Lib.hid (fun b h1 h2 => by
                rcases hT8.own b h1 with h | h
                · exact HD.out b h h2
                · have := (hO7.lt b h2).2; omega)
              have HB8 := Lib.hid (hB7.trans (hT8.below hLs hSL))
              have z8 : wB.heap.size ≤ w8.heap.size := by have := hT8.size; omega
              clear hT8 hO7 hC7 hB7 hS hSL hz7
              obtain ⟨er, her⟩ : ∃ er, erOf (stepD V { (runAll V bills (l.take m)).1 with day := l[m].day } l[m]) = er := ⟨_, rfl⟩
              rw [her]
              cases hsd : stepD V { (runAll V bills (l.take m)).1 with day := l[m].day } l[m] with
              | error e0 =>
                rw [hsd] at her hC8
                obtain rfl : e0 = er := her
                have hne0 := stepD_err hsd
                have hne : (e0 != 0) = true := by rw [bne_iff_ne]; exact hne0
                have r1 : w8.cell? ⟨gc, 1, none⟩ = some (.int .i64 l[m].day) := hC8.bk.cell 1
                have rf := hC8.bk.free 1
                have lgc8 : gc < w8.heap.size := by omega
                have HC8 := Lib.hid hC8
                have HSD := Lib.hid hsd
                clear hsd hC8 hne0
                go_upto_region 26 with fail
                refine name_world (fun w9 hw9 => ?_)
                have HC9 : Hid (CIn w9 gc gm wB.heap.size bl V At ct w.heap.size (runAll V bills (l.take m)).1 ev8) := Lib.hid (by rw [hw9]; exact HC8.out.day_ _)
                have HO9 : Hid (OwnErr w9 wB.heap.size errv (runAll V bills (l.take m)).2) := Lib.hid (by
                  rw [hw9]
                  exact HO8.out.turn (B := 0) (fun k h1 _ => Below.heap_setCell _ _ _ _ (by show k ≠ gc; omega)) (by simp [World.setCell]))
                have HB9 : Hid (Below w.heap.size w w9) := Lib.hid (by rw [hw9]; exact HB8.out.setCell (by show w.heap.size ≤ gc; omega) _)
                have z9 : wB.heap.size ≤ w9.heap.size := by rw [hw9]; simp [World.setCell]; exact z8
                clear hw9 r1 rf
                go_wp2_with (at_builtin; go_loud (refine wpList_append_all _ rfl (.tmp 110) (.tmp 112) 52 33 rfl wB.heap.size 1 8 intC elemErr int_len int_one errv _ rfl (HO9.out.alloc _) (some ⟨w9.heap.size, 0, none⟩) 1 (w9.heap.size + 1) [e0] rfl (sl_of_box (cs := #[.int .i64 e0]) (fun _ => rfl) (fun o => World.cell?_alloc_new w9 _ _ o) (by simp) rfl) (by simp; omega) (by omega) (by simp; omega) ?_); intro v7 w10 hown7 hgrow7 hat7)
                go_roundw
                case rel =>
                  refine ⟨m + 1, _, by omega, by go_num, rfl, ?_⟩
                  rw [HTK.out]
                  exact LoopR.push (HC9.out.up ((Below.refl _ _).alloc (Nat.le_refl _) _)) HD8.out (HO9.out.alloc _) hown7 hgrow7 hat7 (HB9.out.alloc HB9.out.size _) hLs (run_bad HF.out HSD.out)
                case measure => simp [intOf]; omega
              | ok c' =>
                rw [hsd] at her hC8
                obtain rfl : (0 : Int) = er := her
                have HC8 := Lib.hid hC8
                have HSD := Lib.hid hsd
                clear hsd hC8
                go_upto_region 26 with fail
                go_wp2_with (at_builtin; go_loud (refine wpList_append_all _ rfl (.tmp 110) (.tmp 112) 52 33 rfl wB.heap.size 1 8 intC elemErr int_len int_one errv _ rfl (HO8.out.alloc _) (some ⟨w8.heap.size, 0, none⟩) 1 (w8.heap.size + 1) [0] rfl (sl_of_box (cs := #[.int .i64 0]) (fun _ => rfl) (fun o => World.cell?_alloc_new w8 _ _ o) (by simp) rfl) (by simp; omega) (by omega) (by simp; omega) ?_); intro v7 w10 hown7 hgrow7 hat7)
                go_roundw
                case rel =>
                  refine ⟨m + 1, _, by omega, by go_num, rfl, ?_⟩
                  rw [HTK.out]
                  exact LoopR.push (HC8.out.up ((Below.refl _ _).alloc (Nat.le_refl _) _)) HD8.out (HO8.out.alloc _) hown7 hgrow7 hat7 (HB8.out.alloc HB8.out.size _) hLs (run_good HF.out HSD.out)
                case measure => simp [intOf]; omega
          · obtain rfl : m = l.length := by omega
            rw [List.take_of_length_le (Nat.le_refl _)] at hC hO
            have q0 : wr.cell? ⟨gc, 0, none⟩ = some ev := hC.bk.cell 0
            have lgc : gc < wr.heap.size := by have := hC.bk.lt; omega
            obtain ⟨A7, c7, rfl, _, _, hs7⟩ := hC.bk.own.sl ent_len
            obtain ⟨A8, c8, rfl, _, _, hs8⟩ := hO.sl int_len
            go_wp2_with fail
            go_ret3
            exact ⟨⟨A7, c7, A8, c8, rfl, hs7, hs8⟩, hB⟩
end Go.Proofs.YtmlhoojcdidgkaaGreat

/-
  Folio: what the entries of a stay move (no Go in sight).
-/
namespace Go.Proofs.YtmlhoojcdidgkaaGreat
set_option linter.unusedSimpArgs false
set_option linter.unusedVariables false
set_option maxHeartbeats 2000000
def feeA (V : Env) (b : Bill) : Int := (oneR V.p V.d b).1
/-- What the entries of a stay have moved, by its state. -/
structure Acct (V : Env) (es : List Entry) (a : Acc) : Prop where
  pos : 0 ≤ a.paid
  pre : a.st ≤ 2 → (a.b.direct = false → a.paid = 0) ∧ (∀ n c, comesR V.ts a.b = some (n, c) → a.paid ≤ c) ∧ movedR es (guestA a.b.stay) a.b.stay = -a.paid ∧ movedR es 900 a.b.stay + movedR es 600 a.b.stay = a.paid ∧ movedR es 800 a.b.stay = 0 ∧ movedR es (300 + a.b.place) a.b.stay = 0 ∧ movedR es (700 + a.b.channel) a.b.stay = 0 ∧ movedR es (400 + a.b.place) a.b.stay = 0
  left : a.st = 3 → ∃ n c, comesR V.ts a.b = some (n, c) ∧ movedR es (300 + a.b.place) a.b.stay = -a.b.price - feeA V a.b ∧ movedR es (700 + a.b.channel) a.b.stay = feeA V a.b ∧ movedR es (400 + a.b.place) a.b.stay = -n ∧ (a.b.direct = true → movedR es (guestA a.b.stay) a.b.stay = a.b.price + n - a.paid ∧ movedR es 900 a.b.stay + movedR es 600 a.b.stay = a.paid ∧ movedR es 800 a.b.stay = 0) ∧ (a.b.direct = false → movedR es (guestA a.b.stay) a.b.stay = 0)
  canc : a.st = 4 → movedR es (guestA a.b.stay) a.b.stay = 0 ∧ movedR es (300 + a.b.place) a.b.stay ≤ 0 ∧ -a.b.keep ≤ movedR es (300 + a.b.place) a.b.stay ∧ movedR es (700 + a.b.channel) a.b.stay = 0 ∧ movedR es (400 + a.b.place) a.b.stay = 0
  walk : a.st = 5 → movedR es (guestA a.b.stay) a.b.stay = 0 ∧ movedR es (300 + a.b.place) a.b.stay = 0 ∧ movedR es (700 + a.b.channel) a.b.stay = 0 ∧ movedR es (400 + a.b.place) a.b.stay = 0
theorem movedR_mv {day frm tgt cents ref acc : Int} : movedR (mvL day frm tgt cents ref) acc ref = if 0 < cents then (if tgt = acc then cents else 0) - (if frm = acc then cents else 0) else 0 := by
  rw [movedR_mvL]
  simp
theorem movedR_entriesL {b : Bill} {x y day acc : Int} : movedR (entriesL b x y day) acc b.stay = (if 0 < y then (if 500 + b.stay % 100 = acc then y else 0) - (if 300 + b.place = acc then y else 0) else 0) + (if 0 < x then (if 500 + b.stay % 100 = acc then x else 0) - (if 900 = acc then x else 0) else 0) := by
  unfold entriesL
  rw [movedR_app]
  congr 1
  · split
    · rw [movedR_one, if_pos (by rfl)]; rfl
    · rfl
  · split
    · rw [movedR_one, if_pos (by rfl)]; rfl
    · rfl
theorem payer_direct {b : Bill} (h : b.direct = true) : payerA b = guestA b.stay := by unfold payerA; rw [if_pos h]
theorem payer_channel {b : Bill} (h : b.direct = false) : payerA b = 200 + b.channel := by unfold payerA; rw [if_neg (by simp [h])]
theorem direct_iff {b : Bill} : b.direct = true ↔ b.channel = 0 := by unfold Bill.direct; simp
theorem Deeds.acct {V : Env} {es : List Entry} {a : Acc} {x : Deed} {ys : List Entry} {a' : Acc} {n : Nat} (h : Deeds V es a x ys a') (ha : AccOk a n) (hp : partOk V.p V.d = true) (d0 : 0 ≤ x.day) (d1 : x.day ≤ 366)
    (hc : x.kind = 2 ∨ x.kind = 7 ∨ x.kind = 8 → 1 ≤ x.cents ∧ x.cents ≤ 1000000000) (hA : Acct V es a) : Acct V (es ++ ys) a' := by
  obtain ⟨b, st, paid, early⟩ := ha
  have hb := Bill.ok_iff.1 b
  obtain ⟨pos, pre, left, canc, wlk⟩ := hA
  have hg := guest_bd a.b.stay
  have hone := oneR_ok hp b
  have hcm := comm_bd hp hb.2.2.2.2.2.2.1.1
  have hpl := hb.2.2.2.2.2.1
  have hch := hb.2.2.2.2.1
  have hpr := hb.2.2.2.2.2.2.1
  have hkp := hb.2.2.2.2.2.2.2
  clear hb
  cases h
  case book k s =>
    rw [List.append_nil]
    have := pre (by omega)
    exact ⟨pos, fun _ => this, fun h => by simp at h, fun h => by simp at h, fun h => by simp at h⟩
  case arrive k s =>
    rw [List.append_nil]
    have := pre (by omega)
    exact ⟨pos, fun _ => this, fun h => by simp at h, fun h => by simp at h, fun h => by simp at h⟩
  case pay n c k s d h m =>
    obtain ⟨p1, p2, p3, p4, p5, p6, p7, p8⟩ := pre (by omega)
    have hx := hc (.inl k)
    rw [payer_direct d]
    refine ⟨by simp only; omega, fun _ => ?_, fun h => by simp only at h; omega, fun h => by simp only at h; omega, fun h => by simp only at h; omega⟩
    simp only [movedR_app, movedR_mv, if_true]
    refine ⟨(fun h => (by rw [d] at h; cases h)), fun n' c' h' => ?_, ?_, ?_, ?_, ?_, ?_, ?_⟩
    · rw [h] at h'; injection h' with h'; injection h' with _ h'; omega
    all_goals omega
  case late k s m =>
    obtain ⟨n, c, l1, l2, l3, l4, l5, l6⟩ := left s
    have hx := hc (.inl k)
    refine ⟨by simp only; omega, fun h => by simp only at h; omega, fun _ => ⟨n, c, l1, ?_⟩, fun h => by simp only at h; omega, fun h => by simp only at h; omega⟩
    simp only [movedR_app, movedR_mv, if_true]
    cases hd : a.b.direct
    · have l6' := l6 hd
      rw [payer_channel hd]
      refine ⟨by omega, by omega, by omega, (fun h => (by cases h)), fun _ => by omega⟩
    · obtain ⟨m1, m2, m3⟩ := l5 hd
      rw [payer_direct hd]
      refine ⟨by omega, by omega, by omega, fun _ => ⟨by omega, by omega, by omega⟩, (fun h => (by cases h))⟩
  case gone k s d =>
    obtain ⟨p1, p2, p3, p4, p5, p6, p7, p8⟩ := pre (by omega)
    have e := entriesR_ok (paid := a.paid) (day := x.day) b (inB_iff.2 ⟨pos, early (by omega)⟩) (inB_iff.2 ⟨d0, d1⟩)
    rw [e]
    refine ⟨pos, fun h => by simp at h, fun h => by simp at h, fun _ => ?_, fun h => by simp at h⟩
    simp only [movedR_app, movedR_entriesL, if_true]
    unfold guestA at *
    refine ⟨?_, ?_, ?_, ?_, ?_⟩
    all_goals omega
  case keeps k s d =>
    obtain ⟨p1, p2, p3, p4, p5, p6, p7, p8⟩ := pre (by omega)
    have p0 := p1 d
    rw [payer_channel d]
    refine ⟨pos, fun h => by simp at h, fun h => by simp at h, fun _ => ?_, fun h => by simp at h⟩
    simp only [movedR_app, movedR_mv, if_true]
    refine ⟨?_, ?_, ?_, ?_, ?_⟩
    all_goals omega
  case leave n c k s h =>
    obtain ⟨p1, p2, p3, p4, p5, p6, p7, p8⟩ := pre (by omega)
    have hbd := comes_bd b h
    have hfe : (oneR V.p V.d a.b).1 = feeA V a.b := rfl
    rw [hfe]
    have hf0 : 0 ≤ feeA V a.b := by rw [← hfe, hone]; exact hcm.1
    refine ⟨pos, fun h => by simp at h, fun _ => ⟨n, c, h, ?_⟩, fun h => by simp at h, fun h => by simp at h⟩
    simp only [movedR_app, movedR_mv, if_true]
    generalize feeA V a.b = f at *
    cases hd : a.b.direct
    · have p0 := p1 hd
      rw [payer_channel hd]
      refine ⟨by omega, by omega, by omega, (fun h => (by cases h)), fun _ => by omega⟩
    · rw [payer_direct hd]
      refine ⟨by omega, by omega, by omega, fun _ => ⟨by omega, by omega, by omega⟩, (fun h => (by cases h))⟩
  case walk k s h =>
    obtain ⟨p1, p2, p3, p4, p5, p6, p7, p8⟩ := pre (by omega)
    refine ⟨pos, fun h => by simp at h, fun h => by simp at h, fun h => by simp at h, fun _ => ?_⟩
    simp only [movedR_app, movedR_mv, if_true]
    generalize (payR V.k a.b.price).1 = q
    refine ⟨?_, ?_, ?_, ?_⟩
    all_goals omega
  case back k s d m =>
    have hx := hc (.inr (.inl k))
    by_cases h3 : a.st = 3
    · obtain ⟨n, c, l1, l2, l3, l4, l5, l6⟩ := left h3
      obtain ⟨m1, m2, m3⟩ := l5 d
      refine ⟨by simp only; omega, fun h => by simp only at h; omega, fun _ => ⟨n, c, l1, ?_⟩, fun h => by simp only at h; omega, fun h => by simp only at h; omega⟩
      simp only [movedR_app, movedR_mv, if_true]
      refine ⟨by omega, by omega, by omega, fun _ => ⟨by omega, by omega, by omega⟩, (fun h => (by rw [d] at h; cases h))⟩
    · obtain ⟨p1, p2, p3, p4, p5, p6, p7, p8⟩ := pre (by omega)
      refine ⟨by simp only; omega, fun _ => ?_, fun h => by simp only at h; omega, fun h => by simp only at h; omega, fun h => by simp only at h; omega⟩
      simp only [movedR_app, movedR_mv, if_true]
      refine ⟨(fun h => (by rw [d] at h; cases h)), fun n' c' h' => ?_, ?_, ?_, ?_, ?_, ?_, ?_⟩
      · have := p2 n' c' h'; omega
      all_goals omega
  case voucher n c k s d h =>
    obtain ⟨p1, p2, p3, p4, p5, p6, p7, p8⟩ := pre (by omega)
    have hx := hc (.inr (.inr k))
    have hpc := p2 n c h
    refine ⟨by simp only; omega, fun _ => ?_, fun h => by simp only at h; omega, fun h => by simp only at h; omega, fun h => by simp only at h; omega⟩
    simp only [movedR_app, movedR_mv, if_true]
    refine ⟨(fun h => (by rw [d] at h; cases h)), fun n' c' h' => ?_, ?_, ?_, ?_, ?_, ?_, ?_⟩
    · rw [h] at h'; injection h' with h'; injection h' with _ h'; omega
    all_goals omega
theorem Acct.more {V : Env} {es ys : List Entry} {a : Acc} (h : Acct V es a) (hy : ∀ e ∈ ys, e.ref ≠ a.b.stay) : Acct V (es ++ ys) a := by
  have e : ∀ acc, movedR (es ++ ys) acc a.b.stay = movedR es acc a.b.stay := fun acc => by rw [movedR_app, movedR_far hy, Int.add_zero]
  obtain ⟨pos, pre, left, canc, wlk⟩ := h
  refine ⟨pos, ?_, ?_, ?_, ?_⟩
  all_goals simp only [e]; assumption
theorem Steps.acct {V : Env} (hV : EnvOk V) {c : Crs} {x : Deed} {c' : Crs} {n : Nat} (hf : formedD c.day x = true) (h : Steps V c x c') (hc : CrsOk c n) (hA : ∀ a ∈ c.ac, Acct V c.es a) : ∀ a ∈ c'.ac, Acct V c'.es a := by
  obtain ⟨f1, f2, f3, f4⟩ := formed_iff.1 hf
  have hd := hc.day
  cases h
  case broke k m =>
    intro a ha
    refine (hA a ha).more fun e he => ?_
    obtain ⟨_, rfl⟩ := mvL_mem he
    have := (Bill.ok_iff.1 (hc.ac a ha).b).2.2.2.1
    simp only
    omega
  case deed k i a hi ha ys a' h =>
    have hac := hc.ac a (List.mem_of_getElem? ha)
    have hcents : x.kind = 2 ∨ x.kind = 7 ∨ x.kind = 8 → 1 ≤ x.cents ∧ x.cents ≤ 1000000000 := fun h => f3 (by omega)
    have hys := h.es_ok hac hV.k hV.p (by omega) (by omega) hcents
    have hnew := h.acct hac hV.p (by omega) (by omega) hcents (hA a (List.mem_of_getElem? ha))
    obtain ⟨hlt, hat⟩ := List.getElem?_eq_some_iff.1 ha
    intro b hb
    obtain ⟨j, hj, rfl⟩ := List.getElem_of_mem hb
    have hj' : j < c.ac.length := by simpa using hj
    show Acct V (c.es ++ ys) (c.ac.set i a')[j]
    rw [List.getElem_set]
    split
    · exact hnew
    · next hne =>
      refine (hA _ (List.getElem_mem hj')).more fun e he => ?_
      rw [(hys e he).2.2, ← hat]
      intro heq
      have hn := List.pairwise_iff_getElem.1 hc.stays
      rcases Nat.lt_or_gt_of_ne hne with hlt' | hlt'
      · have := hn i j (by simpa using hlt) (by simpa using hj') hlt'
        simp at this
        exact this heq
      · have := hn j i (by simpa using hj') (by simpa using hlt) hlt'
        simp at this
        exact this heq.symm
theorem crs0_acct (V : Env) {bills : List Bill} (hk : ∀ b ∈ bills, b.ok = true) : ∀ a ∈ (crs0 bills).ac, Acct V (crs0 bills).es a := by
  intro a ha
  obtain ⟨b, hb, rfl⟩ := List.mem_map.1 ha
  refine ⟨by simp, fun _ => ?_, by simp, by simp, by simp⟩
  simp only [crs0, movedR_nil]
  refine ⟨fun _ => trivial, fun n c h => ?_, by simp, by simp, by simp, by simp, by simp, by simp⟩
  exact (comes_bd (hk b hb) h).2.2.1
end Go.Proofs.YtmlhoojcdidgkaaGreat

/-
  Package folio and its reference: what the laws ask.
-/
namespace Go.Proofs.YtmlhoojcdidgkaaGreat
set_option linter.unusedSimpArgs false
set_option linter.unusedVariables false
open Go.RowKit
open Go.Sort (grow size_grow)


set_option maxHeartbeats 4000000
set_option maxRecDepth 100000
theorem frun_any (V : Env) (bills : List Bill) (l : List Deed) (A At Al : Option Addr) (c ct cl : Nat) (w : World) (hs : SlBill w A bills) (hts : SlTax w At V.ts) (hsl : SlDeed w Al l) (hb : bills.length ≤ 3000) (htl : V.ts.length ≤ 1000) (hll : l.length ≤ 500)
    (hst : ∀ x ∈ l, -9223372036854775808 ≤ x.stay ∧ x.stay ≤ 9223372036854775807) :
    Calls Tryz.prog 17 #[.slice A bills.length c, .slice At V.ts.length ct, .agg #[.int .i64 V.p, .int .i64 V.d], V.k.v, .slice Al l.length cl] w fun e w' => OutRun (runR V bills l) e w' ∧ Below w.heap.size w w' := by
  cases hok : runOk V bills
  · exact frun_no V bills l A At Al c ct cl w hs hts hb htl hll hok
  · exact frun_ok V bills l A At Al c ct cl w hs hts hsl hb htl hll hst hok
def fewB (a b c : Nat) : Bool := decide (a ≤ 40) && decide (b ≤ 60) && decide (c ≤ 40)
/-- Was a deed of a kind done for a stay? -/
def didR (l : List Deed) (errs : List Int) (k s : Int) : Bool := (l.zip errs).any fun p => (p.2 == 0) && (p.1.kind == k) && (p.1.stay == s)
theorem didR_step {l : List Deed} {errs : List Int} {k s : Int} {m : Nat} (h1 : m < l.length) (h2 : m < errs.length) : didR (l.take (m + 1)) (errs.take (m + 1)) k s = (didR (l.take m) (errs.take m) k s || ((errs[m] == 0) && (l[m].kind == k) && (l[m].stay == s))) := by
  unfold didR
  rw [List.take_succ_eq_append_getElem h1, List.take_succ_eq_append_getElem h2, List.zip_append (by rw [List.length_take, List.length_take]; omega), List.any_append]
  simp
/-! ### What is due -/
def dueR (l : List Entry) (s day : Int) : Int × Int := if (ledOk l && inB s 1 1000000 && inB day 0 366) = true then (sumE (guestA s) (ofE s day) l, 0) else (0, 1)
end Go.Proofs.YtmlhoojcdidgkaaGreat

/-
  Package folio: the examples.
-/
namespace Go.Proofs.YtmlhoojcdidgkaaGreat
set_option linter.unusedSimpArgs false
set_option linter.unusedVariables false
open Go.RowKit
open Go.Sort (grow size_grow)


set_option maxHeartbeats 4000000
set_option maxRecDepth 100000
def fxB : Bill := ⟨7, 0, 4, 1, 5, 8, 2, 30000, 0⟩
def fxO : Bill := ⟨8, 3, 4, 1, 5, 8, 2, 30000, 0⟩
def fxT : Tax := ⟨1, 4, 200, 0, 1, 0, 1⟩
def fxV : Env := ⟨[fxT], 1, 10, ⟨100, 0, 1, 1⟩⟩
def fxV0 : Env := ⟨[], 0, 0, ⟨100, 0, 1, 1⟩⟩
def fxD : List Deed := [⟨1, 0, 7, 0⟩, ⟨2, 1, 7, 10000⟩, ⟨4, 5, 7, 0⟩, ⟨5, 8, 7, 0⟩, ⟨2, 9, 7, 21201⟩, ⟨2, 9, 7, 21200⟩, ⟨1, 9, 8, 0⟩, ⟨4, 9, 8, 0⟩, ⟨5, 9, 8, 0⟩, ⟨9, 10, 3, 0⟩]
def fxE : List Entry := [⟨1, 900, 507, 10000, 7⟩, ⟨8, 507, 304, 30000, 7⟩, ⟨8, 507, 404, 1200, 7⟩, ⟨8, 700, 304, 3000, 7⟩, ⟨9, 900, 507, 21200, 7⟩, ⟨9, 203, 304, 30000, 8⟩, ⟨9, 203, 404, 1200, 8⟩, ⟨9, 703, 304, 3000, 8⟩, ⟨10, 803, 203, 31200, 0⟩]
def fxR : List Int := [0, 0, 0, 0, 41, 0, 0, 0, 0, 0]
theorem fx_run : runR fxV [fxB, fxO] fxD = (fxE, fxR, 0) := by decide +kernel
theorem fx_run0 : runR fxV0 [] [] = ([], [], 1) := by decide +kernel
theorem fx_due : dueR fxE 7 8 = (21200, 0) := by decide +kernel
theorem fx_clo : dueR fxE 7 366 = (0, 0) := by decide +kernel
theorem fx_b1 : balR fxE 304 366 = (-66000, 0) := by decide +kernel
theorem fx_b2 : balR fxE 803 366 = (31200, 0) := by decide +kernel
theorem frun_lit {V : Env} {bills : List Bill} {l : List Deed} {es : List Entry} {errs : List Int} {er : Int} (h : runR V bills l = (es, errs, er)) (A At Al : Option Addr) (c ct cl : Nat) (w : World) (hs : SlBill w A bills) (hts : SlTax w At V.ts) (hsl : SlDeed w Al l) (hb : bills.length ≤ 3000) (htl : V.ts.length ≤ 1000) (hll : l.length ≤ 500)
    (hst : ∀ x ∈ l, -9223372036854775808 ≤ x.stay ∧ x.stay ≤ 9223372036854775807) :
    Calls Tryz.prog 17 #[.slice A bills.length c, .slice At V.ts.length ct, .agg #[.int .i64 V.p, .int .i64 V.d], V.k.v, .slice Al l.length cl] w fun e w' => (∃ A1 c1 A2 c2, e = .returned (.tuple #[.slice A1 es.length c1, .slice A2 errs.length c2, .int .i64 er]) ∧ SlEnt w' A1 es ∧ SlInt w' A2 errs) ∧ Below w.heap.size w w' := by
  have := frun_any V bills l A At Al c ct cl w hs hts hsl hb htl hll hst
  rw [h] at this
  exact this
theorem make10 (W : World) : (Instr.makeSlice 52 (.int .i64 10) (.int .i64 10)).run Tryz.prog W = .ok (.slice (some ⟨W.heap.size, 0, none⟩) 10 10) (W.alloc (.cells #[.int .i64 0, .int .i64 0, .int .i64 0, .int .i64 0, .int .i64 0, .int .i64 0, .int .i64 0, .int .i64 0, .int .i64 0, .int .i64 0] 33)) := by kernel_rfl
end Go.Proofs.YtmlhoojcdidgkaaGreat

/-
  The laws of package commission: their arguments.
-/
namespace Go.Proofs.YtmlhoojcdidgkaaGreat
set_option linter.unusedSimpArgs false
set_option linter.unusedVariables false
open Go.ChangeShapes Go.WideShapes Go.ChangeAt Go.RowKit Go.Deep
set_option maxRecDepth 100000
theorem dec_billC (cs : List Value) (h : cs.length = 9) (hc : ∀ (i : Nat) (c : Value), cs[i]? = some c → isI64 c) : ∃ b : Bill, cs = b.cs := by
  match cs, h with
  | [a, b, c, d, e, f, g, x, y], _ =>
    obtain ⟨a, rfl, _⟩ := hc 0 _ rfl
    obtain ⟨b, rfl, _⟩ := hc 1 _ rfl
    obtain ⟨c, rfl, _⟩ := hc 2 _ rfl
    obtain ⟨d, rfl, _⟩ := hc 3 _ rfl
    obtain ⟨e, rfl, _⟩ := hc 4 _ rfl
    obtain ⟨f, rfl, _⟩ := hc 5 _ rfl
    obtain ⟨g, rfl, _⟩ := hc 6 _ rfl
    obtain ⟨x, rfl, _⟩ := hc 7 _ rfl
    obtain ⟨y, rfl, _⟩ := hc 8 _ rfl
    exact ⟨⟨a, b, c, d, e, f, g, x, y⟩, rfl⟩
theorem dec_rat (cs : List Value) (h : cs.length = 2) (hc : ∀ (i : Nat) (c : Value), cs[i]? = some c → isI64 c) : ∃ t : Int × Int, Value.agg cs.toArray = .agg #[.int .i64 t.1, .int .i64 t.2] := by
  match cs, h with
  | [a, b], _ =>
    obtain ⟨a, rfl, _⟩ := hc 0 _ rfl
    obtain ⟨b, rfl, _⟩ := hc 1 _ rfl
    exact ⟨(a, b), rfl⟩
theorem dec_int1 (cs : List Value) (h : cs.length = 1) (hc : ∀ (i : Nat) (c : Value), cs[i]? = some c → isI64 c) : ∃ n : Int, cs = intC n := by
  match cs, h with
  | [a], _ =>
    obtain ⟨a, rfl, _⟩ := hc 0 _ rfl
    exact ⟨a, rfl⟩
section
variable {H : Type} {enc : TypeId × Value → H} {w : World} {r : Reach} {b0 : Nat} {v : Value} {d : DataW H} {p : List MemPlace}
theorem arg_rat (hv : Value.okWide Tryz.prog w r b0 40 v) (h : DataW.Trod enc Tryz.prog w 0 (fun _ => true) true 40 v d p) : ∃ t : Int × Int, v = .agg #[.int .i64 t.1, .int .i64 t.2] := by
  obtain ⟨cs, rfl, hsz, hc⟩ := open_ints (n := 4) Tryz.underlying40 (by kernel_rfl) hv h
  obtain ⟨l⟩ := cs
  exact dec_rat l (hsz.trans (by kernel_rfl)) (fun i c hi => hc i c (by simpa using hi))
theorem arg_bills (hv : Value.okWide Tryz.prog w r b0 22 v) (h : DataW.Trod enc Tryz.prog w 0 (fun _ => true) true 22 v d p) : ∃ (A : Option Addr) (l : List Bill) (c : Nat), v = .slice A l.length c ∧ SlBill w A l ∧ l.length ≤ maxLen :=
  open_slice_ints (n := 4) (size := 9) (code := Bill.cs) Tryz.underlying22 (by kernel_rfl) (by kernel_rfl) (by decide) dec_billC hv h
theorem arg_intl (hv : Value.okWide Tryz.prog w r b0 32 v) (h : DataW.Trod enc Tryz.prog w 0 (fun _ => true) true 32 v d p) : ∃ (A : Option Addr) (l : List Int) (c : Nat), v = .slice A l.length c ∧ SlInt w A l ∧ l.length ≤ maxLen :=
  open_slice_ints (n := 4) (size := 1) (code := intC) Tryz.underlying32 (by kernel_rfl) (by kernel_rfl) (by decide) dec_int1 hv h
end
/-- The datum of a slice has as many elements as the slice. -/
theorem slice_datum {H : Type} {enc : TypeId × Value → H} {P : Program} {w : World} {spare : Nat → Bool} {held : Bool} {r : Reach} {b0 : Nat} {t e : TypeId} {v : Value} {d : DataW H} {p : List MemPlace} (hs : P.underlying t = some (.slice e)) (hv : Value.okWide P w r b0 t v) (h : DataW.Trod enc P w 0 spare held t v d p) :
    ∀ (A : Option Addr) (n c : Nat), v = .slice A n c → n = 0 ∨ ∃ el sp, d = .slice el sp ∧ el.length = n := by
  obtain ⟨a, len, cap, rfl⟩ := okWide_slice hs hv
  obtain ⟨fuel, hf⟩ := h
  intro A n c hA
  injection hA with e1 e2 e3
  subst e1 e2 e3
  rcases open_slice hs hf with ⟨h1, _⟩ | ⟨a', len', cap', m, n', D, Pl, h1, _, hlc, hcm, hm, hx, hel⟩
  · simp [Value.cells] at h1
    exact .inl h1.2.1
  · simp [Value.cells] at h1
    obtain ⟨rfl, rfl, rfl⟩ := h1
    injection hx with hx _
    exact .inr ⟨_, _, hx, by simp⟩
theorem slice_reach {H : Type} {P : Program} {t e : TypeId} {d : DataW H} {n B : Nat} (hs : P.underlying t = some (.slice e)) (hB : P.bytesOf e = B) (h1 : 1 ≤ B) (hd : n = 0 ∨ ∃ el sp, d = .slice el sp ∧ el.length = n) (hw : (DataW.weights P t d).all (· ≤ reachBytes) = true) : n ≤ 140737488355328 := by
  rcases hd with rfl | ⟨el, sp, rfl, rfl⟩
  · omega
  · unfold DataW.weights at hw
    rw [hs] at hw
    simp only [List.all_cons, Bool.and_eq_true, decide_eq_true_eq, hB] at hw
    have h2 := hw.1
    unfold reachBytes at h2
    have h3 : (el.length + sp.length) * 1 ≤ (el.length + sp.length) * B := Nat.mul_le_mul_left _ h1
    omega
theorem slice_room2 {H : Type} {enc : TypeId × Value → H} {P : Program} {w : World} {spare : Nat → Bool} {held : Bool} {r : Reach} {b0 : Nat} {t e : TypeId} {v : Value} {d : DataW H} {p : List MemPlace} (hs : P.underlying t = some (.slice e)) (hv : Value.okWide P w r b0 t v) (h : DataW.Trod enc P w 0 spare held t v d p) :
    ∀ (A : Option Addr) (n c : Nat), v = .slice A n c → n ≤ c ∧ (A = none → c = 0) := by
  obtain ⟨a, len, cap, rfl⟩ := okWide_slice hs hv
  obtain ⟨fuel, hf⟩ := h
  intro A n c hA
  injection hA with e1 e2 e3
  subst e1 e2 e3
  rcases open_slice hs hf with ⟨h1, _⟩ | ⟨a', len', cap', m, n', D, Pl, h1, _, hlc, hcm, hm, _, hel⟩
  · simp [Value.cells] at h1
    obtain ⟨rfl, rfl, rfl⟩ := h1
    exact ⟨Nat.le_refl _, fun _ => rfl⟩
  · simp [Value.cells] at h1
    obtain ⟨rfl, rfl, rfl⟩ := h1
    exact ⟨hlc, fun h => by cases h⟩
end Go.Proofs.YtmlhoojcdidgkaaGreat
