/-
  Package returns: whether bills and taxes are right; the taxes of each place.
-/
import Derived.Test.YtmlhoojcdidgkaaGreatM25
import Derived.Test.YtmlhoojcdidgkaaGreatM28
namespace Go.Proofs.YtmlhoojcdidgkaaGreat
set_option linter.unusedSimpArgs false
set_option linter.unusedVariables false
open Go.RowKit Go.Maps
open Go.Sort (grow size_grow)


set_option maxHeartbeats 4000000
set_option maxRecDepth 100000
def checkR (ts : List Tax) (bills : List Bill) : Int := if 3000 < bills.length then 2 else if (!billsOk bills || !taxesOk ts) = true then 1 else 0
theorem comms_zero : ∀ l : List Bill, (comms 0 1 l).sum = 0
  | [] => rfl
  | b :: l => by
    have ih := comms_zero l
    unfold comms at ih ⊢
    rw [List.map_cons, List.sum_cons, ih]
    unfold comm
    rw [Int.mul_zero]
    decide
theorem stmt00 (bills : List Bill) : ∃ r, stmtR 0 1 bills 0 = (r, 0, if 3000 < bills.length then 2 else if billsOk bills = true then 0 else 1) := by
  by_cases h0 : 3000 < bills.length
  · exact ⟨[], by rw [stmtR_many h0, if_pos h0]⟩
  · rw [if_neg h0]
    cases hb : billsOk bills
    · exact ⟨[], by rw [stmtR_no (by omega) (by rw [hb]; rfl)]; rfl⟩
    · exact ⟨_, by rw [stmtR_ok (by omega) (by decide) hb (by decide) (by rw [comms_zero]; omega), comms_zero]; rfl⟩
theorem check_any (ts : List Tax) (bills : List Bill) (A B : Option Addr) (c d : Nat) (w : World) (ht : SlTax w A ts) (hs : SlBill w B bills) (hl : bills.length ≤ maxLen) (hl2 : ts.length ≤ 1000000000000) :
    Calls Tryz.prog 31 #[.slice A ts.length c, .slice B bills.length d] w fun e w' => e = .returned (.int .i64 (checkR ts bills)) ∧ Below w.heap.size w w' := by
  obtain ⟨r, hr⟩ := stmt00 bills
  by_cases h0 : 3000 < bills.length
  · rw [if_pos h0] at hr
    have hc : checkR ts bills = 2 := by unfold checkR; rw [if_pos h0]
    rw [hc]
    have HR := Lib.hid hr
    clear hr
    go_enter Tryz.func31, Tryz.ntmps31
    go_wp2_with fail
    refine (cstmt_lit HR.out B d w hs hl).mono ?_
    rintro e w1 ⟨⟨A1, c1, rfl, _⟩, b1⟩
    go_wp2_with fail
    go_ret
    exact ⟨rfl, b1⟩
  · rw [if_neg h0] at hr
    cases hb : billsOk bills
    · have hc : checkR ts bills = 1 := by unfold checkR; rw [if_neg h0, hb]; rfl
      rw [hb, if_neg (by simp)] at hr
      rw [hc]
      have HR := Lib.hid hr
      clear hr
      go_enter Tryz.func31, Tryz.ntmps31
      go_wp2_with fail
      refine (cstmt_lit HR.out B d w hs hl).mono ?_
      rintro e w1 ⟨⟨A1, c1, rfl, _⟩, b1⟩
      go_wp2_with fail
      go_ret
      exact ⟨rfl, b1⟩
    · rw [hb, if_pos rfl] at hr
      have HR := Lib.hid hr
      clear hr
      cases hts : taxesOk ts
      · have hc : checkR ts bills = 1 := by unfold checkR; rw [if_neg h0, hb, hts]; rfl
        rw [hc]
        go_enter Tryz.func31, Tryz.ntmps31
        go_wp2_with fail
        refine (cstmt_lit HR.out B d w hs hl).mono ?_
        rintro e w1 ⟨⟨A1, c1, rfl, _⟩, b1⟩
        go_wp2_with fail
        refine (tvalid_any ts A c _ (ht.up b1) hl2).mono ?_
        rintro e w2 ⟨rfl, b2⟩
        rw [hts]
        go_wp2_with fail
        go_ret
        exact ⟨rfl, below_up b1 b1.size b2⟩
      · have hc : checkR ts bills = 0 := by unfold checkR; rw [if_neg h0, hb, hts]; rfl
        rw [hc]
        go_enter Tryz.func31, Tryz.ntmps31
        go_wp2_with fail
        refine (cstmt_lit HR.out B d w hs hl).mono ?_
        rintro e w1 ⟨⟨A1, c1, rfl, _⟩, b1⟩
        go_wp2_with fail
        refine (tvalid_any ts A c _ (ht.up b1) hl2).mono ?_
        rintro e w2 ⟨rfl, b2⟩
        rw [hts]
        go_wp2_with fail
        go_ret
        exact ⟨rfl, below_up b1 b1.size b2⟩
/-- What a bill's taxes count in its place's sum. -/
def taxN (ts : List Tax) (b : Bill) : Int := if (allT ts b).2.2 = 0 then (allT ts b).2.1 else 1000000001
theorem taxN_nn (ts : List Tax) (b : Bill) : 0 ≤ taxN ts b ∧ taxN ts b ≤ 1000000001 := by
  have := allT_nn ts b
  unfold taxN
  split <;> omega
def placeN (ts : List Tax) (bills : List Bill) (p : Int) : Int := ((bills.filter fun b => b.place == p).map (taxN ts)).sum
theorem placeN_snoc (ts : List Tax) (bills : List Bill) (b : Bill) (p : Int) : placeN ts (bills ++ [b]) p = placeN ts bills p + if b.place = p then taxN ts b else 0 := by
  unfold placeN
  rw [List.filter_append, List.map_append, List.sum_append]
  by_cases h : b.place = p
  · rw [if_pos h]; simp [h]
  · rw [if_neg h]; simp [h]
theorem placeN_nn (ts : List Tax) (p : Int) (bills : List Bill) : 0 ≤ placeN ts bills p := by
  induction bills using rev_ind with
  | h0 => exact Int.le_refl _
  | h1 l x ih =>
    have := taxN_nn ts x
    rw [placeN_snoc]
    split <;> omega
structure PlaceOf (D : DM) (ts : List Tax) (bills : List Bill) : Prop where
  tidy : Tidy D
  at_ : ∀ p, getI D p = min (placeN ts bills p) 1000000001
theorem placeOf_empty (ts : List Tax) : PlaceOf (.map []) ts [] := ⟨tidy_empty, fun _ => rfl⟩
theorem PlaceOf.step {D : DM} {ts : List Tax} {bills : List Bill} (h : PlaceOf D ts bills) (b : Bill) {c : Int} (hc : getI D b.place = c) : PlaceOf (putI D b.place (min (c + taxN ts b) 1000000001)) ts (bills ++ [b]) := by
  have hn := taxN_nn ts b
  refine ⟨putI_tidy h.tidy _ _, fun p => ?_⟩
  rw [placeN_snoc]
  have h1 := h.at_ p
  by_cases hp : p = b.place
  · subst hp
    rw [getI_same h.tidy, if_pos rfl]
    omega
  · rw [getI_other hp, if_neg (fun e => hp e.symm), h1]
    omega
theorem rsums_any (ts : List Tax) (bills : List Bill) (A B : Option Addr) (c d : Nat) (w : World) (ht : SlTax w A ts) (hs : SlBill w B bills) (hl : bills.length ≤ 3000) (hl2 : ts.length ≤ 1000000000000) (hk : ∀ b ∈ bills, b.ok = true) :
    Calls Tryz.prog 32 #[.slice A ts.length c, .slice B bills.length d] w fun e w' => (∃ b D, e = .returned (.map (some b)) ∧ w'.ownsMap Tryz.prog 3 (plainElem Tryz.prog 3) b bills.length D ∧ PlaceOf D ts bills) ∧ Below w.heap.size w w' := by
  have HK := Lib.hid hk
  clear hk
  have hmm := @run_makeMap Tryz.prog
  go_enter Tryz.func32, Tryz.ntmps32
  go_wp2_with fail
  go_loopw [14] (fun i wr => ∃ (m : Nat) (D : DM), m ≤ bills.length ∧ i = .int .i64 m ∧ wr.ownsMap Tryz.prog 3 (plainElem Tryz.prog 3) w.heap.size m D ∧ Hid (PlaceOf D ts (bills.take m)) ∧ Below w.heap.size w wr ∧ w.heap.size < wr.heap.size) (fun i _ => bills.length - (intOf i).toNat)
  case atStart => exact ⟨0, .map [], by omega, rfl, World.ownsMap_made w Tryz.prog 3 _, Lib.hid (placeOf_empty ts), (by repeat' (first | (with_reducible exact Below.refl _ _) | (with_reducible assumption) | (with_reducible refine below_drewN ?_ _) | (with_reducible refine Below.drew ?_) | (with_reducible refine below_regrown_up _ _ ?_ ?_) | (with_reducible refine Below.alloc ?_ ?_ _) | (with_reducible refine Below.setCell ?_ ?_ _) | (with_reducible refine below_up ?_ ?_ (by assumption)) | (with_reducible exact Nat.le_refl _) | omega | (simp; done) | (simp; omega))), by simp⟩
  case round =>
    obtain ⟨m, D, hm, rfl, hown, hP, hbw, hlw⟩ := hrel
    have hbz := hbw.size
    by_cases hlt : m < bills.length
    · have hx1 : (0 : Int) ≤ (m : Int) := by omega
      have hx2 : (m : Int) < (bills.length : Int) := by omega
      obtain ⟨bb, off, rfl, hbl, hcell⟩ := (hs.up hbw).at_ hlt
      have q0 := hcell 0 _ rfl
      have q1 := hcell 1 _ rfl
      have q2 := hcell 2 _ rfl
      have q3 := hcell 3 _ rfl
      have q4 := hcell 4 _ rfl
      have q5 := hcell 5 _ rfl
      have q6 := hcell 6 _ rfl
      have q7 := hcell 7 _ rfl
      have q8 := hcell 8 _ rfl
      rw [Nat.add_zero] at q0
      clear hcell
      have hpl := (Bill.ok_iff.1 (HK.out _ (List.getElem_mem hlt))).2.2.2.2.2.1
      have hnn := taxN_nn ts bills[m]
      have hst : bills.take (m + 1) = bills.take m ++ [bills[m]] := List.take_succ_eq_append_getElem hlt
      have HST := Lib.hid hst
      clear hst
      obtain ⟨r, n, er, hall⟩ : ∃ r n er, allT ts bills[m] = (r, n, er) := ⟨_, _, _, rfl⟩
      have hnt : taxN ts bills[m] = if er = 0 then n else 1000000001 := by unfold taxN; rw [hall]
      have HALL := Lib.hid hall
      have HNT := Lib.hid hnt
      clear hall hnt
      go_wp2_with fail
      refine name_calls (fun w3 hw3 => ?_)
      have b3 : Below wr.heap.size wr w3 := by rw [hw3]; exact (by repeat' (first | (with_reducible exact Below.refl _ _) | (with_reducible assumption) | (with_reducible refine below_drewN ?_ _) | (with_reducible refine Below.drew ?_) | (with_reducible refine below_regrown_up _ _ ?_ ?_) | (with_reducible refine Below.alloc ?_ ?_ _) | (with_reducible refine Below.setCell ?_ ?_ _) | (with_reducible refine below_up ?_ ?_ (by assumption)) | (with_reducible exact Nat.le_refl _) | omega | (simp; done) | (simp; omega)))
      have k2 : w3.cell? ⟨wr.heap.size, 2, none⟩ = some (.int .i64 bills[m].place) := by rw [hw3]; go_simp
      have l3 : wr.heap.size < w3.heap.size := by rw [hw3]; simp
      clear hw3 q0 q1 q2 q3 q4 q5 q6 q7 q8
      have B3 := below_up hbw hbz b3
      refine (tall_lit HALL.out A c w3 (ht.up B3) hl2).mono ?_
      rintro e w4 ⟨⟨A4, c4, rfl⟩, b4⟩
      have j2 := (b4.cell (p := ⟨wr.heap.size, 2, none⟩) l3).trans k2
      have b34 := below_up b3 b3.size b4
      have B4 := below_up hbw hbz b34
      have hown4 : w4.ownsMap Tryz.prog 3 (plainElem Tryz.prog 3) w.heap.size m D := hown.kept (grownBy_below b34 none) (by simp)
      have hz4 := b34.size
      have HPH := Lib.hid (hP.out.at_ bills[m].place)
      have hPn := placeN_nn ts bills[m].place (bills.take m)
      obtain ⟨n2, hn2⟩ : ∃ n2 : Int, n2 = taxN ts bills[m] := ⟨_, rfl⟩
      rw [← hn2] at hnn
      have HN2 := Lib.hid hn2
      clear k2 hn2
      by_cases he : er = 0
      · subst he
        have hnn2 : n2 = n := by rw [HN2.out, HNT.out, if_pos rfl]
        subst hnn2
        go_wp2_with (first
          | (at_lookup; refine wpList_lookup_own_int _ rfl _ _ 76 rfl 3 3 .i64 keyedI Tryz.underlying76 Tryz.underlying3 (zero_int _) w.heap.size m D rfl hown4 _ _ rfl (keyOf_int_mk Tryz.underlying3 (WalkArith.wf_i64 (by omega))) ?_; intro c1 hat1 hwc1; have HG1 := Lib.hid (getI_of hat1); clear hat1 hwc1; obtain ⟨v1, v2⟩ : 0 ≤ c1 ∧ c1 ≤ 1000000001 := by (have h1 := HPH.out; have h2 := HG1.out; omega))
          | (at_mapUpdate; refine wpList_mapUpdate_own _ rfl _ _ _ 76 rfl 3 3 keyedI Tryz.underlying76 _ w.heap.size m D rfl hown4 (by unfold maxLen; omega) _ _ _ rfl rfl (keyOf_int_mk Tryz.underlying3 (WalkArith.wf_i64 (by omega))) _ [] (plainElem_int Tryz.underlying3 (WalkArith.wf_i64 (by omega))) ?_; intro w5 hown5 hgrow5))
        go_roundw
        case rel =>
          refine ⟨m + 1, _, by omega, by go_num, hown5, Lib.hid ?_, B4.grown hgrow5 (by omega) (fun j e => by injection e with e; omega), by have := hgrow5.size; omega⟩
          have key := hP.out.step bills[m] HG1.out
          rw [← HST.out] at key
          rw [← HN2.out] at key
          show PlaceOf (putI D bills[m].place (if 1000000001 < c1 + n2 then 1000000001 else c1 + n2)) ts _
          rw [show (if 1000000001 < c1 + n2 then 1000000001 else c1 + n2) = min (c1 + n2) 1000000001 from by split <;> omega]
          exact key
        case measure => simp [intOf]; omega
      · have heb : (er != 0) = true := by simpa using he
        have hnn2 : n2 = 1000000001 := by rw [HN2.out, HNT.out, if_neg he]
        subst hnn2
        clear he
        go_wp2_with (first
          | (at_lookup; refine wpList_lookup_own_int _ rfl _ _ 76 rfl 3 3 .i64 keyedI Tryz.underlying76 Tryz.underlying3 (zero_int _) w.heap.size m D rfl hown4 _ _ rfl (keyOf_int_mk Tryz.underlying3 (WalkArith.wf_i64 (by omega))) ?_; intro c1 hat1 hwc1; have HG1 := Lib.hid (getI_of hat1); clear hat1 hwc1; obtain ⟨v1, v2⟩ : 0 ≤ c1 ∧ c1 ≤ 1000000001 := by (have h1 := HPH.out; have h2 := HG1.out; omega))
          | (at_mapUpdate; refine wpList_mapUpdate_own _ rfl _ _ _ 76 rfl 3 3 keyedI Tryz.underlying76 _ w.heap.size m D rfl hown4 (by unfold maxLen; omega) _ _ _ rfl rfl (keyOf_int_mk Tryz.underlying3 (WalkArith.wf_i64 (by omega))) _ [] (plainElem_int Tryz.underlying3 (WalkArith.wf_i64 (by omega))) ?_; intro w5 hown5 hgrow5))
        go_roundw
        case rel =>
          refine ⟨m + 1, _, by omega, by go_num, hown5, Lib.hid ?_, B4.grown hgrow5 (by omega) (fun j e => by injection e with e; omega), by have := hgrow5.size; omega⟩
          have key := hP.out.step bills[m] HG1.out
          rw [← HST.out] at key
          rw [← HN2.out] at key
          show PlaceOf (putI D bills[m].place (if 1000000001 < c1 + 1000000001 then 1000000001 else c1 + 1000000001)) ts _
          rw [show (if 1000000001 < c1 + 1000000001 then 1000000001 else c1 + 1000000001) = min (c1 + 1000000001) 1000000001 from by split <;> omega]
          exact key
        case measure => simp [intOf]; omega
    · obtain rfl : m = bills.length := by omega
      have hPP := hP.out
      rw [List.take_of_length_le (Nat.le_refl _)] at hPP
      go_wp2_with fail
      go_ret
      exact ⟨⟨_, D, rfl, hown, hPP⟩, hbw⟩
/-- What Place answers. -/
def placeR (ts : List Tax) (bills : List Bill) (p : Int) : Int × Int :=
  if checkR ts bills ≠ 0 then (0, checkR ts bills) else if inB p 1 99 = false then (0, 1) else if 1000000000 < placeN ts bills p then (0, 3) else (placeN ts bills p, 0)
theorem checkR_zero {ts : List Tax} {bills : List Bill} : checkR ts bills = 0 ↔ bills.length ≤ 3000 ∧ billsOk bills = true ∧ taxesOk ts = true := by
  unfold checkR
  split
  · exact ⟨fun h => by omega, fun h => by omega⟩
  · split
    · next h =>
      refine ⟨fun h' => by omega, fun h' => ?_⟩
      rw [h'.2.1, h'.2.2] at h
      simp at h
    · next h0 h =>
      refine ⟨fun _ => ⟨by omega, ?_⟩, fun _ => rfl⟩
      simpa using h
theorem rplace_any (ts : List Tax) (bills : List Bill) (A B : Option Addr) (c d : Nat) (p : Int) (w : World) (ht : SlTax w A ts) (hs : SlBill w B bills) (hl : bills.length ≤ maxLen) (hl2 : ts.length ≤ 1000000000000) :
    Calls Tryz.prog 13 #[.slice A ts.length c, .slice B bills.length d, .int .i64 p] w fun e w' => e = .returned (.tuple #[.int .i64 (placeR ts bills p).1, .int .i64 (placeR ts bills p).2]) ∧ Below w.heap.size w w' := by
  by_cases hc : checkR ts bills = 0
  rotate_left
  · have hr : placeR ts bills p = (0, checkR ts bills) := by unfold placeR; rw [if_pos hc]
    have hcb : (checkR ts bills != 0) = true := by simpa using hc
    rw [hr]
    clear hc hr
    go_enter Tryz.func13, Tryz.ntmps13
    go_wp2_with fail
    refine (check_any ts bills A B c d w ht hs hl hl2).mono ?_
    rintro e w1 ⟨rfl, b1⟩
    go_wp2_with fail
    go_ret2
    exact ⟨rfl, b1⟩
  · obtain ⟨c1, c2, c3⟩ := checkR_zero.1 hc
    have HC := Lib.hid hc
    have HB := Lib.hid (billsOk_iff.1 c2).1
    cases hp : inB p 1 99
    · have hr : placeR ts bills p = (0, 1) := by unfold placeR; rw [if_neg (by simp [hc]), hp, if_pos rfl]
      have hpp : p < 1 ∨ 99 < p := by
        have := mt inB_iff.2 (by rw [hp]; simp)
        omega
      rw [hr]
      clear hr hc c2 c3
      rcases hpp with hpp | hpp
      all_goals
        go_enter Tryz.func13, Tryz.ntmps13
        go_wp2_with fail
        refine (check_any ts bills A B c d w ht hs hl hl2).mono ?_
        rintro e w1 ⟨rfl, b1⟩
        rw [HC.out]
        go_wp2_with fail
        go_ret2
        exact ⟨rfl, b1⟩
    · obtain ⟨p0, p1⟩ := inB_iff.1 hp
      have hr : placeR ts bills p = if 1000000000 < placeN ts bills p then (0, 3) else (placeN ts bills p, 0) := by unfold placeR; rw [if_neg (by simp [hc]), hp, if_neg (by simp)]
      have HR := Lib.hid hr
      clear hr hc c2 c3
      go_enter Tryz.func13, Tryz.ntmps13
      go_wp2_with fail
      refine (check_any ts bills A B c d w ht hs hl hl2).mono ?_
      rintro e w1 ⟨rfl, b1⟩
      rw [HC.out]
      go_wp2_with fail
      refine (rsums_any ts bills A B c d w1 (ht.up b1) (hs.up b1) c1 hl2 HB.out).mono ?_
      rintro e w2 ⟨⟨b, D, rfl, hown, hP⟩, b2⟩
      have hat := hP.at_ p
      have hnn := placeN_nn ts p bills
      have B2 := below_up b1 b1.size b2
      have HW : Hid (∀ c1 : Int, D.atKey (.int .i64 p) (.lit (.int .i64 0)) = .lit (.int .i64 c1) → c1 = min (placeN ts bills p) 1000000001) := Lib.hid (fun c1 h => by rw [← hat]; exact (getI_of h).symm)
      clear hat hP
      obtain ⟨v1, hrun, hv, hwv⟩ := hown.lookup_int (t := 76) keyedI Tryz.underlying76 Tryz.underlying3 (zero_int _) (key := .int .i64 p) (keyOf_int_mk Tryz.underlying3 (WalkArith.wf_i64 (by omega)))
      have hv1 := HW.out v1 hv
      have HV := Lib.hid hv1
      clear hv hwv HW
      by_cases hbig : 1000000000 < placeN ts bills p
      · have hv2 : 1000000000 < v1 := by omega
        have HBIG := Lib.hid hbig
        clear hbig hv1
        go_wp2_with fail
        go_ret2
        exact ⟨by rw [HR.out, if_pos HBIG.out]; rfl, B2⟩
      · have hv2 : v1 ≤ 1000000000 := by omega
        have hv3 : v1 = placeN ts bills p := by omega
        have HBIG := Lib.hid hbig
        have HV3 := Lib.hid hv3
        clear hbig hv1 hv3 hnn HV
        go_wp2_with fail
        go_ret2
        exact ⟨by rw [HR.out, if_neg (by have := HBIG.out; omega), ← HV3.out]; rfl, B2⟩
end Go.Proofs.YtmlhoojcdidgkaaGreat
