/-
  The law 'ReturnsPlaces': the plain part and the walk.
-/
import Derived.Test.YtmlhoojcdidgkaaGreatRet10
import Derived.Test.YtmlhoojcdidgkaaGreatReUndoP
namespace Go.Proofs.YtmlhoojcdidgkaaGreat
set_option linter.unusedSimpArgs false
set_option linter.unusedVariables false
open Go.RowKit Go.Maps
open Go.Sort (grow size_grow)

set_option maxHeartbeats 4000000
set_option maxRecDepth 100000
def rawN (ts : List Tax) (bills : List Bill) (p : Int) : Int := ((bills.filter fun b => b.place == p).map fun b => (allT ts b).2.1).sum
def rawE (ts : List Tax) (bills : List Bill) (p : Int) : Bool := (bills.filter fun b => b.place == p).any fun b => (allT ts b).2.2 != 0
theorem rawN_snoc (ts : List Tax) (bills : List Bill) (b : Bill) (p : Int) : rawN ts (bills ++ [b]) p = rawN ts bills p + if b.place = p then (allT ts b).2.1 else 0 := by
  unfold rawN
  rw [List.filter_append, List.map_append, List.sum_append]
  by_cases h : b.place = p
  · rw [if_pos h]; simp [h]
  · rw [if_neg h]; simp [h]
theorem rawE_snoc (ts : List Tax) (bills : List Bill) (b : Bill) (p : Int) : rawE ts (bills ++ [b]) p = (rawE ts bills p || (decide (b.place = p) && ((allT ts b).2.2 != 0))) := by
  unfold rawE
  rw [List.filter_append, List.any_append]
  congr 1
  by_cases h : b.place = p
  · simp [h]
  · simp [h]
theorem rawN_bd (ts : List Tax) (p : Int) (bills : List Bill) : 0 ≤ rawN ts bills p ∧ rawN ts bills p ≤ 1000000000 * (bills.length : Int) := by
  induction bills using rev_ind with
  | h0 => exact ⟨Int.le_refl _, Int.le_refl _⟩
  | h1 l x ih =>
    have := allT_nn ts x
    rw [rawN_snoc, List.length_append]
    simp only [List.length_singleton]
    split <;> omega
theorem raw_place (ts : List Tax) (p : Int) (bills : List Bill) : (rawE ts bills p = false → rawN ts bills p = placeN ts bills p) ∧ (rawE ts bills p = true → 1000000000 < placeN ts bills p) := by
  induction bills using rev_ind with
  | h0 => exact ⟨fun _ => rfl, fun h => by cases h⟩
  | h1 l x ih =>
    obtain ⟨i1, i2⟩ := ih
    have h1 := allT_nn ts x
    have h2 := taxN_nn ts x
    have h3 := placeN_nn ts p l
    rw [rawE_snoc, rawN_snoc, placeN_snoc]
    by_cases hp : x.place = p
    · rw [if_pos hp, if_pos hp, decide_eq_true hp, Bool.true_and]
      unfold taxN at h2 ⊢
      by_cases he : (allT ts x).2.2 = 0
      · rw [if_pos he] at h2 ⊢
        have : ((allT ts x).2.2 != 0) = false := by simp [he]
        rw [this, Bool.or_false]
        exact ⟨fun h => by rw [i1 h], fun h => by have := i2 h; omega⟩
      · rw [if_neg he] at h2 ⊢
        have : ((allT ts x).2.2 != 0) = true := by simp [he]
        rw [this, Bool.or_true]
        exact ⟨fun h => (by cases h), fun _ => by omega⟩
    · rw [if_neg hp, if_neg hp, decide_eq_false hp, Bool.false_and, Bool.or_false]
      exact ⟨fun h => by rw [i1 h], fun h => by have := i2 h; omega⟩
theorem place_drop1 {ts : List Tax} {bills : List Bill} {p : Int} (h0 : bills.length ≤ 30) (h1 : billsOk bills = true) (h2 : taxesOk ts = true) (h3 : inB p 1 99 = true) {k : Nat} (hk : k < bills.length) (hne : bills[k].place ≠ p) : placeR ts (bills.take k ++ bills.drop (k + 1)) p = placeR ts bills p := by
  have hc : checkR ts bills = 0 := checkR_zero.2 ⟨by omega, h1, h2⟩
  obtain ⟨g1, g2⟩ := billsOk_iff.1 h1
  have hc' : checkR ts (drop1 bills k) = 0 := checkR_zero.2 ⟨Nat.le_trans (drop1_len bills k) (by omega), billsOk_iff.2 ⟨fun b hb => g1 b ((drop1_sub bills k).subset hb), g2.sublist ((drop1_sub bills k).map _)⟩, h2⟩
  have hn := placeN_drop1 ts hk p
  rw [if_neg hne, Int.add_zero] at hn
  show placeR ts (drop1 bills k) p = _
  unfold placeR
  rw [hc, hc', hn]
theorem law_places (bills : List Bill) (A : Option Addr) (c : Nat) (ts : List Tax) (At : Option Addr) (ct : Nat) (p u : Int) (w : World) (hs : SlBill w A bills) (hl0 : bills.length ≤ maxLen) (room : bills.length ≤ c ∧ (A = none → c = 0)) (hts : SlTax w At ts) (htl0 : ts.length ≤ maxLen) (p0 : -9223372036854775808 ≤ p) (p1 : p ≤ 9223372036854775807) (u0 : 0 ≤ u) (u1 : u ≤ 255) :
    Calls Tryz.prog 3 #[.slice A bills.length c, .slice At ts.length ct, .int .i64 p, .int .u8 u] w fun e w' => e = .returned (.bool true) ∧ Below w.heap.size w w' := by
  cases hf : few33 bills.length ts.length 0
  · go_enter Tryz.func3, Tryz.ntmps3
    go_wp2_with fail
    refine (head33_any _).mono ?_
    rintro e w1 ⟨rfl, b1⟩
    go_wp2_with fail
    refine (few33_any _ _ _ _ _ _ _ _ _ _).mono ?_
    rintro e w2 ⟨rfl, rfl⟩
    rw [hf]
    go_wp2_with fail
    go_ret
    exact ⟨ret_bool (by simp), b1⟩
  obtain ⟨f1, f2⟩ : bills.length ≤ 30 ∧ ts.length ≤ 60 := by
    unfold few33 at hf
    simp only [Bool.and_eq_true, decide_eq_true_eq] at hf
    omega
  clear hl0 htl0
  cases hb : billsOk bills
  · go_enter Tryz.func3, Tryz.ntmps3
    go_wp2_with fail
    refine (head33_any _).mono ?_
    rintro e w1 ⟨rfl, b1⟩
    go_wp2_with fail
    refine (few33_any _ _ _ _ _ _ _ _ _ _).mono ?_
    rintro e w2 ⟨rfl, rfl⟩
    rw [hf]
    go_wp2_with fail
    refine (rBills_any bills A c w1 (hs.up b1) (by omega)).mono ?_
    rintro e w2 ⟨rfl, b2⟩
    rw [hb]
    have B2 := below_up b1 b1.size b2
    go_wp2_with fail
    go_ret
    exact ⟨ret_bool (by simp), B2⟩
  cases ht : taxesOk ts
  · go_enter Tryz.func3, Tryz.ntmps3
    go_wp2_with fail
    refine (head33_any _).mono ?_
    rintro e w1 ⟨rfl, b1⟩
    go_wp2_with fail
    refine (few33_any _ _ _ _ _ _ _ _ _ _).mono ?_
    rintro e w2 ⟨rfl, rfl⟩
    rw [hf]
    go_wp2_with fail
    refine (rBills_any bills A c w1 (hs.up b1) (by omega)).mono ?_
    rintro e w2 ⟨rfl, b2⟩
    rw [hb]
    have B2 := below_up b1 b1.size b2
    go_wp2_with fail
    refine (rtvalid_any ts At ct w2 (hts.up B2) (by omega)).mono ?_
    rintro e w3 ⟨rfl, b3⟩
    rw [ht]
    have B3 := below_up B2 B2.size b3
    go_wp2_with fail
    go_ret
    exact ⟨ret_bool (by simp), B3⟩
  cases hp : inB p 1 99
  · have hpp : p < 1 ∨ (1 ≤ p ∧ 99 < p) := by
      have := mt inB_iff.2 (by rw [hp]; simp)
      omega
    rcases hpp with hpp | ⟨hpp, hpq⟩
    all_goals
      go_enter Tryz.func3, Tryz.ntmps3
      go_wp2_with fail
      refine (head33_any _).mono ?_
      rintro e w1 ⟨rfl, b1⟩
      go_wp2_with fail
      refine (few33_any _ _ _ _ _ _ _ _ _ _).mono ?_
      rintro e w2 ⟨rfl, rfl⟩
      rw [hf]
      go_wp2_with fail
      refine (rBills_any bills A c w1 (hs.up b1) (by omega)).mono ?_
      rintro e w2 ⟨rfl, b2⟩
      rw [hb]
      have B2 := below_up b1 b1.size b2
      go_wp2_with fail
      refine (rtvalid_any ts At ct w2 (hts.up B2) (by omega)).mono ?_
      rintro e w3 ⟨rfl, b3⟩
      rw [ht]
      have B3 := below_up B2 B2.size b3
      go_wp2_with fail
      go_ret
      exact ⟨ret_bool (by simp), B3⟩
  obtain ⟨g0, g1⟩ := inB_iff.1 hp
  have HS := Lib.hid (And.intro hb ht)
  have HBK := Lib.hid (billsOk_iff.1 hb).1
  have HRAW := Lib.hid (raw_place ts p bills)
  have HBD := Lib.hid (rawN_bd ts p bills)
  have HPR : Hid (placeR ts bills p = if 1000000000 < placeN ts bills p then (0, 3) else (placeN ts bills p, 0)) := Lib.hid (by unfold placeR; rw [if_neg (by simp [checkR_zero.2 ⟨show bills.length ≤ 3000 by omega, hb, ht⟩]), hp, if_neg (by simp)])
  go_enter Tryz.func3, Tryz.ntmps3
  go_wp2_with fail
  refine (head33_any _).mono ?_
  rintro e w1 ⟨rfl, b1⟩
  go_wp2_with fail
  refine (few33_any _ _ _ _ _ _ _ _ _ _).mono ?_
  rintro e w2 ⟨rfl, rfl⟩
  rw [hf]
  go_wp2_with fail
  refine (rBills_any bills A c w1 (hs.up b1) (by omega)).mono ?_
  rintro e w2 ⟨rfl, b2⟩
  rw [hb]
  have B2 := below_up b1 b1.size b2
  go_wp2_with fail
  refine (rtvalid_any ts At ct w2 (hts.up B2) (by omega)).mono ?_
  rintro e w3 ⟨rfl, b3⟩
  rw [ht]
  have B3 := below_up B2 B2.size b3
  go_wp2_with fail
  go_loopw [10, 11, 49] (fun sm wg i wr => ∃ m : Nat, m ≤ bills.length ∧ i = .int .i64 m ∧ sm = .int .i64 (rawN ts (bills.take m) p) ∧ wg = .bool (rawE ts (bills.take m) p) ∧ Below w3.heap.size w3 wr) (fun _ _ i _ => bills.length - (intOf i).toNat)
  case atStart => exact ⟨0, by omega, rfl, rfl, rfl, Below.refl _ _⟩
  case round =>
    obtain ⟨m, hm, rfl, rfl, rfl, hbw⟩ := hrel
    have hbz := hbw.size
    by_cases hlt : m < bills.length
    · have hx1 : (0 : Int) ≤ (m : Int) := by omega
      have hx2 : (m : Int) < (bills.length : Int) := by omega
      have hBw := below_up B3 B3.size hbw
      obtain ⟨bb, off, rfl, hbl, hcell⟩ := (hs.up hBw).at_ hlt
      have q0 := hcell 0 _ rfl
      have q1 := hcell 1 _ rfl
      have q2 := hcell 2 _ rfl
      have q3 := hcell 3 _ rfl
      have q4 := hcell 4 _ rfl
      have q5 := hcell 5 _ rfl
      have q6 := hcell 6 _ rfl
      have q7 := hcell 7 _ rfl
      have q8 := hcell 8 _ rfl
      rw [Nat.add_zero] at q0
      clear hcell
      have hst : bills.take (m + 1) = bills.take m ++ [bills[m]] := List.take_succ_eq_append_getElem hlt
      have h1 := rawN_snoc ts (bills.take m) bills[m] p
      have h2 := rawE_snoc ts (bills.take m) bills[m] p
      rw [← hst] at h1 h2
      have hbd := rawN_bd ts p (bills.take m)
      rw [List.length_take] at hbd
      have hbd1 : 0 ≤ rawN ts (bills.take m) p := hbd.1
      have hbd2 : rawN ts (bills.take m) p ≤ 30000000000 := by have := hbd.2; omega
      have hnn := allT_nn ts bills[m]
      obtain ⟨r, n, er, hall⟩ : ∃ r n er, allT ts bills[m] = (r, n, er) := ⟨_, _, _, rfl⟩
      rw [hall] at h1 h2 hnn
      simp only at h1 h2 hnn
      have H1 := Lib.hid h1
      have H2 := Lib.hid h2
      have HALL := Lib.hid hall
      clear hst h1 h2 hall hbd
      generalize rawN ts (bills.take m) p = sm at *
      cases hE : rawE ts (bills.take m) p
      all_goals
        by_cases hpl : bills[m].place = p
        · have hplb : (bills[m].place != p) = false := by rw [bne_eq_false_iff_eq]; exact hpl
          have HPL := Lib.hid hpl
          clear hpl
          go_wp2_with fail
          refine name_calls (fun w4 hw4 => ?_)
          have b4 : Below wr.heap.size wr w4 := by rw [hw4]; exact (by repeat' (first | (with_reducible exact Below.refl _ _) | (with_reducible assumption) | (with_reducible refine below_drewN ?_ _) | (with_reducible refine Below.drew ?_) | (with_reducible refine below_regrown_up _ _ ?_ ?_) | (with_reducible refine Below.alloc ?_ ?_ _) | (with_reducible refine Below.setCell ?_ ?_ _) | (with_reducible refine below_up ?_ ?_ (by assumption)) | (with_reducible exact Nat.le_refl _) | omega | (simp; done) | (simp; omega)))
          clear hw4 q0 q1 q2 q3 q4 q5 q6 q7 q8
          clear hplb
          refine (tall_lit HALL.out At ct w4 (hts.up (below_up hBw hBw.size b4)) (by omega)).mono ?_
          rintro e w5 ⟨⟨A5, c5, rfl⟩, b5⟩
          have bw5 := below_up b4 b4.size b5
          by_cases he : er = 0
          · subst he
            go_wp2_with fail
            go_roundw
            case rel => exact ⟨m + 1, by omega, by go_num, by rw [H1.out, if_pos HPL.out], by rw [H2.out, hE, decide_eq_true HPL.out]; rfl, below_up hbw hbz bw5⟩
            case measure => simp [intOf]; omega
          · have heb : (er != 0) = true := by simpa using he
            have HEB := Lib.hid heb
            clear he
            go_wp2_with fail
            go_roundw
            case rel => exact ⟨m + 1, by omega, by go_num, by rw [H1.out, if_pos HPL.out], by rw [H2.out, hE, decide_eq_true HPL.out, HEB.out]; rfl, below_up hbw hbz bw5⟩
            case measure => simp [intOf]; omega
        · have hplb : (bills[m].place != p) = true := by simpa using hpl
          have HPL := Lib.hid hpl
          clear hpl
          go_wp2_with fail
          go_roundw
          case rel => exact ⟨m + 1, by omega, by go_num, by rw [H1.out, if_neg HPL.out, Int.add_zero], by rw [H2.out, hE, decide_eq_false HPL.out]; rfl, (by repeat' (first | (with_reducible exact Below.refl _ _) | (with_reducible assumption) | (with_reducible refine below_drewN ?_ _) | (with_reducible refine Below.drew ?_) | (with_reducible refine below_regrown_up _ _ ?_ ?_) | (with_reducible refine Below.alloc ?_ ?_ _) | (with_reducible refine Below.setCell ?_ ?_ _) | (with_reducible refine below_up ?_ ?_ (by assumption)) | (with_reducible exact Nat.le_refl _) | omega | (simp; done) | (simp; omega)))⟩
          case measure => simp [intOf]; omega
    · obtain rfl : m = bills.length := by omega
      rw [List.take_of_length_le (Nat.le_refl _)]
      have hBw := below_up B3 B3.size hbw
      have hbd := HBD.out
      have hnn := placeN_nn ts p bills
      cases hE : rawE ts bills p
      rotate_left
      · have hr : placeR ts bills p = (0, 3) := by rw [HPR.out, if_pos (HRAW.out.2 hE)]
        have HR := Lib.hid hr
        clear hr hbd hnn
        go_wp2_with fail
        refine (rplace_any ts bills At A ct c p wr (hts.up hBw) (hs.up hBw) (by unfold maxLen; omega) (by omega)).mono ?_
        rintro e w4 ⟨rfl, b4⟩
        rw [HR.out]
        go_wp2_with fail
        go_ret
        exact ⟨ret_bool (by simp), (below_up hBw hBw.size b4)⟩
      · have hsm := HRAW.out.1 hE
        rw [hsm] at hbd ⊢
        by_cases hbig : 1000000000 < placeN ts bills p
        · have hr : placeR ts bills p = (0, 3) := by rw [HPR.out, if_pos hbig]
          have HR := Lib.hid hr
          clear hr hsm
          go_wp2_with fail
          refine (rplace_any ts bills At A ct c p wr (hts.up hBw) (hs.up hBw) (by unfold maxLen; omega) (by omega)).mono ?_
          rintro e w4 ⟨rfl, b4⟩
          rw [HR.out]
          go_wp2_with fail
          go_ret
          exact ⟨ret_bool (by simp), (below_up hBw hBw.size b4)⟩
        · have hr : placeR ts bills p = (placeN ts bills p, 0) := by rw [HPR.out, if_neg hbig]
          have HR := Lib.hid hr
          clear hr hsm
          generalize placeN ts bills p = N at *
          go_wp2_with fail
          refine (rplace_any ts bills At A ct c p wr (hts.up hBw) (hs.up hBw) (by unfold maxLen; omega) (by omega)).mono ?_
          rintro e w4 ⟨rfl, b4⟩
          rw [HR.out]
          have B4 := below_up hBw hBw.size b4
          by_cases hn : bills.length = 0
          · have hn1 : ((bills.length : Int) == 0) = true := by rw [beq_iff_eq]; omega
            go_wp2_with fail
            go_ret
            exact ⟨ret_bool (by simp), B4⟩
          · have hn1 : ((bills.length : Int) == 0) = false := by rw [beq_eq_false_iff_ne]; omega
            have hn2 : bills.length ≠ 0 := hn
            have hk0 : 0 ≤ u % (bills.length : Int) := Int.emod_nonneg _ (by omega)
            have hk1 : u % (bills.length : Int) < (bills.length : Int) := Int.emod_lt_of_pos _ (by omega)
            obtain ⟨k, hkk⟩ : ∃ k : Nat, u % (bills.length : Int) = k := ⟨(u % (bills.length : Int)).toNat, by omega⟩
            rw [hkk] at hk0 hk1
            have hk : k < bills.length := by omega
            have hs0 := hs
            obtain ⟨bb, off, hA, hbl, hcell⟩ := (hs.up B4).at_ hk
            subst hA
            have q2 := hcell 2 _ rfl
            clear hcell
            by_cases hd : bills[k].place = p
            · have hdb : (bills[k].place == p) = true := by simpa using hd
              clear hd
              go_wp2_with fail
              go_ret
              exact ⟨ret_bool (by simp), B4⟩
            · have hdb : (bills[k].place == p) = false := by simpa using hd
              have hr2 := place_drop1 f1 HS.out.1 HS.out.2 hp hk hd
              rw [HR.out] at hr2
              have HR2 := Lib.hid hr2
              have HLL := Lib.hid (show (bills.take k ++ bills.drop (k + 1)).length ≤ bills.length from drop1_len bills k)
              clear hd hr2
              have hM1 : (bills.take k).length = k := by rw [List.length_take]; omega
              have hM2 : (bills.drop (k + 1)).length = bills.length - (k + 1) := List.length_drop
              have HM1 := Lib.hid hM1
              have HM2 := Lib.hid hM2
              clear hM1 hM2
              have hroom := room.1
              have hp1 : (k : Int) + 1 ≤ (bills.length : Int) := by omega
              have hp2 : k + 1 ≤ bills.length := by omega
              have hp3 : k + 1 ≤ c := by omega
              have hp4 : k ≤ c := by omega
              have hp5 : (0 : Int) ≤ (k : Int) + 1 := by omega
              have hp6 : ((k : Int) + 1).toNat = k + 1 := by omega
              have hwr : IntKind.i64.wrap ((k : Int) + 1) = (k : Int) + 1 := by rw [IntKind.wrap_i64]; omega
              have hs6 : SlBill w4 (some ⟨bb, off, none⟩) bills := hs0.up B4
              obtain ⟨A', hA', hsl'⟩ := hs6.cut (k + 1) hroom
              have hnil : OwnL (w4.drew.alloc (.cells #[] 31)) w4.heap.size 31 9 Bill.cs (.slice (some ⟨w4.heap.size, 0, none⟩) 0 0) [] := OwnL.of_block (cs := #[]) (g := w4.heap.size) (cap := 0) (heap_alloc_new w4.drew _) (Nat.le_refl _) rfl (by decide) rfl bill_len
              go_wp2_with fail
              go_region_law (first
                | (go_loud (refine step_append_all _ (by rfl) (.tmp 121) (.tmp 124) 22 31 (by rfl) w4.heap.size 9 72 Bill.cs elemBill bill_len bill_one _ [] (by rfl) hnil (some ⟨bb, off, none⟩) _ _ (bills.take k) (by rw [HM1.out]; rfl) ((hs6.take k).below ((Below.refl _ _).drew.alloc (by simp) _)) (by rw [HM1.out]; simp; omega) (by first | omega | (simp; done) | (simp; omega)) (by first | omega | (simp; done) | (simp; omega)) ?_); intro v8 w8 hown8 hgrow8 hat8; rw [List.nil_append] at hown8; have hb8 : Below w4.heap.size w4 w8 := below_push ((Below.refl _ _).drew.alloc (by simp) _) hnil hgrow8 (by simp); have hz8 := hb8.size)
                | (go_loud (refine step_append_all _ (by rfl) (.tmp 125) (.tmp 129) 22 31 (by rfl) w4.heap.size 9 72 Bill.cs elemBill bill_len bill_one _ (bills.take k) (by rfl) hown8 A' _ _ (bills.drop (k + 1)) (by rw [HM2.out]; rfl) (hsl'.below hb8) (by rw [HM1.out, HM2.out]; omega) (by omega) hz8 ?_); intro v9 w9 hown9 hgrow9 hat9))
              all_goals
                have hb9 := below_push hb8 hown8 hgrow9 hz8
                have B9 := below_up B4 B4.size hb9
                obtain ⟨A9, c9, rfl, _, _, hs9'⟩ := hown9.sl bill_len
                have hs9 : SlBill w9 A9 (bills.take k ++ bills.drop (k + 1)) := hs9'.more (by omega)
                have hl9 := HLL.out
                clear hs9' hown9 hown8 hA' hsl' hnil hs6 hgrow8 hgrow9 hat8 hat9
                generalize bills.take k ++ bills.drop (k + 1) = L9 at *
                go_wp2_with fail
                refine (rplace_any ts L9 At A9 ct c9 p w9 (hts.up B9) hs9 (by unfold maxLen; omega) (by omega)).mono ?_
                rintro e w10 ⟨rfl, b10⟩
                rw [HR2.out]
                go_wp2_with fail
                go_ret
                exact ⟨ret_bool (by simp), (below_up B9 B9.size b10)⟩
end Go.Proofs.YtmlhoojcdidgkaaGreat
