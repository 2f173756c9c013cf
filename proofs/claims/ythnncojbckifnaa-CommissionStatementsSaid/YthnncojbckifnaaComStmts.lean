/-
  The law 'CommissionStatements': the walk.
-/
import Derived.Test.YthnncojbckifnaaComUse
namespace Go.Proofs.Ythnncojbckifnaa
set_option linter.unusedSimpArgs false
set_option linter.unusedVariables false
open Go.RowKit
open Go.Sort (grow size_grow)

set_option maxHeartbeats 4000000
set_option maxRecDepth 100000
theorem less_of {l : List Bill} {ch : Int} {k : Nat} (hk : k < l.length) (h : l[k].channel ≠ ch) : ofCh (l.take k ++ l.drop (k + 1)) ch = ofCh l ch := by
  have e : l = l.take k ++ l[k] :: l.drop (k + 1) := by
    have h1 := List.take_append_drop k l
    rw [List.drop_eq_getElem_cons hk] at h1
    exact h1.symm
  have h2 : ofCh l ch = ofCh (l.take k ++ l[k] :: l.drop (k + 1)) ch := congrArg (ofCh · ch) e
  rw [h2]
  unfold ofCh
  rw [List.filter_append, List.filter_append, List.filter_cons, if_neg (by simpa using h)]
theorem less_ok {l : List Bill} {k : Nat} (h : billsOk l = true) : billsOk (l.take k ++ l.drop (k + 1)) = true := by
  obtain ⟨h1, h2⟩ := billsOk_iff.1 h
  have hs : (l.take k ++ l.drop (k + 1)).Sublist l := by
    have h3 : (l.drop (k + 1)).Sublist (l.drop k) := by
      rw [← List.drop_drop]
      exact List.drop_sublist _ _
    have h4 := (List.Sublist.refl (l.take k)).append h3
    rwa [List.take_append_drop] at h4
  exact billsOk_iff.2 ⟨fun b hb => h1 b (hs.subset hb), h2.sublist (hs.map _)⟩
theorem cstmts_no (p d : Int) (l : List Bill) (A : Option Addr) (c : Nat) (ch u : Int) (w : World) (hs : SlBill w A l) (hl0 : l.length ≤ maxLen) (hu : use30 p d l ch = false) :
    Calls Try.prog 9 #[.agg #[.int .i64 p, .int .i64 d], .slice A l.length c, .int .i64 ch, .int .u8 u] w fun e w' => e = .returned (.bool true) ∧ Below w.heap.size w w' := by
  go_enter Try.func9, Try.ntmps9
  go_wp2_with (first | (go_at_call 23; refine (head30_any _).mono ?_; rintro e w1 ⟨rfl, hb1⟩; have hz1 := hb1.size; (try simp only [World.size_alloc, World.size_setCell, World.size_drew, size_drewN', size_grow, size_redrawn] at hz1); obtain ⟨hc1, hf1⟩ := bcellB (B := w.heap.size + 1) hb1 (by first | omega | (simp only [World.size_alloc, World.size_setCell, World.size_drew, size_drewN', size_grow, size_redrawn]; omega))) | (go_at_call 32; refine (usable30_any p d l A c ch _ (hs.up (by repeat' (first | (with_reducible exact Below.refl _ _) | (with_reducible assumption) | (with_reducible refine below_drewN ?_ _) | (with_reducible refine Below.drew ?_) | (with_reducible refine below_regrown_up _ _ ?_ ?_) | (with_reducible refine Below.alloc ?_ ?_ _) | (with_reducible refine Below.setCell ?_ ?_ _) | (with_reducible refine below_up ?_ ?_ (by assumption)) | (with_reducible exact Nat.le_refl _) | omega | (simp; done) | (simp; omega)))) hl0).mono ?_; rintro e w2 ⟨rfl, hb2⟩; have hz2 := hb2.size; (try simp only [World.size_alloc, World.size_setCell, World.size_drew, size_drewN', size_grow, size_redrawn] at hz2); obtain ⟨hc2, hf2⟩ := bcellB (B := w.heap.size + 1) hb2 (by first | omega | (simp only [World.size_alloc, World.size_setCell, World.size_drew, size_drewN', size_grow, size_redrawn]; omega)); rw [hu]))
  go_ret
  refine ⟨ret_bool (by simp), ?_⟩
  repeat' (first
    | (with_reducible exact Below.refl _ _)
    | (with_reducible assumption)
    | (with_reducible refine below_drewN ?_ _)
    | (with_reducible refine Below.drew ?_)
    | (with_reducible refine below_regrown_up _ _ ?_ ?_)
    | (with_reducible refine Below.alloc ?_ ?_ _)
    | (with_reducible refine Below.setCell ?_ ?_ _)
    | (with_reducible refine below_up ?_ ?_ (by assumption))
    | (with_reducible exact Nat.le_refl _)
    | omega
    | (simp; done)
    | (simp; omega))
theorem cstmts_yes (p d : Int) (l : List Bill) (A : Option Addr) (c : Nat) (ch u : Int) (w : World) (hs : SlBill w A l) (hl0 : l.length ≤ maxLen) (hu : use30 p d l ch = true) (u0 : 0 ≤ u) (u1 : u ≤ 255) (hroom : l.length ≤ c) (hnone : A = none → c = 0)
    (r : List Int) (s er : Int) (hr : stmtR p d l ch = (r, s, er)) :
    Calls Try.prog 9 #[.agg #[.int .i64 p, .int .i64 d], .slice A l.length c, .int .i64 ch, .int .u8 u] w fun e w' => e = .returned (.bool true) ∧ Below w.heap.size w w' := by
  obtain ⟨h1, h0, h2, h3⟩ := use30_iff.1 hu
  obtain ⟨g0, g1⟩ := inB_iff.1 h3
  have HS := Lib.hid hr
  have HOK := Lib.hid (billsOk_iff.1 h2).1
  go_enter Try.func9, Try.ntmps9
  go_wp2_with (first | (go_at_call 23; refine (head30_any _).mono ?_; rintro e w1 ⟨rfl, hb1⟩; have hz1 := hb1.size; (try simp only [World.size_alloc, World.size_setCell, World.size_drew, size_drewN', size_grow, size_redrawn] at hz1); obtain ⟨hc1, hf1⟩ := bcellB (B := w.heap.size + 1) hb1 (by first | omega | (simp only [World.size_alloc, World.size_setCell, World.size_drew, size_drewN', size_grow, size_redrawn]; omega))) | (go_at_call 32; refine (usable30_any p d l A c ch _ (hs.up (by repeat' (first | (with_reducible exact Below.refl _ _) | (with_reducible assumption) | (with_reducible refine below_drewN ?_ _) | (with_reducible refine Below.drew ?_) | (with_reducible refine below_regrown_up _ _ ?_ ?_) | (with_reducible refine Below.alloc ?_ ?_ _) | (with_reducible refine Below.setCell ?_ ?_ _) | (with_reducible refine below_up ?_ ?_ (by assumption)) | (with_reducible exact Nat.le_refl _) | omega | (simp; done) | (simp; omega)))) hl0).mono ?_; rintro e w2 ⟨rfl, hb2⟩; have hz2 := hb2.size; (try simp only [World.size_alloc, World.size_setCell, World.size_drew, size_drewN', size_grow, size_redrawn] at hz2); obtain ⟨hc2, hf2⟩ := bcellB (B := w.heap.size + 1) hb2 (by first | omega | (simp only [World.size_alloc, World.size_setCell, World.size_drew, size_drewN', size_grow, size_redrawn]; omega)); rw [hu]))
  have hB1 : Below w.heap.size w w1 := (by repeat' (first | (with_reducible exact Below.refl _ _) | (with_reducible assumption) | (with_reducible refine below_drewN ?_ _) | (with_reducible refine Below.drew ?_) | (with_reducible refine below_regrown_up _ _ ?_ ?_) | (with_reducible refine Below.alloc ?_ ?_ _) | (with_reducible refine Below.setCell ?_ ?_ _) | (with_reducible refine below_up ?_ ?_ (by assumption)) | (with_reducible exact Nat.le_refl _) | omega | (simp; done) | (simp; omega)))
  have hB2 := below_up hB1 (by omega) hb2
  refine (cstmt_lit HS.out A c _ (hs.up hB2) hl0).mono ?_
  rintro e w3 ⟨⟨A3, c3, rfl, hs3⟩, hb3⟩
  have hz3 := hb3.size
  obtain ⟨hc3, hf3⟩ := bcellB (B := w.heap.size + 1) hb3 (by omega)
  have hB3 := below_up hB2 (by omega) hb3
  have x0 : w3.cell? ⟨w.heap.size, 0, none⟩ = some (.int .i64 p) := by go_simp
  have x1 : w3.cell? ⟨w.heap.size, 1, none⟩ = some (.int .i64 d) := by go_simp
  go_wp2_with fail
  go_loopw [13, 14, 41] (fun ov tv i wr => ∃ m : Nat, m ≤ l.length ∧ i = .int .i64 m ∧ tv = .int .i64 (comms p d (ofCh (l.take m) ch)).sum ∧ OwnL wr w3.heap.size 3 1 intC ov (comms p d (ofCh (l.take m) ch)) ∧ Below w3.heap.size w3 wr) (fun _ _ i _ => l.length - (intOf i).toNat)
  case atStart => exact ⟨0, by omega, rfl, rfl, OwnL.nil_, Below.refl _ _⟩
  case round =>
    obtain ⟨m, hm, rfl, rfl, hown, hbw⟩ := hrel
    have hbz := hbw.size
    obtain ⟨hcw, hfw⟩ := bcellB (B := w.heap.size + 1) hbw (by omega)
    have hB := below_up hB3 (by omega) hbw
    have hbd := comms_bd h1 (l := ofCh (l.take m) ch) (fun b hb => HOK.out b (List.mem_of_mem_take (List.mem_filter.1 hb).1))
    have hlo := ofCh_len (l.take m) ch
    rw [List.length_take] at hlo
    obtain ⟨b0, b1⟩ := hbd
    by_cases hlt : m < l.length
    · have hx1 : (0 : Int) ≤ (m : Int) := by omega
      have hx2 : (m : Int) < (l.length : Int) := by omega
      obtain ⟨b, off, rfl, hbl, hcell⟩ := (hs.up hB).at_ hlt
      have q0 := hcell 0 _ rfl
      have q1 := hcell 1 _ rfl
      have q2 := hcell 2 _ rfl
      have q3 := hcell 3 _ rfl
      have q4 := hcell 4 _ rfl
      have q5 := hcell 5 _ rfl
      have q6 := hcell 6 _ rfl
      have q7 := hcell 7 _ rfl
      have q8 := hcell 8 _ rfl
      rw [Nat.add_zero] at q0
      clear hcell
      have hxo := HOK.out _ (List.getElem_mem hlt)
      have HONE := Lib.hid (oneR_ok h1 hxo)
      obtain ⟨n0, n1⟩ := (Bill.ok_iff.1 hxo).2.2.2.2.2.2.1
      obtain ⟨k0, k1⟩ := comm_bd h1 n0
      have hst := ofCh_step (ch := ch) hlt
      have lt1 : w.heap.size < wr.heap.size := by omega
      have z0 : wr.cell? ⟨w.heap.size, 0, none⟩ = some (.int .i64 p) := by rw [hcw _ _ (by omega)]; exact x0
      have z1 : wr.cell? ⟨w.heap.size, 1, none⟩ = some (.int .i64 d) := by rw [hcw _ _ (by omega)]; exact x1
      have hln : (comms p d (ofCh (l.take m) ch)).length ≤ 60 := by unfold comms; rw [List.length_map]; omega
      by_cases hd : l[m].channel = ch
      · have hrb : (l[m].channel == ch) = true := by simpa using hd
        rw [if_pos hd] at hst
        have hst2 : comms p d (ofCh (l.take (m + 1)) ch) = comms p d (ofCh (l.take m) ch) ++ [comm p d l[m].price] := by rw [hst, comms_snoc]
        have HST := Lib.hid hst2
        clear hst hst2 hd hxo
        generalize comms p d (ofCh (l.take m) ch) = out at *
        generalize comm p d l[m].price = k at *
        have hws : IntKind.i64.wrap (out.sum + k) = out.sum + k := IntWalk.i64_in _ (by omega)
        go_wp2_with fail
        refine (cone_any HONE.out _).mono ?_
        rintro e w4 ⟨rfl, hb4⟩; have hz4 := hb4.size; (try simp only [World.size_alloc, World.size_setCell, World.size_drew, size_drewN', size_grow, size_redrawn] at hz4); obtain ⟨hc4, hf4⟩ := bcellB (B := w.heap.size + 1) hb4 (by first | omega | (simp only [World.size_alloc, World.size_setCell, World.size_drew, size_drewN', size_grow, size_redrawn]; omega))
        have hb4' : Below wr.heap.size wr w4 := below_up ((Below.refl _ _).alloc (Nat.le_refl _) _) (by simp) hb4
        go_wp2_with (at_builtin; go_loud (refine wpList_push _ rfl (.tmp 57) (.tmp 59) 45 3 rfl w3.heap.size 1 8 intC elemInt int_len int_one _ out rfl ((hown.below hb4').alloc _) _ 1 k rfl (news_at _ _ _ rfl (by simp)) (by first | omega | (simp; done) | (simp; omega)) (by first | omega | (simp; done) | (simp; omega)) (by first | omega | (simp; done) | (simp; omega)) ?_); intro v5 w5 hown5 hgrow5)
        have hb5 : Below w3.heap.size w3 w5 := below_push (w := w4.alloc (.cells #[.int .i64 k] 3)) (by repeat' (first | (with_reducible exact Below.refl _ _) | (with_reducible assumption) | (with_reducible refine below_drewN ?_ _) | (with_reducible refine Below.drew ?_) | (with_reducible refine below_regrown_up _ _ ?_ ?_) | (with_reducible refine Below.alloc ?_ ?_ _) | (with_reducible refine Below.setCell ?_ ?_ _) | (with_reducible refine below_up ?_ ?_ (by assumption)) | (with_reducible exact Nat.le_refl _) | omega | (simp; done) | (simp; omega))) ((hown.below hb4').alloc _) hgrow5 (by first | omega | (simp; done) | (simp; omega))
        go_roundw
        case rel =>
          refine ⟨m + 1, by omega, by go_num, ?_, ?_, hb5⟩
          · rw [HST.out, List.sum_append]; simp
          · rw [HST.out]; exact hown5
        case measure => simp [intOf]; omega
      · have hrb : (l[m].channel == ch) = false := by simpa using hd
        rw [if_neg hd] at hst
        have HST := Lib.hid hst
        clear hst hd
        go_wp2_with fail
        go_roundw
        case rel =>
          refine ⟨m + 1, by omega, by go_num, ?_, ?_, (by repeat' (first | (with_reducible exact Below.refl _ _) | (with_reducible assumption) | (with_reducible refine below_drewN ?_ _) | (with_reducible refine Below.drew ?_) | (with_reducible refine below_regrown_up _ _ ?_ ?_) | (with_reducible refine Below.alloc ?_ ?_ _) | (with_reducible refine Below.setCell ?_ ?_ _) | (with_reducible refine below_up ?_ ?_ (by assumption)) | (with_reducible exact Nat.le_refl _) | omega | (simp; done) | (simp; omega)))⟩
          · rw [HST.out]
          · rw [HST.out]; exact hown.alloc _
        case measure => simp [intOf]; omega
    · obtain rfl : m = l.length := by omega
      rw [List.take_of_length_le (Nat.le_refl _)] at *
      obtain ⟨A6, c6, rfl, _, _, hs6⟩ := hown.sl int_len
      have hs36 := hs3.up hbw
      by_cases hfar : 1000000000 < (comms p d (ofCh l ch)).sum
      · have e1 := stmtR_far (by omega) h1 h2 h3 hfar
        rw [hr, Prod.mk.injEq, Prod.mk.injEq] at e1
        obtain ⟨rfl, rfl, rfl⟩ := e1
        clear hr
        go_wp2_with fail
        go_ret
        refine ⟨ret_bool (by simp), hB⟩
      · have e1 := stmtR_ok (by omega) h1 h2 h3 hfar
        rw [hr, Prod.mk.injEq, Prod.mk.injEq] at e1
        obtain ⟨rfl, rfl, rfl⟩ := e1
        clear hr
        generalize hR : comms p d (ofCh l ch) = R at *
        have hRl : R.length ≤ 60 := by
          have := ofCh_len l ch
          rw [← hR]
          unfold comms
          rw [List.length_map]
          omega
        have HRR := Lib.hid hR
        clear hR
        go_wp2_with fail
        refine (same30_any R R A3 A6 c3 c6 _ hs36 hs6 (by omega) (by omega)).mono ?_
        rintro e w7 ⟨rfl, hb7⟩; have hz7 := hb7.size; (try simp only [World.size_alloc, World.size_setCell, World.size_drew, size_drewN', size_grow, size_redrawn] at hz7); obtain ⟨hc7, hf7⟩ := bcellB (B := w.heap.size + 1) hb7 (by first | omega | (simp only [World.size_alloc, World.size_setCell, World.size_drew, size_drewN', size_grow, size_redrawn]; omega))
        rw [decide_eq_true rfl]
        have hB7 := below_up hB (by omega) hb7
        by_cases hn : 0 < l.length
        · have hn1 : ((l.length : Int) == 0) = false := by rw [beq_eq_false_iff_ne]; omega
          have hn2 : l.length ≠ 0 := by omega
          have hk0 : 0 ≤ u % (l.length : Int) := Int.emod_nonneg _ (by omega)
          have hk1 : u % (l.length : Int) < (l.length : Int) := Int.emod_lt_of_pos _ (by omega)
          obtain ⟨k, hkk⟩ : ∃ k : Nat, u % (l.length : Int) = k := ⟨(u % (l.length : Int)).toNat, by omega⟩
          rw [hkk] at hk0 hk1
          have hkl : k < l.length := by omega
          have hs0 := hs
          obtain ⟨b, off, hA, hbl, hcell⟩ := (hs.up hB7).at_ hkl
          subst hA
          have q1 := hcell 1 _ rfl
          clear hcell
          by_cases hd : l[k].channel = ch
          · have hdb : (l[k].channel == ch) = true := by simpa using hd
            clear hd
            go_wp2_with fail
            go_ret
            refine ⟨ret_bool (by simp), hB7⟩
          · have hdb : (l[k].channel == ch) = false := by simpa using hd
            have HD := Lib.hid hd
            clear hd
            have hM1 : (l.take k).length = k := by rw [List.length_take]; omega
            have hM2 : (l.drop (k + 1)).length = l.length - (k + 1) := List.length_drop
            have HM1 := Lib.hid hM1
            have HM2 := Lib.hid hM2
            clear hM1 hM2
            have hp1 : (k : Int) + 1 ≤ (l.length : Int) := by omega
            have hp2 : k + 1 ≤ l.length := by omega
            have hp3 : k + 1 ≤ c := by omega
            have hp4 : k ≤ c := by omega
            have hp5 : (0 : Int) ≤ (k : Int) + 1 := by omega
            have hp6 : ((k : Int) + 1).toNat = k + 1 := by omega
            have hwr : IntKind.i64.wrap ((k : Int) + 1) = (k : Int) + 1 := by rw [IntKind.wrap_i64]; omega
            have hs7 : SlBill w7 (some ⟨b, off, none⟩) l := hs0.up hB7
            obtain ⟨A', hA', hsl'⟩ := hs7.cut (k + 1) hroom
            have hnil : OwnL (w7.drew.alloc (.cells #[] 25)) w7.heap.size 25 9 Bill.cs (.slice (some ⟨w7.heap.size, 0, none⟩) 0 0) [] := OwnL.of_block (cs := #[]) (g := w7.heap.size) (cap := 0) (heap_alloc_new w7.drew _) (Nat.le_refl _) rfl (by decide) rfl bill_len
            go_wp2_with fail
            go_region_law (first
              | (go_loud (refine step_append_all _ (by rfl) (.tmp 109) (.tmp 112) 44 25 (by rfl) w7.heap.size 9 72 Bill.cs elemBill bill_len bill_one _ [] (by rfl) hnil (some ⟨b, off, none⟩) _ _ (l.take k) (by rw [HM1.out]; rfl) ((hs7.take k).below ((Below.refl _ _).drew.alloc (by simp) _)) (by rw [HM1.out]; simp; omega) (by first | omega | (simp; done) | (simp; omega)) (by first | omega | (simp; done) | (simp; omega)) ?_); intro v8 w8 hown8 hgrow8 hat8; rw [List.nil_append] at hown8; have hb8 : Below w7.heap.size w7 w8 := below_push ((Below.refl _ _).drew.alloc (by simp) _) hnil hgrow8 (by simp); have hz8 := hb8.size)
              | (go_loud (refine step_append_all _ (by rfl) (.tmp 113) (.tmp 117) 44 25 (by rfl) w7.heap.size 9 72 Bill.cs elemBill bill_len bill_one _ (l.take k) (by rfl) hown8 A' _ _ (l.drop (k + 1)) (by rw [HM2.out]; rfl) (hsl'.below hb8) (by rw [HM1.out, HM2.out]; omega) (by omega) hz8 ?_); intro v9 w9 hown9 hgrow9 hat9))
            all_goals
              have hb9 := below_push hb8 hown8 hgrow9 hz8
              have hz9 := hb9.size
              have hB9 := below_up hB7 hB7.size hb9
              obtain ⟨A9, c9, rfl, _, _, hs9⟩ := hown9.sl bill_len
              have hr9 : stmtR p d (l.take k ++ l.drop (k + 1)) ch = (R, R.sum, 0) := by
                have hle : (l.take k ++ l.drop (k + 1)).length ≤ 3000 := by rw [List.length_append, HM1.out, HM2.out]; omega
                have e2 : comms p d (ofCh (l.take k ++ l.drop (k + 1)) ch) = R := by rw [less_of hkl HD.out]; exact HRR.out
                have e3 := stmtR_ok hle h1 (less_ok (k := k) h2) h3 (by rw [e2]; omega)
                rw [e3, e2]
              have hl9 : (l.take k ++ l.drop (k + 1)).length ≤ maxLen := by rw [List.length_append, HM1.out, HM2.out]; unfold maxLen; omega
              have HR9 := Lib.hid hr9
              clear hr9
              clear hown9
              generalize l.take k ++ l.drop (k + 1) = L9 at *
              have hb39 : Below w3.heap.size w3 w9 := below_up hbw hbz (below_up hb7 hz7 hb9)
              have lt3 : w.heap.size < w3.heap.size := by omega
              have y0 := (hb39.cell (p := ⟨w.heap.size, 0, none⟩) lt3).trans x0
              have y1 := (hb39.cell (p := ⟨w.heap.size, 1, none⟩) lt3).trans x1
              have lt9 : w.heap.size < w9.heap.size := by omega
              go_wp2_with fail
              refine (cstmt_lit HR9.out A9 c9 _ hs9 hl9).mono ?_
              rintro e w10 ⟨⟨A10, c10, rfl, hs10⟩, hb10⟩
              have hz10 := hb10.size
              have hB10 := below_up hB9 (by omega) hb10
              have hb310 : Below w3.heap.size w3 w10 := below_up hb39 hb39.size hb10
              go_wp2_with fail
              refine (same30_any R R A3 A10 c3 c10 _ (hs3.up hb310) hs10 (by omega) (by omega)).mono ?_
              rintro e w11 ⟨rfl, hb11⟩; have hz11 := hb11.size; (try simp only [World.size_alloc, World.size_setCell, World.size_drew, size_drewN', size_grow, size_redrawn] at hz11); obtain ⟨hc11, hf11⟩ := bcellB (B := w.heap.size + 1) hb11 (by first | omega | (simp only [World.size_alloc, World.size_setCell, World.size_drew, size_drewN', size_grow, size_redrawn]; omega))
              rw [decide_eq_true rfl]
              go_wp2_with fail
              go_ret
              refine ⟨ret_bool (by simp), below_up hB10 (by omega) hb11⟩
        · have hn1 : ((l.length : Int) == 0) = true := by rw [beq_iff_eq]; omega
          have hn2 : l.length = 0 := by omega
          go_wp2_with fail
          go_ret
          refine ⟨ret_bool (by simp), hB7⟩
theorem law_cstmts (p d : Int) (l : List Bill) (A : Option Addr) (c : Nat) (ch u : Int) (w : World) (hs : SlBill w A l) (hl0 : l.length ≤ maxLen) (u0 : 0 ≤ u) (u1 : u ≤ 255) (hroom : l.length ≤ c) (hnone : A = none → c = 0) :
    Calls Try.prog 9 #[.agg #[.int .i64 p, .int .i64 d], .slice A l.length c, .int .i64 ch, .int .u8 u] w fun e w' => e = .returned (.bool true) ∧ Below w.heap.size w w' := by
  cases hu : use30 p d l ch
  · exact cstmts_no p d l A c ch u w hs hl0 hu
  · exact cstmts_yes p d l A c ch u w hs hl0 hu u0 u1 hroom hnone _ _ _ rfl
end Go.Proofs.Ythnncojbckifnaa
