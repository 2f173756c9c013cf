/-
  Package commission: the reference's statement.
-/
import Derived.Test.YthnncojbckifnaaCom3
namespace Go.Proofs.Ythnncojbckifnaa
set_option linter.unusedSimpArgs false
set_option linter.unusedVariables false
open Go.RowKit Go.Maps
open Go.Sort (grow size_grow)

set_option maxHeartbeats 4000000
set_option maxRecDepth 100000
theorem rstmt_any (p d : Int) (l : List Bill) (A : Option Addr) (c : Nat) (ch : Int) (w : World) (hs : SlBill w A l) (hl0 : l.length ≤ maxLen) (c0 : -9223372036854775808 ≤ ch) (c1 : ch ≤ 9223372036854775807) :
    Calls Try.prog 27 #[.agg #[.int .i64 p, .int .i64 d], .slice A l.length c, .int .i64 ch] w fun e w' => OutI3 (stmtR p d l ch) e w' ∧ Below w.heap.size w w' := by
  by_cases h0 : 3000 < l.length
  · have h0' : (3000 : Int) < (l.length : Int) := by omega
    rw [stmtR_many h0]
    go_enter Try.func27, Try.ntmps27
    go_wp2_with fail
    go_ret3
    refine ⟨outI3_nil, ?_⟩
    repeat' (first
      | (with_reducible exact Below.refl _ _)
      | (with_reducible assumption)
      | (with_reducible refine below_drewN ?_ _)
      | (with_reducible refine Below.drew ?_)
      | (with_reducible refine below_regrown_up _ _ ?_ ?_)
      | (with_reducible refine Below.alloc ?_ ?_ _)
      | (with_reducible refine Below.setCell ?_ ?_ _)
      | (with_reducible refine below_up ?_ ?_ (by assumption))
      | (with_reducible exact Nat.le_refl _)
      | omega
      | (simp; done)
      | (simp; omega))
  · have h0' : ¬ (3000 : Int) < (l.length : Int) := by omega
    cases h1 : partOk p d
    · rw [stmtR_no (by omega) (by rw [h1]; rfl)]
      go_enter Try.func27, Try.ntmps27
      go_wp2_with (first | (go_at_call 31; refine (r30part_any p d _).mono ?_; rintro e w1 ⟨rfl, hb1⟩; have hz1 := hb1.size; (try simp only [World.size_alloc, World.size_setCell, World.size_drew, size_drewN', size_grow, size_redrawn] at hz1); obtain ⟨hc1, hf1⟩ := bcellB (B := w.heap.size + 1) hb1 (by first | omega | (simp only [World.size_alloc, World.size_setCell, World.size_drew, size_drewN', size_grow, size_redrawn]; omega)); rw [h1]) | (go_at_call 55; refine (rBills_any l A c _ (hs.up (by repeat' (first | (with_reducible exact Below.refl _ _) | (with_reducible assumption) | (with_reducible refine below_drewN ?_ _) | (with_reducible refine Below.drew ?_) | (with_reducible refine below_regrown_up _ _ ?_ ?_) | (with_reducible refine Below.alloc ?_ ?_ _) | (with_reducible refine Below.setCell ?_ ?_ _) | (with_reducible refine below_up ?_ ?_ (by assumption)) | (with_reducible exact Nat.le_refl _) | omega | (simp; done) | (simp; omega)))) (by omega)).mono ?_; rintro e w2 ⟨rfl, hb2⟩; have hz2 := hb2.size; (try simp only [World.size_alloc, World.size_setCell, World.size_drew, size_drewN', size_grow, size_redrawn] at hz2); obtain ⟨hc2, hf2⟩ := bcellB (B := w.heap.size + 1) hb2 (by first | omega | (simp only [World.size_alloc, World.size_setCell, World.size_drew, size_drewN', size_grow, size_redrawn]; omega)); rw [h2]))
      go_ret3
      refine ⟨outI3_nil, ?_⟩
      repeat' (first
        | (with_reducible exact Below.refl _ _)
        | (with_reducible assumption)
        | (with_reducible refine below_drewN ?_ _)
        | (with_reducible refine Below.drew ?_)
        | (with_reducible refine below_regrown_up _ _ ?_ ?_)
        | (with_reducible refine Below.alloc ?_ ?_ _)
        | (with_reducible refine Below.setCell ?_ ?_ _)
        | (with_reducible refine below_up ?_ ?_ (by assumption))
        | (with_reducible exact Nat.le_refl _)
        | omega
        | (simp; done)
        | (simp; omega))
    · cases h2 : billsOk l
      · rw [stmtR_no (by omega) (by rw [h1, h2]; rfl)]
        go_enter Try.func27, Try.ntmps27
        go_wp2_with (first | (go_at_call 31; refine (r30part_any p d _).mono ?_; rintro e w1 ⟨rfl, hb1⟩; have hz1 := hb1.size; (try simp only [World.size_alloc, World.size_setCell, World.size_drew, size_drewN', size_grow, size_redrawn] at hz1); obtain ⟨hc1, hf1⟩ := bcellB (B := w.heap.size + 1) hb1 (by first | omega | (simp only [World.size_alloc, World.size_setCell, World.size_drew, size_drewN', size_grow, size_redrawn]; omega)); rw [h1]) | (go_at_call 55; refine (rBills_any l A c _ (hs.up (by repeat' (first | (with_reducible exact Below.refl _ _) | (with_reducible assumption) | (with_reducible refine below_drewN ?_ _) | (with_reducible refine Below.drew ?_) | (with_reducible refine below_regrown_up _ _ ?_ ?_) | (with_reducible refine Below.alloc ?_ ?_ _) | (with_reducible refine Below.setCell ?_ ?_ _) | (with_reducible refine below_up ?_ ?_ (by assumption)) | (with_reducible exact Nat.le_refl _) | omega | (simp; done) | (simp; omega)))) (by omega)).mono ?_; rintro e w2 ⟨rfl, hb2⟩; have hz2 := hb2.size; (try simp only [World.size_alloc, World.size_setCell, World.size_drew, size_drewN', size_grow, size_redrawn] at hz2); obtain ⟨hc2, hf2⟩ := bcellB (B := w.heap.size + 1) hb2 (by first | omega | (simp only [World.size_alloc, World.size_setCell, World.size_drew, size_drewN', size_grow, size_redrawn]; omega)); rw [h2]))
        go_ret3
        refine ⟨outI3_nil, ?_⟩
        repeat' (first
          | (with_reducible exact Below.refl _ _)
          | (with_reducible assumption)
          | (with_reducible refine below_drewN ?_ _)
          | (with_reducible refine Below.drew ?_)
          | (with_reducible refine below_regrown_up _ _ ?_ ?_)
          | (with_reducible refine Below.alloc ?_ ?_ _)
          | (with_reducible refine Below.setCell ?_ ?_ _)
          | (with_reducible refine below_up ?_ ?_ (by assumption))
          | (with_reducible exact Nat.le_refl _)
          | omega
          | (simp; done)
          | (simp; omega))
      · cases h3 : inB ch 0 29
        · rw [stmtR_no (by omega) (by rw [h1, h2, h3]; rfl)]
          have h4 : ch < 0 ∨ 30 ≤ ch := by
            have := mt inB_iff.2 (by rw [h3]; simp)
            omega
          rcases h4 with h4 | h4
          all_goals
            go_enter Try.func27, Try.ntmps27
            go_wp2_with (first | (go_at_call 31; refine (r30part_any p d _).mono ?_; rintro e w1 ⟨rfl, hb1⟩; have hz1 := hb1.size; (try simp only [World.size_alloc, World.size_setCell, World.size_drew, size_drewN', size_grow, size_redrawn] at hz1); obtain ⟨hc1, hf1⟩ := bcellB (B := w.heap.size + 1) hb1 (by first | omega | (simp only [World.size_alloc, World.size_setCell, World.size_drew, size_drewN', size_grow, size_redrawn]; omega)); rw [h1]) | (go_at_call 55; refine (rBills_any l A c _ (hs.up (by repeat' (first | (with_reducible exact Below.refl _ _) | (with_reducible assumption) | (with_reducible refine below_drewN ?_ _) | (with_reducible refine Below.drew ?_) | (with_reducible refine below_regrown_up _ _ ?_ ?_) | (with_reducible refine Below.alloc ?_ ?_ _) | (with_reducible refine Below.setCell ?_ ?_ _) | (with_reducible refine below_up ?_ ?_ (by assumption)) | (with_reducible exact Nat.le_refl _) | omega | (simp; done) | (simp; omega)))) (by omega)).mono ?_; rintro e w2 ⟨rfl, hb2⟩; have hz2 := hb2.size; (try simp only [World.size_alloc, World.size_setCell, World.size_drew, size_drewN', size_grow, size_redrawn] at hz2); obtain ⟨hc2, hf2⟩ := bcellB (B := w.heap.size + 1) hb2 (by first | omega | (simp only [World.size_alloc, World.size_setCell, World.size_drew, size_drewN', size_grow, size_redrawn]; omega)); rw [h2]))
            go_ret3
            refine ⟨outI3_nil, ?_⟩
            repeat' (first
              | (with_reducible exact Below.refl _ _)
              | (with_reducible assumption)
              | (with_reducible refine below_drewN ?_ _)
              | (with_reducible refine Below.drew ?_)
              | (with_reducible refine below_regrown_up _ _ ?_ ?_)
              | (with_reducible refine Below.alloc ?_ ?_ _)
              | (with_reducible refine Below.setCell ?_ ?_ _)
              | (with_reducible refine below_up ?_ ?_ (by assumption))
              | (with_reducible exact Nat.le_refl _)
              | omega
              | (simp; done)
              | (simp; omega))
        · obtain ⟨g0, g1⟩ := inB_iff.1 h3
          have hbk := (billsOk_iff.1 h2).1
          have hown0 := ofCh_len l ch
          have hok : ∀ b ∈ ofCh l ch, b.ok = true := fun b hb => hbk b (List.mem_filter.1 hb).1
          have HR : Hid (stmtR p d l ch = if 1000000000 < (comms p d (ofCh l ch)).sum then ([], 0, 3) else (comms p d (ofCh l ch), (comms p d (ofCh l ch)).sum, 0)) := by
            refine Lib.hid ?_
            split
            · exact stmtR_far (by omega) h1 h2 h3 (by assumption)
            · exact stmtR_ok (by omega) h1 h2 h3 (by assumption)
          go_enter Try.func27, Try.ntmps27
          go_wp2_with (first | (go_at_call 31; refine (r30part_any p d _).mono ?_; rintro e w1 ⟨rfl, hb1⟩; have hz1 := hb1.size; (try simp only [World.size_alloc, World.size_setCell, World.size_drew, size_drewN', size_grow, size_redrawn] at hz1); obtain ⟨hc1, hf1⟩ := bcellB (B := w.heap.size + 1) hb1 (by first | omega | (simp only [World.size_alloc, World.size_setCell, World.size_drew, size_drewN', size_grow, size_redrawn]; omega)); rw [h1]) | (go_at_call 55; refine (rBills_any l A c _ (hs.up (by repeat' (first | (with_reducible exact Below.refl _ _) | (with_reducible assumption) | (with_reducible refine below_drewN ?_ _) | (with_reducible refine Below.drew ?_) | (with_reducible refine below_regrown_up _ _ ?_ ?_) | (with_reducible refine Below.alloc ?_ ?_ _) | (with_reducible refine Below.setCell ?_ ?_ _) | (with_reducible refine below_up ?_ ?_ (by assumption)) | (with_reducible exact Nat.le_refl _) | omega | (simp; done) | (simp; omega)))) (by omega)).mono ?_; rintro e w2 ⟨rfl, hb2⟩; have hz2 := hb2.size; (try simp only [World.size_alloc, World.size_setCell, World.size_drew, size_drewN', size_grow, size_redrawn] at hz2); obtain ⟨hc2, hf2⟩ := bcellB (B := w.heap.size + 1) hb2 (by first | omega | (simp only [World.size_alloc, World.size_setCell, World.size_drew, size_drewN', size_grow, size_redrawn]; omega)); rw [h2]))
          refine (rOf_any l A c ch _ (hs.up (by repeat' (first | (with_reducible exact Below.refl _ _) | (with_reducible assumption) | (with_reducible refine below_drewN ?_ _) | (with_reducible refine Below.drew ?_) | (with_reducible refine below_regrown_up _ _ ?_ ?_) | (with_reducible refine Below.alloc ?_ ?_ _) | (with_reducible refine Below.setCell ?_ ?_ _) | (with_reducible refine below_up ?_ ?_ (by assumption)) | (with_reducible exact Nat.le_refl _) | omega | (simp; done) | (simp; omega)))) (by omega)).mono ?_
          rintro e w3 ⟨⟨v, rfl, hown⟩, hb3⟩
          generalize ofCh l ch = own at *
          obtain ⟨A3, c3, rfl, hc3, _, hs3⟩ := hown.sl bill_len
          have hz3 := hb3.size
          have hB3 : Below w.heap.size w w3 := (by repeat' (first | (with_reducible exact Below.refl _ _) | (with_reducible assumption) | (with_reducible refine below_drewN ?_ _) | (with_reducible refine Below.drew ?_) | (with_reducible refine below_regrown_up _ _ ?_ ?_) | (with_reducible refine Below.alloc ?_ ?_ _) | (with_reducible refine Below.setCell ?_ ?_ _) | (with_reducible refine below_up ?_ ?_ (by assumption)) | (with_reducible exact Nat.le_refl _) | omega | (simp; done) | (simp; omega)))
          obtain ⟨hc3', hf3'⟩ := bcellB (B := w.heap.size + 1) hb3 (by omega)
          have HBK := Lib.hid hbk
          have HOK := Lib.hid hok
          clear hbk hok
          go_wp2_with fail
          go_loopw [10, 11, 12] (fun ov sv i wr => ∃ m : Nat, m ≤ own.length ∧ i = .int .i64 m ∧ sv = .int .i64 (comms p d (own.take m)).sum ∧ OwnL wr w3.heap.size 3 1 intC ov (comms p d (own.take m)) ∧ Below w3.heap.size w3 wr) (fun _ _ i _ => own.length - (intOf i).toNat)
          case atStart => exact ⟨0, by omega, rfl, rfl, OwnL.nil_, Below.refl _ _⟩
          case round =>
            obtain ⟨m, hm, rfl, rfl, hoi, hbw⟩ := hrel
            have hbz := hbw.size
            obtain ⟨hcw, hfw⟩ := bcellB (B := w.heap.size + 1) hbw (by omega)
            have hbd := comms_bd h1 (l := own.take m) (fun b hb => HOK.out b (List.mem_of_mem_take hb))
            rw [List.length_take] at hbd
            obtain ⟨b0, b1⟩ := hbd
            by_cases hlt : m < own.length
            · have hx1 : (0 : Int) ≤ (m : Int) := by omega
              have hx2 : (m : Int) < (own.length : Int) := by omega
              obtain ⟨b, off, rfl, hbl, hcell⟩ := (hs3.below hbw).at_ hlt
              have q0 := hcell 0 _ rfl
              have q1 := hcell 1 _ rfl
              have q2 := hcell 2 _ rfl
              have q3 := hcell 3 _ rfl
              have q4 := hcell 4 _ rfl
              have q5 := hcell 5 _ rfl
              have q6 := hcell 6 _ rfl
              have q7 := hcell 7 _ rfl
              have q8 := hcell 8 _ rfl
              rw [Nat.add_zero] at q0
              clear hcell
              have hxo := HOK.out _ (List.getElem_mem hlt)
              have HONE := Lib.hid (oneR_ok h1 hxo)
              obtain ⟨n0, n1⟩ := (Bill.ok_iff.1 hxo).2.2.2.2.2.2.1
              obtain ⟨k0, k1⟩ := comm_bd h1 n0
              clear hxo
              have hst : comms p d (own.take (m + 1)) = comms p d (own.take m) ++ [comm p d own[m].price] := by rw [List.take_succ_eq_append_getElem hlt, comms_snoc]
              have hln : (comms p d (own.take m)).length ≤ 3000 := by unfold comms; rw [List.length_map, List.length_take]; omega
              generalize comms p d (own.take m) = out at *
              generalize comm p d own[m].price = k at *
              have HST := Lib.hid hst
              clear hst
              have hws : IntKind.i64.wrap (out.sum + k) = out.sum + k := IntWalk.i64_in _ (by omega)
              have hlw1 : w.heap.size < wr.heap.size := by omega
              have hbl2 : b < wr.heap.size := by omega
              have pw0 : wr.cell? ⟨w.heap.size, 0, none⟩ = some (.int .i64 p) := by rw [hcw _ _ (by omega), hc3' _ _ (by omega)]; go_simp
              have pw1 : wr.cell? ⟨w.heap.size, 1, none⟩ = some (.int .i64 d) := by rw [hcw _ _ (by omega), hc3' _ _ (by omega)]; go_simp
              go_wp2_with fail
              have hgr := regrown_cells wr (B := wr.heap.size) (by omega)
              refine wp_region_quiet_below (by kernel_rfl) (by kernel_rfl) ?_
              repeat (quiet_step ((go_at_call 25; exact quiet_b (rcone_any HONE.out _))))
              refine wpQuiet_nil ?_
              intro _ hw'
              obtain ⟨⟨dq, osq⟩, hw''⟩ := hw'
              subst hw''
              have hb4 := below_regrown wr dq osq
              clear hgr
              generalize grow (redrawn wr dq) osq = w4 at hb4 ⊢
              have hz4 := hb4.size
              (try simp only [World.size_alloc, World.size_setCell, World.size_drew, size_drewN', size_grow, size_redrawn] at hz4)
              obtain ⟨hc4, hf4⟩ := bcellB (B := wr.heap.size) hb4 (by first | omega | (simp only [World.size_alloc, World.size_setCell, World.size_drew, size_drewN', size_grow, size_redrawn]; omega))
              go_wp2_with (at_builtin; go_loud (refine wpList_push _ rfl (.tmp 52) (.tmp 54) 45 3 rfl w3.heap.size 1 8 intC elemInt int_len int_one _ out rfl ((hoi.below hb4).alloc _) _ 1 k rfl (news_at _ _ _ rfl (by simp)) (by first | omega | (simp; done) | (simp; omega)) (by first | omega | (simp; done) | (simp; omega)) (by first | omega | (simp; done) | (simp; omega)) ?_); intro v5 w5 hown5 hgrow5)
              have hb5 : Below w3.heap.size w3 w5 := below_push (w := w4.alloc (.cells #[.int .i64 k] 3)) (by repeat' (first | (with_reducible exact Below.refl _ _) | (with_reducible assumption) | (with_reducible refine below_drewN ?_ _) | (with_reducible refine Below.drew ?_) | (with_reducible refine below_regrown_up _ _ ?_ ?_) | (with_reducible refine Below.alloc ?_ ?_ _) | (with_reducible refine Below.setCell ?_ ?_ _) | (with_reducible refine below_up ?_ ?_ (by assumption)) | (with_reducible exact Nat.le_refl _) | omega | (simp; done) | (simp; omega))) ((hoi.below hb4).alloc _) hgrow5 (by first | omega | (simp; done) | (simp; omega))
              go_roundw
              case rel =>
                refine ⟨m + 1, by omega, by go_num, ?_, ?_, hb5⟩
                · rw [HST.out, List.sum_append]; simp
                · rw [HST.out]; exact hown5
              case measure => simp [intOf]; omega
            · obtain rfl : m = own.length := by omega
              rw [List.take_of_length_le (Nat.le_refl _)] at hoi b0 b1
              have hr := HR.out
              by_cases hfar : 1000000000 < (comms p d own).sum
              · rw [if_pos hfar] at hr
                have HF := Lib.hid hr
                clear hr
                rw [List.take_of_length_le (Nat.le_refl _)]
                go_wp2_with fail
                go_ret3
                refine ⟨?_, (by repeat' (first | (with_reducible exact Below.refl _ _) | (with_reducible assumption) | (with_reducible refine below_drewN ?_ _) | (with_reducible refine Below.drew ?_) | (with_reducible refine below_regrown_up _ _ ?_ ?_) | (with_reducible refine Below.alloc ?_ ?_ _) | (with_reducible refine Below.setCell ?_ ?_ _) | (with_reducible refine below_up ?_ ?_ (by assumption)) | (with_reducible exact Nat.le_refl _) | omega | (simp; done) | (simp; omega)))⟩
                rw [HF.out]
                exact outI3_nil
              · rw [if_neg hfar] at hr
                have HF := Lib.hid hr
                clear hr
                rw [List.take_of_length_le (Nat.le_refl _)]
                obtain ⟨A6, c6, rfl, _, _, hs6⟩ := hoi.sl int_len
                go_wp2_with fail
                go_ret3
                refine ⟨?_, (by repeat' (first | (with_reducible exact Below.refl _ _) | (with_reducible assumption) | (with_reducible refine below_drewN ?_ _) | (with_reducible refine Below.drew ?_) | (with_reducible refine below_regrown_up _ _ ?_ ?_) | (with_reducible refine Below.alloc ?_ ?_ _) | (with_reducible refine Below.setCell ?_ ?_ _) | (with_reducible refine below_up ?_ ?_ (by assumption)) | (with_reducible exact Nat.le_refl _) | omega | (simp; done) | (simp; omega)))⟩
                rw [HF.out]
                exact ⟨A6, c6, rfl, hs6⟩
end Go.Proofs.Ythnncojbckifnaa
