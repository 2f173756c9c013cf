/-
  The law 'RoomsCounts': the walk.
-/
import Derived.Test.YtphapnooonjnmaaRmHead
import Derived.Test.YtphapnooonjnmaaRmUse
import Derived.Test.YtphapnooonjnmaaTwo
namespace Go.Proofs.Ytphapnooonjnmaa
set_option linter.unusedSimpArgs false
set_option linter.unusedVariables false
open Go.RowKit
open Go.Sort (grow size_grow)

set_option maxHeartbeats 4000000
set_option maxRecDepth 100000
theorem counts_no (l : List Room) (A : Option Addr) (c : Nat) (p : Int) (w : World) (hs : SlRoom w A l) (hi : IdsOk l) (hu : use16 l = false) :
    Calls Try.prog 6 #[.slice A l.length c, .int .u16 p] w fun e w' => e = .returned (.bool true) ∧ Below w.heap.size w w' := by
  go_enter Try.func6, Try.ntmps6
  go_wp2_with fail
  refine (head16_any _).mono ?_
  rintro e w1 ⟨rfl, B1⟩
  go_wp2_with fail
  refine (usable16_any l A c _ (hs.up B1) hi).mono ?_
  rintro e w2 ⟨rfl, b2⟩
  rw [hu]
  have B2 := below_up B1 B1.size b2
  go_wp2_with fail
  go_ret
  exact ⟨ret_bool (by simp), B2⟩
theorem rev_step {α : Type} {L : List α} {m : Nat} (h : m < L.length) : L.reverse.take (m + 1) = L.reverse.take m ++ [L[L.length - 1 - m]] := by
  rw [List.take_succ_eq_append_getElem (by rw [List.length_reverse]; exact h), List.getElem_reverse]
theorem freeN_step {l : List Room} {n : Int} {m : Nat} (h : m < l.length) : freeN (l.take (m + 1)) n = freeN (l.take m) n + if freeR l[m].blk (nightS n) = true then 1 else 0 := by
  unfold freeN
  rw [List.take_succ_eq_append_getElem h, List.countP_append, List.countP_singleton]
theorem count_in {l : List Room} (hv : roomsOk l = true) {h k n : Int} (h1 : inB h 1 20 = true) (h2 : inB k 1 20 = true) (h3 : inB n 0 365 = true) : countM l h k n = ((cntM l h k n : Int), 0) := by
  unfold countM
  rw [hv, h1, h2, h3, if_pos (by rfl)]
theorem counts_yes (l : List Room) (A : Option Addr) (c : Nat) (p : Int) (w : World) (hs : SlRoom w A l) (hi : IdsOk l) (hu : use16 l = true) (p0 : 0 ≤ p) (p1 : p ≤ 65535) :
    Calls Try.prog 6 #[.slice A l.length c, .int .u16 p] w fun e w' => e = .returned (.bool true) ∧ Below w.heap.size w w' := by
  obtain ⟨h40, hfew, hv⟩ := use16_iff.1 hu
  have hT := fewR_tame hfew hi
  have n0 : 0 ≤ p % 366 := by omega
  have n1 : p % 366 ≤ 365 := by omega
  have HN := Lib.hid (And.intro hT hv)
  clear hT hv
  go_enter Try.func6, Try.ntmps6
  go_wp2_with fail
  refine (head16_any _).mono ?_
  rintro e w1 ⟨rfl, B1⟩
  go_wp2_with fail
  refine (usable16_any l A c _ (hs.up B1) hi).mono ?_
  rintro e w2 ⟨rfl, b2⟩
  rw [hu]
  have B2 := below_up B1 B1.size b2
  go_wp2_with fail
  generalize p % 366 = n at *
  have hw1 : IntKind.i64.wrap (n + 1) = n + 1 := IntWalk.i64_in _ (by omega)
  obtain ⟨L, hLl, hLs, hLp⟩ := (hs.up B2).toA
  have hLn : L.length = l.length := by rw [← hLl, List.length_map]
  have HL := Lib.hid (And.intro hLl hLp)
  clear hLl hLp
  have HLN := Lib.hid hLn
  have hs0 := hs
  go_loopw [5, 7, 8, 29] (fun up bk wt i wr => ∃ m : Nat, m ≤ l.length ∧ i = .int .i64 m ∧ up = .bool true ∧ wt = .int .i64 (freeN (l.take m) n) ∧ OwnL wr w2.heap.size 25 6 encA bk (L.reverse.take m) ∧ Below w2.heap.size w2 wr) (fun _ _ _ i _ => l.length - (intOf i).toNat)
  case atStart => exact ⟨0, by omega, rfl, rfl, rfl, OwnL.nil_, Below.refl _ _⟩
  case round =>
    obtain ⟨m, hm, rfl, rfl, rfl, hown, hbw⟩ := hrel
    obtain ⟨w3, rfl⟩ : ∃ w3 : World, w3 = wr := ⟨_, rfl⟩
    have B3 := below_up B2 B2.size hbw
    have hbz := hbw.size
    by_cases hlt : m < l.length
    · have hx1 : (m : Int) < (l.length : Int) := by omega
      have hx4 : (0 : Int) ≤ (m : Int) := by omega
      obtain ⟨k, hkk⟩ : ∃ k : Nat, k = l.length - 1 - m := ⟨_, rfl⟩
      have hk : k < l.length := by omega
      have hk1 : (k : Int) < (l.length : Int) := by omega
      have hk0 : (0 : Int) ≤ (k : Int) := by omega
      have hwa : IntKind.i64.wrap ((l.length : Int) - 1) = (l.length : Int) - 1 := IntWalk.i64_in _ (by omega)
      have hwb : IntKind.i64.wrap ((l.length : Int) - 1 - (m : Int)) = (k : Int) := by rw [IntWalk.i64_in _ (by omega)]; omega
      have hst := rev_step (L := L) (m := m) (by rw [HLN.out]; exact hlt)
      have hkL : L.length - 1 - m = k := by rw [HLN.out]; omega
      have hfs := freeN_step (n := n) hlt
      have hcn : freeN (l.take m) n ≤ 40 := by
        have : freeN (l.take m) n ≤ (l.take m).length := List.countP_le_length
        rw [List.length_take] at this
        omega
      have HST := Lib.hid hst
      have HKL := Lib.hid hkL
      clear hst hkL
      have hok := (roomsOk_iff.1 HN.out.2).2.1 _ (List.getElem_mem hlt)
      have hff := free_night_ok hok n0 n1
      rw [free_night] at hfs
      have HFF := Lib.hid (And.intro hff hok)
      clear hff hok
      have hmL : m < L.length := by rw [HLN.out]; exact hlt
      have hkL' : k < L.length := by rw [HLN.out]; exact hk
      have hLm : L[m].1 = l[m] := by
        have h := List.getElem_map (·.1) (l := L) (i := m) (h := by rw [List.length_map]; exact hmL)
        rw [← h]
        simp only [HL.out.1]
      obtain ⟨b, off, hAe, hbl, hcell⟩ := hLs (by rintro rfl; simp at hmL)
      have q := hcell m hmL
      have r := hcell k hkL'
      clear hcell
      have HP := Lib.hid (fun (W : World) (hW : Below w2.heap.size w2 W) => by
        have h := free_any L[m].1 L[m].2.1 L[m].2.2 (nightS n) W ((HL.out.2 _ (List.getElem_mem hmL)).up hW) (by rw [hLm]; exact HN.out.1.at_ hlt)
        rw [show freeS L[m].1 (nightS n) = (!has l[m].blk n, 0) by rw [hLm]; exact HFF.out.1] at h
        exact h)
      have HST2 : Hid (L.reverse.take (m + 1) = L.reverse.take m ++ [L[k]]) := Lib.hid (by
        have h := HST.out
        simp only [HKL.out] at h
        exact h)
      clear HFF HST HKL hLm
      generalize L[m] = x at q HP
      generalize L[k] = y at r HST2
      subst hAe
      have q0 := q 0 (.int .i64 x.1.id) rfl
      have q1 := q 1 (.int .i64 x.1.house) rfl
      have q2 := q 2 (.int .i64 x.1.kind) rfl
      have q3 := q 3 (.int .i64 x.1.joins) rfl
      have q4 := q 4 (.bool x.1.acc) rfl
      have q5 := q 5 (.slice x.2.1 x.1.blk.length x.2.2) rfl
      rw [Nat.add_zero] at q0
      have r0 := (hbw.cell (p := ⟨b, _, none⟩) hbl).trans (r 0 (.int .i64 y.1.id) rfl)
      have r1 := (hbw.cell (p := ⟨b, _, none⟩) hbl).trans (r 1 (.int .i64 y.1.house) rfl)
      have r2 := (hbw.cell (p := ⟨b, _, none⟩) hbl).trans (r 2 (.int .i64 y.1.kind) rfl)
      have r3 := (hbw.cell (p := ⟨b, _, none⟩) hbl).trans (r 3 (.int .i64 y.1.joins) rfl)
      have r4 := (hbw.cell (p := ⟨b, _, none⟩) hbl).trans (r 4 (.bool y.1.acc) rfl)
      have r5 := (hbw.cell (p := ⟨b, _, none⟩) hbl).trans (r 5 (.slice y.2.1 y.1.blk.length y.2.2) rfl)
      rw [Nat.add_zero] at r0
      clear q r hkk hmL hkL'
      have hlr : (L.reverse.take m).length = m := by rw [List.length_take, List.length_reverse, HLN.out]; omega
      have HLR := Lib.hid hlr
      clear hlr
      have K0 := Lib.hid (fun (W : World) (hW : Below w2.heap.size w2 W) => And.intro ((hW.cell (p := ⟨b, _, none⟩) hbl).trans q0) (And.intro ((hW.cell (p := ⟨b, _, none⟩) hbl).trans q1) (And.intro ((hW.cell (p := ⟨b, _, none⟩) hbl).trans q2) (And.intro ((hW.cell (p := ⟨b, _, none⟩) hbl).trans q3) (And.intro ((hW.cell (p := ⟨b, _, none⟩) hbl).trans q4) ((hW.cell (p := ⟨b, _, none⟩) hbl).trans q5))))))
      clear q0 q1 q2 q3 q4 q5
      go_wp2_with (at_builtin; go_loud (refine wpList_push _ rfl (.tmp 32) (.tmp 41) 22 25 rfl w2.heap.size 6 64 encA elemRoom encA_len encA_one _ (L.reverse.take m) rfl (hown.alloc _) _ 1 y rfl (news_at _ _ _ rfl (by simp)) (by rw [HLR.out]; omega) (by first | omega | (simp; done) | (simp; omega)) (by first | omega | (simp; done) | (simp; omega)) ?_); intro v4 w4 hown4 hgrow4; go_loud (have b24 : Below w2.heap.size w2 w4 := below_push (w := w3.alloc (.cells (encA y).toArray 25)) (by repeat' (first | (with_reducible exact Below.refl _ _) | (with_reducible assumption) | (with_reducible refine below_drewN ?_ _) | (with_reducible refine Below.drew ?_) | (with_reducible refine below_regrown_up _ _ ?_ ?_) | (with_reducible refine Below.alloc ?_ ?_ _) | (with_reducible refine Below.setCell ?_ ?_ _) | (with_reducible refine below_up ?_ ?_ (by assumption)) | (with_reducible exact Nat.le_refl _) | omega | (simp; done) | (simp; omega))) (hown.alloc _) hgrow4 (by first | omega | (simp; done) | (simp; omega)); obtain ⟨q0, q1, q2, q3, q4, q5⟩ := K0.out w4 b24))
      have hl4 : b < w4.heap.size := Nat.lt_of_lt_of_le hbl b24.size
      have hgr := regrown_cells w4 (B := w4.heap.size) (by omega)
      refine wp_region_quiet_below (by kernel_rfl) (by kernel_rfl) ?_
      repeat (quiet_step ((first | (go_at_call 24; exact quiet_b (span16_any _ _ _)) | (go_at_call 15; exact quiet_b (HP.out _ (below_up b24 b24.size (below_regrown _ _ _)))))))
      refine wpQuiet_nil ?_
      intro _ hw'
      obtain ⟨⟨dq, osq⟩, hw''⟩ := hw'
      subst hw''
      have hb5 := below_regrown w4 dq osq
      clear hgr
      generalize grow (redrawn w4 dq) osq = w5 at hb5 ⊢
      have hz5 := hb5.size
      (try simp only [World.size_alloc, World.size_setCell, World.size_drew, size_drewN', size_grow, size_redrawn] at hz5)
      obtain ⟨hc5, hf5⟩ := bcellB (B := w4.heap.size) hb5 (by first | omega | (simp only [World.size_alloc, World.size_setCell, World.size_drew, size_drewN', size_grow, size_redrawn]; omega))
      have b25 := below_up b24 b24.size hb5
      have hown5 := hown4.below hb5
      rw [← HST2.out] at hown5
      clear hown4 hgrow4 hc5 hf5 q0 q1 q2 q3 q4 q5
      cases hh : has l[m].blk n
      · rw [hh] at hfs
        have hwc : IntKind.i64.wrap ((freeN (l.take m) n : Int) + 1) = (freeN (l.take m) n : Int) + 1 := IntWalk.i64_in _ (by omega)
        have HFS : Hid (freeN (l.take (m + 1)) n = freeN (l.take m) n + 1) := Lib.hid (by simpa using hfs)
        clear hfs
        simp only [Bool.not_false]
        go_wp2_with fail
        go_roundw
        case rel => exact ⟨m + 1, by omega, by go_num, rfl, by rw [HFS.out]; simp, hown5, b25⟩
        case measure => simp [intOf]; omega
      · rw [hh] at hfs
        have HFS : Hid (freeN (l.take (m + 1)) n = freeN (l.take m) n) := Lib.hid (by simpa using hfs)
        clear hfs
        simp only [Bool.not_true]
        go_wp2_with fail
        go_roundw
        case rel => exact ⟨m + 1, by omega, by go_num, rfl, by rw [HFS.out], hown5, b25⟩
        case measure => simp [intOf]; omega
    · obtain rfl : m = l.length := by omega
      rw [List.take_of_length_le (Nat.le_refl _)]
      rw [List.take_of_length_le (by rw [List.length_reverse, HLN.out]; exact Nat.le_refl _)] at hown
      obtain ⟨A3, c3, rfl, _, _, hsB⟩ := hown.sl encA_len
      have hsR : SlRoom w3 A3 l.reverse := by
        have h := SlRoom.ofA hsB (fun x hx => (HL.out.2 x (List.mem_reverse.1 hx)).up hbw)
        rwa [List.map_reverse, HL.out.1] at h
      have hlr : L.reverse.length = l.reverse.length := by rw [List.length_reverse, List.length_reverse, HLN.out]
      have hlr2 : l.reverse.length = l.length := List.length_reverse
      rw [hlr, hlr2]
      have HLR2 := Lib.hid hlr2
      clear hlr hlr2
      have hTr : Hid (Tame l.reverse ∧ ∀ h k n, countM l.reverse h k n = countM l h k n) := Lib.hid ⟨fun x hx => HN.out.1 x (List.mem_reverse.1 hx), fun h k n => by
        have hp : l.reverse.Perm l := List.reverse_perm l
        have h1 : roomsOk l.reverse = true := rooms_perm hp.symm HN.out.2
        unfold countM
        rw [h1, HN.out.2, cnt_perm hp]⟩
      have hsl := hs0.up B3
      have HC := Lib.hid (fun (h k : Int) (h1 : inB h 1 20 = true) (h2 : inB k 1 20 = true) => count_in HN.out.2 h1 h2 (inB_iff.2 ⟨n0, n1⟩))
      have HSUM := Lib.hid (sum_all HN.out.2 n)
      have HLE := Lib.hid (And.intro (sumH_le l n) (sumK_le l))
      clear hown hLs hsB
      generalize hR : l.reverse = R at *
      have w40 : freeN l n ≤ 40 := by
        have : freeN l n ≤ l.length := List.countP_le_length
        omega
      go_wp2_with fail
      go_loopw [12, 13] (fun sm hv wr => ∃ h : Nat, h ≤ 20 ∧ hv = .int .i64 ((h : Int) + 1) ∧ sm = .int .i64 (sumH l n h) ∧ Below w3.heap.size w3 wr) (fun _ hv _ => (21 - intOf hv).toNat)
      case atStart => exact ⟨0, by omega, rfl, rfl, Below.refl _ _⟩
      case round =>
        obtain ⟨h, hh, rfl, rfl, hbh⟩ := hrel
        obtain ⟨w4, rfl⟩ : ∃ w4 : World, w4 = wr := ⟨_, rfl⟩
        have hle := HLE.out.1 h
        by_cases hlt2 : h < 20
        · have hd : decide ((h : Int) + 1 ≤ 20) = true := by rw [decide_eq_true_eq]; omega
          have hwh : IntKind.i64.wrap ((h : Int) + 1 + 1) = (h : Int) + 1 + 1 := IntWalk.i64_in _ (by omega)
          have hin : inB ((h : Int) + 1) 1 20 = true := inB_iff.2 (by omega)
          have hsh : Hid (sumH l n (h + 1) = sumH l n h + sumK l ((h : Int) + 1) n 20) := Lib.hid rfl
          go_wp2_with fail
          go_loopw [12, 14] (fun sm kv wr => ∃ k : Nat, k ≤ 20 ∧ kv = .int .i64 ((k : Int) + 1) ∧ sm = .int .i64 ((sumH l n h : Int) + (sumK l ((h : Int) + 1) n k : Int)) ∧ Below w3.heap.size w3 wr) (fun _ kv _ => (21 - intOf kv).toNat)
          case atStart => exact ⟨0, by omega, rfl, by simp [sumK], hbh⟩
          case round =>
            obtain ⟨k, hk, rfl, rfl, hbk⟩ := hrel
            obtain ⟨w5, rfl⟩ : ∃ w5 : World, w5 = wr := ⟨_, rfl⟩
            have hlk := HLE.out.2 ((h : Int) + 1) n k
            by_cases hlt3 : k < 20
            · have hd2 : decide ((k : Int) + 1 ≤ 20) = true := by rw [decide_eq_true_eq]; omega
              have hwk : IntKind.i64.wrap ((k : Int) + 1 + 1) = (k : Int) + 1 + 1 := IntWalk.i64_in _ (by omega)
              have hik : inB ((k : Int) + 1) 1 20 = true := inB_iff.2 (by omega)
              have hsk : Hid (sumK l ((h : Int) + 1) n (k + 1) = sumK l ((h : Int) + 1) n k + cntM l ((h : Int) + 1) ((k : Int) + 1) n) := Lib.hid rfl
              have hc := HC.out _ _ hin hik
              have hcl : cntM l ((h : Int) + 1) ((k : Int) + 1) n ≤ 40 := Nat.le_trans (cnt_le _ _ _ _) h40
              have hmul1 : h * (20 * l.length) ≤ 20 * (20 * 40) := Nat.mul_le_mul (by omega) (Nat.mul_le_mul (Nat.le_refl _) h40)
              have hmul2 : k * l.length ≤ 20 * 40 := Nat.mul_le_mul (by omega) h40
              have hwa : IntKind.i64.wrap ((sumH l n h : Int) + (sumK l ((h : Int) + 1) n k : Int) + (cntM l ((h : Int) + 1) ((k : Int) + 1) n : Int)) = (sumH l n h : Int) + (sumK l ((h : Int) + 1) n k : Int) + (cntM l ((h : Int) + 1) ((k : Int) + 1) n : Int) := IntWalk.i64_in _ (by omega)
              clear hle hlk hmul1 hmul2 hcl
              have q1 := cntm_any l A c ((h : Int) + 1) ((k : Int) + 1) n w5 (hsl.up hbk) (by omega) HN.out.1
              rw [hc] at q1
              go_wp2_with fail
              refine q1.mono ?_
              rintro e w6 ⟨rfl, b6⟩
              have b36 := below_up hbk hbk.size b6
              have q2 := cntm_any R A3 c3 ((h : Int) + 1) ((k : Int) + 1) n w6 (hsR.up b36) (by rw [HLR2.out]; omega) hTr.out.1
              rw [hTr.out.2, hc, HLR2.out] at q2
              clear q1
              go_wp2_with fail
              refine q2.mono ?_
              rintro e w7 ⟨rfl, b7⟩
              have b37 := below_up b36 b36.size b7
              clear q2
              go_wp2_with fail
              go_roundw
              case rel => exact ⟨k + 1, by omega, by go_num, by rw [hsk.out]; congr 1; omega, b37⟩
              case measure => simp [intOf]; omega
            · obtain rfl : k = 20 := by omega
              have hd2 : decide (((20 : Nat) : Int) + 1 ≤ 20) = false := by decide
              go_wp2_with fail
              go_roundw
              case rel => exact ⟨h + 1, by omega, by go_num, by rw [hsh.out]; rfl, hbk⟩
              case measure => simp [intOf]; omega
        · obtain rfl : h = 20 := by omega
          have hd : decide (((20 : Nat) : Int) + 1 ≤ 20) = false := by decide
          rw [HSUM.out]
          go_wp2_with fail
          go_ret
          exact ⟨ret_bool (by simp), below_up B3 B3.size hbh⟩
theorem law_rmcounts (l : List Room) (A : Option Addr) (c : Nat) (p : Int) (w : World) (hs : SlRoom w A l) (hi : IdsOk l) (p0 : 0 ≤ p) (p1 : p ≤ 65535) :
    Calls Try.prog 6 #[.slice A l.length c, .int .u16 p] w fun e w' => e = .returned (.bool true) ∧ Below w.heap.size w w' := by
  cases hu : use16 l
  · exact counts_no l A c p w hs hi hu
  · exact counts_yes l A c p w hs hi hu p0 p1
end Go.Proofs.Ytphapnooonjnmaa
