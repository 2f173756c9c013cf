/-
  The reference of package rooms: counting.
-/
import Derived.Test.YtphapnooonjnmaaRmW6
namespace Go.Proofs.Ytphapnooonjnmaa
set_option linter.unusedSimpArgs false
set_option linter.unusedVariables false
open Go.RowKit
open Go.Sort (grow size_grow)

set_option maxHeartbeats 4000000
set_option maxRecDepth 100000
theorem rcount_bad (l : List Room) (A : Option Addr) (c : Nat) (h k n : Int) (w : World) (hs : SlRoom w A l) (hl : l.length ≤ 140737488355328) (hT : Tame l) (hx : (roomsOk l && inB h 1 20 && inB k 1 20 && inB n 0 365) = false) :
    Calls Try.prog 21 #[.slice A l.length c, .int .i64 h, .int .i64 k, .int .i64 n] w fun e w' => e = .returned (.tuple #[.int .i64 0, .int .i64 1]) ∧ Below w.heap.size w w' := by
  cases hv : roomsOk l
  case false =>
    go_enter Try.func21, Try.ntmps21
    go_wp2_with fail
    refine (rrvalid_any l A c _ (hs.up (by repeat' (first | (with_reducible exact Below.refl _ _) | (with_reducible assumption) | (with_reducible refine below_drewN ?_ _) | (with_reducible refine Below.drew ?_) | (with_reducible refine below_regrown_up _ _ ?_ ?_) | (with_reducible refine Below.alloc ?_ ?_ _) | (with_reducible refine Below.setCell ?_ ?_ _) | (with_reducible refine below_up ?_ ?_ (by assumption)) | (with_reducible exact Nat.le_refl _) | omega | (simp; done) | (simp; omega)))) hl hT).mono ?_
    rintro e w1 ⟨rfl, hb1⟩; have hz1 := hb1.size; (try simp only [World.size_alloc, World.size_setCell, World.size_drew, size_drewN', size_grow, size_redrawn] at hz1); obtain ⟨hc1, hf1⟩ := bcellB (B := w.heap.size) hb1 (by first | omega | (simp only [World.size_alloc, World.size_setCell, World.size_drew, size_drewN', size_grow, size_redrawn]; omega))
    rw [hv]
    go_wp2_with fail
    go_ret2
    refine ⟨rfl, ?_⟩
    repeat' (first
      | (with_reducible exact Below.refl _ _)
      | (with_reducible assumption)
      | (with_reducible refine below_drewN ?_ _)
      | (with_reducible refine Below.drew ?_)
      | (with_reducible refine below_regrown_up _ _ ?_ ?_)
      | (with_reducible refine Below.alloc ?_ ?_ _)
      | (with_reducible refine Below.setCell ?_ ?_ _)
      | (with_reducible refine below_up ?_ ?_ (by assumption))
      | (with_reducible exact Nat.le_refl _)
      | omega
      | (simp; done)
      | (simp; omega))
  cases i1 : inB h 1 20
  case false =>
    go_enter Try.func21, Try.ntmps21
    go_wp2_with fail
    refine (rrvalid_any l A c _ (hs.up (by repeat' (first | (with_reducible exact Below.refl _ _) | (with_reducible assumption) | (with_reducible refine below_drewN ?_ _) | (with_reducible refine Below.drew ?_) | (with_reducible refine below_regrown_up _ _ ?_ ?_) | (with_reducible refine Below.alloc ?_ ?_ _) | (with_reducible refine Below.setCell ?_ ?_ _) | (with_reducible refine below_up ?_ ?_ (by assumption)) | (with_reducible exact Nat.le_refl _) | omega | (simp; done) | (simp; omega)))) hl hT).mono ?_
    rintro e w1 ⟨rfl, hb1⟩; have hz1 := hb1.size; (try simp only [World.size_alloc, World.size_setCell, World.size_drew, size_drewN', size_grow, size_redrawn] at hz1); obtain ⟨hc1, hf1⟩ := bcellB (B := w.heap.size) hb1 (by first | omega | (simp only [World.size_alloc, World.size_setCell, World.size_drew, size_drewN', size_grow, size_redrawn]; omega))
    rw [hv]
    go_wp2_with fail
    refine (r16_in_any _ _ _ _).mono ?_
    rintro e w2 ⟨rfl, rfl⟩
    rw [i1]
    go_wp2_with fail
    go_ret2
    refine ⟨rfl, ?_⟩
    repeat' (first
      | (with_reducible exact Below.refl _ _)
      | (with_reducible assumption)
      | (with_reducible refine below_drewN ?_ _)
      | (with_reducible refine Below.drew ?_)
      | (with_reducible refine below_regrown_up _ _ ?_ ?_)
      | (with_reducible refine Below.alloc ?_ ?_ _)
      | (with_reducible refine Below.setCell ?_ ?_ _)
      | (with_reducible refine below_up ?_ ?_ (by assumption))
      | (with_reducible exact Nat.le_refl _)
      | omega
      | (simp; done)
      | (simp; omega))
  cases i2 : inB k 1 20
  case false =>
    go_enter Try.func21, Try.ntmps21
    go_wp2_with fail
    refine (rrvalid_any l A c _ (hs.up (by repeat' (first | (with_reducible exact Below.refl _ _) | (with_reducible assumption) | (with_reducible refine below_drewN ?_ _) | (with_reducible refine Below.drew ?_) | (with_reducible refine below_regrown_up _ _ ?_ ?_) | (with_reducible refine Below.alloc ?_ ?_ _) | (with_reducible refine Below.setCell ?_ ?_ _) | (with_reducible refine below_up ?_ ?_ (by assumption)) | (with_reducible exact Nat.le_refl _) | omega | (simp; done) | (simp; omega)))) hl hT).mono ?_
    rintro e w1 ⟨rfl, hb1⟩; have hz1 := hb1.size; (try simp only [World.size_alloc, World.size_setCell, World.size_drew, size_drewN', size_grow, size_redrawn] at hz1); obtain ⟨hc1, hf1⟩ := bcellB (B := w.heap.size) hb1 (by first | omega | (simp only [World.size_alloc, World.size_setCell, World.size_drew, size_drewN', size_grow, size_redrawn]; omega))
    rw [hv]
    go_wp2_with fail
    refine (r16_in_any _ _ _ _).mono ?_
    rintro e w2 ⟨rfl, rfl⟩
    rw [i1]
    go_wp2_with fail
    refine (r16_in_any _ _ _ _).mono ?_
    rintro e w2 ⟨rfl, rfl⟩
    rw [i2]
    go_wp2_with fail
    go_ret2
    refine ⟨rfl, ?_⟩
    repeat' (first
      | (with_reducible exact Below.refl _ _)
      | (with_reducible assumption)
      | (with_reducible refine below_drewN ?_ _)
      | (with_reducible refine Below.drew ?_)
      | (with_reducible refine below_regrown_up _ _ ?_ ?_)
      | (with_reducible refine Below.alloc ?_ ?_ _)
      | (with_reducible refine Below.setCell ?_ ?_ _)
      | (with_reducible refine below_up ?_ ?_ (by assumption))
      | (with_reducible exact Nat.le_refl _)
      | omega
      | (simp; done)
      | (simp; omega))
  cases i3 : inB n 0 365
  case false =>
    go_enter Try.func21, Try.ntmps21
    go_wp2_with fail
    refine (rrvalid_any l A c _ (hs.up (by repeat' (first | (with_reducible exact Below.refl _ _) | (with_reducible assumption) | (with_reducible refine below_drewN ?_ _) | (with_reducible refine Below.drew ?_) | (with_reducible refine below_regrown_up _ _ ?_ ?_) | (with_reducible refine Below.alloc ?_ ?_ _) | (with_reducible refine Below.setCell ?_ ?_ _) | (with_reducible refine below_up ?_ ?_ (by assumption)) | (with_reducible exact Nat.le_refl _) | omega | (simp; done) | (simp; omega)))) hl hT).mono ?_
    rintro e w1 ⟨rfl, hb1⟩; have hz1 := hb1.size; (try simp only [World.size_alloc, World.size_setCell, World.size_drew, size_drewN', size_grow, size_redrawn] at hz1); obtain ⟨hc1, hf1⟩ := bcellB (B := w.heap.size) hb1 (by first | omega | (simp only [World.size_alloc, World.size_setCell, World.size_drew, size_drewN', size_grow, size_redrawn]; omega))
    rw [hv]
    go_wp2_with fail
    refine (r16_in_any _ _ _ _).mono ?_
    rintro e w2 ⟨rfl, rfl⟩
    rw [i1]
    go_wp2_with fail
    refine (r16_in_any _ _ _ _).mono ?_
    rintro e w2 ⟨rfl, rfl⟩
    rw [i2]
    go_wp2_with fail
    refine (r16_in_any _ _ _ _).mono ?_
    rintro e w2 ⟨rfl, rfl⟩
    rw [i3]
    go_wp2_with fail
    go_ret2
    refine ⟨rfl, ?_⟩
    repeat' (first
      | (with_reducible exact Below.refl _ _)
      | (with_reducible assumption)
      | (with_reducible refine below_drewN ?_ _)
      | (with_reducible refine Below.drew ?_)
      | (with_reducible refine below_regrown_up _ _ ?_ ?_)
      | (with_reducible refine Below.alloc ?_ ?_ _)
      | (with_reducible refine Below.setCell ?_ ?_ _)
      | (with_reducible refine below_up ?_ ?_ (by assumption))
      | (with_reducible exact Nat.le_refl _)
      | omega
      | (simp; done)
      | (simp; omega))
  rw [hv, i1, i2, i3] at hx
  cases hx
theorem cntM_step {l : List Room} {h k n : Int} {m : Nat} (hm : m < l.length) : cntM (l.take (m + 1)) h k n = cntM (l.take m) h k n + if (isHK h k l[m] && freeR l[m].blk (nightS n)) = true then 1 else 0 := by
  unfold cntM
  rw [List.take_succ_eq_append_getElem hm, List.countP_append]
  congr 1
  rw [List.countP_cons, List.countP_nil]
  simp
theorem rcount_ok (l : List Room) (A : Option Addr) (c : Nat) (h k n : Int) (w : World) (hs : SlRoom w A l) (hT : Tame l) (hv : roomsOk l = true) (i1 : inB h 1 20 = true) (i2 : inB k 1 20 = true) (i3 : inB n 0 365 = true) :
    Calls Try.prog 21 #[.slice A l.length c, .int .i64 h, .int .i64 k, .int .i64 n] w fun e w' => e = .returned (.tuple #[.int .i64 (cntM l h k n), .int .i64 0]) ∧ Below w.heap.size w w' := by
  have hl4 := (roomsOk_iff.1 hv).1
  have hn : 0 ≤ n ∧ n ≤ 365 := inB_iff.1 i3
  have hwrn : IntKind.i64.wrap (n + 1) = n + 1 := by rw [IntKind.wrap_i64]; omega
  have HT := Lib.hid hT
  clear hT
  go_enter Try.func21, Try.ntmps21
  go_wp2_with fail
  refine (rrvalid_any l A c _ hs (by omega) HT.out).mono ?_
  rintro e w1 ⟨rfl, hb1⟩; have hz1 := hb1.size; (try simp only [World.size_alloc, World.size_setCell, World.size_drew, size_drewN', size_grow, size_redrawn] at hz1); obtain ⟨hc1, hf1⟩ := bcellB (B := w.heap.size) hb1 (by first | omega | (simp only [World.size_alloc, World.size_setCell, World.size_drew, size_drewN', size_grow, size_redrawn]; omega))
  rw [hv]
  go_wp2_with fail
  refine (r16_in_any _ _ _ _).mono ?_
  rintro e w2 ⟨rfl, rfl⟩
  rw [i1]
  go_wp2_with fail
  refine (r16_in_any _ _ _ _).mono ?_
  rintro e w2 ⟨rfl, rfl⟩
  rw [i2]
  go_wp2_with fail
  refine (r16_in_any _ _ _ _).mono ?_
  rintro e w2 ⟨rfl, rfl⟩
  rw [i3]
  clear hc1 hf1
  go_wp2_with fail
  go_loopw [11, 12] (fun s i wr => ∃ m : Nat, m ≤ l.length ∧ i = .int .i64 m ∧ s = .int .i64 (cntM (l.take m) h k n) ∧ Below w.heap.size w wr) (fun _ i _ => l.length - (intOf i).toNat)
  case atStart => exact ⟨0, by omega, rfl, rfl, hb1⟩
  case round =>
    obtain ⟨m, hm, rfl, rfl, hbw⟩ := hrel
    have hbz := hbw.size
    by_cases hlt : m < l.length
    · have hs' := hs.up hbw
      obtain ⟨b, off, A', c', rfl, hbl, hcell, hsp⟩ := hs'.at_ hlt
      have q0 := hcell 0 _ rfl
      have q1 := hcell 1 _ rfl
      have q2 := hcell 2 _ rfl
      have q3 := hcell 3 _ rfl
      have q4 := hcell 4 _ rfl
      have q5 := hcell 5 _ rfl
      rw [Nat.add_zero] at q0
      clear hcell
      have hx1 : (m : Int) < (l.length : Int) := by omega
      have hx4 : (0 : Int) ≤ (m : Int) := by omega
      have hst := cntM_step (h := h) (k := k) (n := n) hlt
      have hle : cntM (l.take m) h k n ≤ 400 := by have := cnt_le (l.take m) h k n; rw [List.length_take] at this; omega
      have hwc : IntKind.i64.wrap ((cntM (l.take m) h k n : Int) + 1) = (cntM (l.take m) h k n : Int) + 1 := by rw [IntKind.wrap_i64]; omega
      cases hd : (l[m].house == h)
      · have HS : Hid (cntM (l.take (m + 1)) h k n = cntM (l.take m) h k n) := Lib.hid (by rw [hst]; unfold isHK; rw [hd]; rfl)
        clear hst
        go_wp2_with fail
        go_roundw
        case rel => exact ⟨m + 1, by omega, by go_num, by rw [HS.out], hbw⟩
        case measure => simp [intOf]; omega
      · cases hd2 : (l[m].kind == k)
        · have HS : Hid (cntM (l.take (m + 1)) h k n = cntM (l.take m) h k n) := Lib.hid (by rw [hst]; unfold isHK; rw [hd, hd2]; rfl)
          clear hst
          go_wp2_with fail
          go_roundw
          case rel => exact ⟨m + 1, by omega, by go_num, by rw [HS.out], hbw⟩
          case measure => simp [intOf]; omega
        · cases hf : freeR l[m].blk ⟨n, n + 1⟩
          · have HS : Hid (cntM (l.take (m + 1)) h k n = cntM (l.take m) h k n) := Lib.hid (by rw [hst]; unfold isHK; rw [hd, hd2, show freeR l[m].blk (nightS n) = false from hf]; rfl)
            clear hst
            go_wp2_with fail
            refine (rfree0_any l[m] A' c' ⟨n, n + 1⟩ _ hsp (HT.out.at_ hlt)).mono ?_
            rintro e w4 ⟨rfl, hb4⟩
            rw [hf]
            go_wp2_with fail
            go_roundw
            case rel => exact ⟨m + 1, by omega, by go_num, by rw [HS.out], below_up hbw hbz hb4⟩
            case measure => simp [intOf]; omega
          · have HS : Hid (cntM (l.take (m + 1)) h k n = cntM (l.take m) h k n + 1) := Lib.hid (by rw [hst]; unfold isHK; rw [hd, hd2, show freeR l[m].blk (nightS n) = true from hf]; rfl)
            clear hst
            go_wp2_with fail
            refine (rfree0_any l[m] A' c' ⟨n, n + 1⟩ _ hsp (HT.out.at_ hlt)).mono ?_
            rintro e w4 ⟨rfl, hb4⟩
            rw [hf]
            go_wp2_with fail
            go_roundw
            case rel => exact ⟨m + 1, by omega, by go_num, by rw [HS.out]; rfl, below_up hbw hbz hb4⟩
            case measure => simp [intOf]; omega
    · obtain rfl : m = l.length := by omega
      rw [List.take_of_length_le (Nat.le_refl _)]
      go_wp2_with fail
      go_ret2
      exact ⟨rfl, hbw⟩
theorem rcntm_any (l : List Room) (A : Option Addr) (c : Nat) (h k n : Int) (w : World) (hs : SlRoom w A l) (hl : l.length ≤ 140737488355328) (hT : Tame l) :
    Calls Try.prog 21 #[.slice A l.length c, .int .i64 h, .int .i64 k, .int .i64 n] w fun e w' => e = .returned (.tuple #[.int .i64 (countM l h k n).1, .int .i64 (countM l h k n).2]) ∧ Below w.heap.size w w' := by
  cases hx : (roomsOk l && inB h 1 20 && inB k 1 20 && inB n 0 365)
  · refine (rcount_bad l A c h k n w hs hl hT hx).mono fun e w' ⟨h1, h2⟩ => ⟨?_, h2⟩
    unfold countM
    rw [hx]
    exact h1
  · have hx' := hx
    rw [Bool.and_eq_true, Bool.and_eq_true, Bool.and_eq_true] at hx'
    obtain ⟨⟨⟨h1, h2⟩, h3⟩, h4⟩ := hx'
    refine (rcount_ok l A c h k n w hs hT h1 h2 h3 h4).mono fun e w' ⟨e1, e2⟩ => ⟨?_, e2⟩
    unfold countM
    rw [if_pos hx]
    exact e1
end Go.Proofs.Ytphapnooonjnmaa
