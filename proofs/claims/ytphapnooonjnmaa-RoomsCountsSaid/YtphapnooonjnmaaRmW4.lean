/-
  Package rooms and its reference: finding a room; whether a room is free.
-/
import Derived.Test.YtphapnooonjnmaaRmW2
import Derived.Test.YtphapnooonjnmaaRmW3
import Derived.Test.YtphapnooonjnmaaSpW8
namespace Go.Proofs.Ytphapnooonjnmaa
set_option linter.unusedSimpArgs false
set_option linter.unusedVariables false
open Go.RowKit
open Go.Sort (grow size_grow)

set_option maxHeartbeats 2000000
set_option maxRecDepth 100000
def findS (l : List Room) (a : Int) : Int × Bool × Int := if (roomsOk l && inB a 1 1000000) = true then (max 0 (idxR l a), decide (0 ≤ idxR l a), 0) else (0, false, 1)
theorem find_any (l : List Room) (A : Option Addr) (c : Nat) (a : Int) (w : World) (hs : SlRoom w A l) (hl : l.length ≤ 140737488355328) (hT : Tame l) :
    Calls Try.prog 11 #[.slice A l.length c, .int .i64 a] w fun e w' => e = .returned (.tuple #[.int .i64 (findS l a).1, .bool (findS l a).2.1, .int .i64 (findS l a).2.2]) ∧ Below w.heap.size w w' := by
  cases hv : roomsOk l
  · have HF : Hid (findS l a = (0, false, 1)) := Lib.hid (by unfold findS; rw [hv]; rfl)
    go_enter Try.func11, Try.ntmps11
    go_wp2_with fail
    refine (rmvalid_any l A c _ hs hl hT).mono ?_
    rintro e w1 ⟨rfl, hb1⟩; have hz1 := hb1.size; (try simp only [World.size_alloc, World.size_setCell, World.size_drew, size_drewN', size_grow, size_redrawn] at hz1); obtain ⟨hc1, hf1⟩ := bcellB (B := w.heap.size) hb1 (by first | omega | (simp only [World.size_alloc, World.size_setCell, World.size_drew, size_drewN', size_grow, size_redrawn]; omega))
    rw [hv]
    go_wp2_with fail
    go_ret3
    rw [HF.out]
    exact ⟨rfl, hb1⟩
  · cases hi : inB a 1 1000000
    · have HF : Hid (findS l a = (0, false, 1)) := Lib.hid (by unfold findS; rw [hv, hi]; rfl)
      go_enter Try.func11, Try.ntmps11
      go_wp2_with fail
      refine (rmvalid_any l A c _ hs hl hT).mono ?_
      rintro e w1 ⟨rfl, hb1⟩; have hz1 := hb1.size; (try simp only [World.size_alloc, World.size_setCell, World.size_drew, size_drewN', size_grow, size_redrawn] at hz1); obtain ⟨hc1, hf1⟩ := bcellB (B := w.heap.size) hb1 (by first | omega | (simp only [World.size_alloc, World.size_setCell, World.size_drew, size_drewN', size_grow, size_redrawn]; omega))
      rw [hv]
      go_wp2_with fail
      refine (rm_within_any _ _ _ _).mono ?_
      rintro e w2 ⟨rfl, rfl⟩
      rw [hi]
      go_wp2_with fail
      go_ret3
      rw [HF.out]
      exact ⟨rfl, hb1⟩
    · have HF : Hid (findS l a = (max 0 (idxR l a), decide (0 ≤ idxR l a), 0)) := Lib.hid (by unfold findS; rw [hv, hi]; rfl)
      have hix : idxR l a = -1 ∨ ∃ k : Nat, idxR l a = k := by
        rcases idxR_cases l a with ⟨h, _⟩ | ⟨k, _, h, _⟩
        · exact .inl h
        · exact .inr ⟨k, h⟩
      rcases hix with h | ⟨k, h⟩
      all_goals
        go_enter Try.func11, Try.ntmps11
        go_wp2_with fail
        refine (rmvalid_any l A c _ hs hl hT).mono ?_
        rintro e w1 ⟨rfl, hb1⟩; have hz1 := hb1.size; (try simp only [World.size_alloc, World.size_setCell, World.size_drew, size_drewN', size_grow, size_redrawn] at hz1); obtain ⟨hc1, hf1⟩ := bcellB (B := w.heap.size) hb1 (by first | omega | (simp only [World.size_alloc, World.size_setCell, World.size_drew, size_drewN', size_grow, size_redrawn]; omega))
        rw [hv]
        go_wp2_with fail
        refine (rm_within_any _ _ _ _).mono ?_
        rintro e w2 ⟨rfl, rfl⟩
        rw [hi]
        go_wp2_with fail
        refine (index_any l A c a _ (hs.up hb1) hl).mono ?_
        rintro e w3 ⟨rfl, hb3⟩; have hz3 := hb3.size; (try simp only [World.size_alloc, World.size_setCell, World.size_drew, size_drewN', size_grow, size_redrawn] at hz3); obtain ⟨hc3, hf3⟩ := bcellB (B := w.heap.size) hb3 (by first | omega | (simp only [World.size_alloc, World.size_setCell, World.size_drew, size_drewN', size_grow, size_redrawn]; omega))
        rw [h]
        rw [h] at HF
        go_wp2_with fail
        go_ret3
        rw [HF.out]
        refine ⟨?_, below_up hb1 hz1 hb3⟩
        first | rfl | (congr 4; omega) | (simp; done) | (simp; omega)
theorem rfind_any (l : List Room) (A : Option Addr) (c : Nat) (a : Int) (w : World) (hs : SlRoom w A l) (hl : l.length ≤ 140737488355328) (hT : Tame l) :
    Calls Try.prog 12 #[.slice A l.length c, .int .i64 a] w fun e w' => e = .returned (.tuple #[.int .i64 (findS l a).1, .bool (findS l a).2.1, .int .i64 (findS l a).2.2]) ∧ Below w.heap.size w w' := by
  cases hv : roomsOk l
  · have HF : Hid (findS l a = (0, false, 1)) := Lib.hid (by unfold findS; rw [hv]; rfl)
    go_enter Try.func12, Try.ntmps12
    go_wp2_with fail
    refine (rrvalid_any l A c _ hs hl hT).mono ?_
    rintro e w1 ⟨rfl, hb1⟩; have hz1 := hb1.size; (try simp only [World.size_alloc, World.size_setCell, World.size_drew, size_drewN', size_grow, size_redrawn] at hz1); obtain ⟨hc1, hf1⟩ := bcellB (B := w.heap.size) hb1 (by first | omega | (simp only [World.size_alloc, World.size_setCell, World.size_drew, size_drewN', size_grow, size_redrawn]; omega))
    rw [hv]
    go_wp2_with fail
    go_ret3
    rw [HF.out]
    exact ⟨rfl, hb1⟩
  · cases hi : inB a 1 1000000
    · have HF : Hid (findS l a = (0, false, 1)) := Lib.hid (by unfold findS; rw [hv, hi]; rfl)
      go_enter Try.func12, Try.ntmps12
      go_wp2_with fail
      refine (rrvalid_any l A c _ hs hl hT).mono ?_
      rintro e w1 ⟨rfl, hb1⟩; have hz1 := hb1.size; (try simp only [World.size_alloc, World.size_setCell, World.size_drew, size_drewN', size_grow, size_redrawn] at hz1); obtain ⟨hc1, hf1⟩ := bcellB (B := w.heap.size) hb1 (by first | omega | (simp only [World.size_alloc, World.size_setCell, World.size_drew, size_drewN', size_grow, size_redrawn]; omega))
      rw [hv]
      go_wp2_with fail
      refine (r16_in_any _ _ _ _).mono ?_
      rintro e w2 ⟨rfl, rfl⟩
      rw [hi]
      go_wp2_with fail
      go_ret3
      rw [HF.out]
      exact ⟨rfl, hb1⟩
    · have HF : Hid (findS l a = (max 0 (idxR l a), decide (0 ≤ idxR l a), 0)) := Lib.hid (by unfold findS; rw [hv, hi]; rfl)
      have hix : idxR l a = -1 ∨ ∃ k : Nat, idxR l a = k := by
        rcases idxR_cases l a with ⟨h, _⟩ | ⟨k, _, h, _⟩
        · exact .inl h
        · exact .inr ⟨k, h⟩
      rcases hix with h | ⟨k, h⟩
      all_goals
        go_enter Try.func12, Try.ntmps12
        go_wp2_with fail
        refine (rrvalid_any l A c _ hs hl hT).mono ?_
        rintro e w1 ⟨rfl, hb1⟩; have hz1 := hb1.size; (try simp only [World.size_alloc, World.size_setCell, World.size_drew, size_drewN', size_grow, size_redrawn] at hz1); obtain ⟨hc1, hf1⟩ := bcellB (B := w.heap.size) hb1 (by first | omega | (simp only [World.size_alloc, World.size_setCell, World.size_drew, size_drewN', size_grow, size_redrawn]; omega))
        rw [hv]
        go_wp2_with fail
        refine (r16_in_any _ _ _ _).mono ?_
        rintro e w2 ⟨rfl, rfl⟩
        rw [hi]
        go_wp2_with fail
        refine (rindex_any l A c a _ (hs.up hb1) hl).mono ?_
        rintro e w3 ⟨rfl, hb3⟩; have hz3 := hb3.size; (try simp only [World.size_alloc, World.size_setCell, World.size_drew, size_drewN', size_grow, size_redrawn] at hz3); obtain ⟨hc3, hf3⟩ := bcellB (B := w.heap.size) hb3 (by first | omega | (simp only [World.size_alloc, World.size_setCell, World.size_drew, size_drewN', size_grow, size_redrawn]; omega))
        rw [h]
        rw [h] at HF
        go_wp2_with fail
        go_ret3
        rw [HF.out]
        refine ⟨?_, below_up hb1 hz1 hb3⟩
        first | rfl | (congr 4; omega) | (simp; done) | (simp; omega)
theorem overlap_any (a s : Spn) (w : World) : Calls Try.prog 46 #[a.v, s.v] w fun e w' => e = .returned (.bool (hits a s)) ∧ Below w.heap.size w w' := by
  cases h0 : decide (a.frm < s.til) <;> cases h1 : decide (s.frm < a.til)
  all_goals
    go_enter Try.func46, Try.ntmps46
    go_wp2
    go_ret
    refine ⟨ret_bool ?_, ?_⟩
    · unfold hits
      simp only [decide_eq_true_eq, decide_eq_false_iff_not] at h0 h1
      first
        | exact (decide_eq_true ⟨h0, h1⟩).symm
        | exact (decide_eq_false (by omega)).symm
    · repeat' (first
        | (with_reducible exact Below.refl _ _)
        | (with_reducible assumption)
        | (with_reducible refine below_drewN ?_ _)
        | (with_reducible refine Below.drew ?_)
        | (with_reducible refine below_regrown_up _ _ ?_ ?_)
        | (with_reducible refine Below.alloc ?_ ?_ _)
        | (with_reducible refine Below.setCell ?_ ?_ _)
        | (with_reducible refine below_up ?_ ?_ (by assumption))
        | (with_reducible exact Nat.le_refl _)
        | omega
        | (simp; done)
        | (simp; omega))
theorem free_hit {l : List Spn} {s : Spn} {m : Nat} (hm : m < l.length) (h : hits l[m] s = true) : freeR l s = false := by
  unfold freeR
  rw [List.any_eq_true.2 ⟨_, List.getElem_mem hm, h⟩]
  rfl
theorem free_all {l : List Spn} {s : Spn} (h : ∀ j (h : j < l.length), hits l[j] s = false) : freeR l s = true := by
  unfold freeR
  rw [Bool.not_eq_true', List.any_eq_false]
  intro b hb
  obtain ⟨j, hj, rfl⟩ := List.getElem_of_mem hb
  rw [h j hj]
  simp
theorem rfree0_any (r : Room) (A : Option Addr) (c : Nat) (s : Spn) (w : World) (hs : SlSpn w A r.blk) (hl : r.blk.length ≤ 400) :
    Calls Try.prog 34 #[r.v A c, s.v] w fun e w' => e = .returned (.bool (freeR r.blk s)) ∧ Below w.heap.size w w' := by
  go_enter Try.func34, Try.ntmps34
  go_wp2
  go_loopw [5] (fun k wr => ∃ m : Nat, m ≤ r.blk.length ∧ k = .int .i64 m ∧ Hid (∀ j (h : j < r.blk.length), j < m → hits r.blk[j] s = false) ∧ (∀ o, wr.cell? ⟨w.heap.size, o, none⟩ = (#[Value.int .i64 r.id, .int .i64 r.house, .int .i64 r.kind, .int .i64 r.joins, .bool r.acc, .slice A r.blk.length c] : Array Value)[o]?) ∧ (∀ o, wr.cell? ⟨w.heap.size + 1, o, none⟩ = (#[Value.int .i64 s.frm, .int .i64 s.til] : Array Value)[o]?) ∧ w.heap.size + 1 < wr.heap.size ∧ Below w.heap.size w wr) (fun k _ => r.blk.length - (intOf k).toNat)
  case atStart => exact ⟨0, by omega, rfl, Lib.hid (fun j _ h => absurd h (by omega)), fun o => by go_simp, fun o => by go_simp, by simp, (by repeat' (first | (with_reducible exact Below.refl _ _) | (with_reducible assumption) | (with_reducible refine below_drewN ?_ _) | (with_reducible refine Below.drew ?_) | (with_reducible refine below_regrown_up _ _ ?_ ?_) | (with_reducible refine Below.alloc ?_ ?_ _) | (with_reducible refine Below.setCell ?_ ?_ _) | (with_reducible refine below_up ?_ ?_ (by assumption)) | (with_reducible exact Nat.le_refl _) | omega | (simp; done) | (simp; omega)))⟩
  case round =>
    obtain ⟨m, hm, rfl, hn, hc0, hc1, hsz, hbw⟩ := hrel
    have hbz := hbw.size
    have p5 : wr.cell? ⟨w.heap.size, 5, none⟩ = some (.slice A r.blk.length c) := hc0 5
    have s0 : wr.cell? ⟨w.heap.size + 1, 0, none⟩ = some (.int .i64 s.frm) := hc1 0
    have s1 : wr.cell? ⟨w.heap.size + 1, 1, none⟩ = some (.int .i64 s.til) := hc1 1
    by_cases hlt : m < r.blk.length
    · obtain ⟨b, off, rfl, hbl, hcell⟩ := (hs.below hbw).at_ hlt
      have q0 := hcell 0 _ rfl
      have q1 := hcell 1 _ rfl
      rw [Nat.add_zero] at q0
      clear hcell
      have hx1 : (m : Int) < (r.blk.length : Int) := by omega
      have hx4 : (0 : Int) ≤ (m : Int) := by omega
      have hz0 : w.heap.size < wr.heap.size := by omega
      have hbl' : b < wr.heap.size := by omega
      have HC0 := Lib.hid hc0
      have HC1 := Lib.hid hc1
      clear hc0 hc1
      cases hok : hits r.blk[m] s
      · go_wp2_with fail
        have hgr := regrown_cells wr (B := wr.heap.size) (by omega)
        refine wp_region_quiet_below (by kernel_rfl) (by kernel_rfl) ?_
        repeat (quiet_step ((go_at_call 46; exact quiet_b (overlap_any _ _ _))))
        refine wpQuiet_nil ?_
        intro _ hw'
        obtain ⟨⟨dq, osq⟩, hw''⟩ := hw'
        subst hw''
        have hb3 := below_regrown wr dq osq
        clear hgr
        generalize grow (redrawn wr dq) osq = w3 at hb3 ⊢
        have hz3 := hb3.size
        (try simp only [World.size_alloc, World.size_setCell, World.size_drew, size_drewN', size_grow, size_redrawn] at hz3)
        obtain ⟨hc3, hf3⟩ := bcellB (B := wr.heap.size) hb3 (by first | omega | (simp only [World.size_alloc, World.size_setCell, World.size_drew, size_drewN', size_grow, size_redrawn]; omega))
        rw [hok]
        go_wp2_with fail
        go_roundw
        case rel =>
          refine ⟨m + 1, by omega, by go_num, Lib.hid (fun j h hj => ?_), fun o => (hc3 _ _ (by omega)).trans (HC0.out o), fun o => (hc3 _ _ (by omega)).trans (HC1.out o), by omega, ?_⟩
          · by_cases e : j = m
            · subst e; exact hok
            · exact hn.out j h (by omega)
          · repeat' (first
              | (with_reducible exact Below.refl _ _)
              | (with_reducible assumption)
              | (with_reducible refine below_drewN ?_ _)
              | (with_reducible refine Below.drew ?_)
              | (with_reducible refine below_regrown_up _ _ ?_ ?_)
              | (with_reducible refine Below.alloc ?_ ?_ _)
              | (with_reducible refine Below.setCell ?_ ?_ _)
              | (with_reducible refine below_up ?_ ?_ (by assumption))
              | (with_reducible exact Nat.le_refl _)
              | omega
              | (simp; done)
              | (simp; omega))
        case measure => simp [intOf]; omega
      · have HR := Lib.hid (free_hit hlt hok)
        go_wp2_with fail
        have hgr := regrown_cells wr (B := wr.heap.size) (by omega)
        refine wp_region_quiet_below (by kernel_rfl) (by kernel_rfl) ?_
        repeat (quiet_step ((go_at_call 46; exact quiet_b (overlap_any _ _ _))))
        refine wpQuiet_nil ?_
        intro _ hw'
        obtain ⟨⟨dq, osq⟩, hw''⟩ := hw'
        subst hw''
        have hb3 := below_regrown wr dq osq
        clear hgr
        generalize grow (redrawn wr dq) osq = w3 at hb3 ⊢
        have hz3 := hb3.size
        (try simp only [World.size_alloc, World.size_setCell, World.size_drew, size_drewN', size_grow, size_redrawn] at hz3)
        obtain ⟨hc3, hf3⟩ := bcellB (B := wr.heap.size) hb3 (by first | omega | (simp only [World.size_alloc, World.size_setCell, World.size_drew, size_drewN', size_grow, size_redrawn]; omega))
        rw [hok]
        go_wp2_with fail
        go_ret
        refine ⟨ret_bool (by rw [HR.out]), ?_⟩
        repeat' (first
          | (with_reducible exact Below.refl _ _)
          | (with_reducible assumption)
          | (with_reducible refine below_drewN ?_ _)
          | (with_reducible refine Below.drew ?_)
          | (with_reducible refine below_regrown_up _ _ ?_ ?_)
          | (with_reducible refine Below.alloc ?_ ?_ _)
          | (with_reducible refine Below.setCell ?_ ?_ _)
          | (with_reducible refine below_up ?_ ?_ (by assumption))
          | (with_reducible exact Nat.le_refl _)
          | omega
          | (simp; done)
          | (simp; omega))
    · obtain rfl : m = r.blk.length := by omega
      have HR := Lib.hid (free_all (s := s) (fun j h => hn.out j h h))
      go_wp2_with fail
      go_ret
      exact ⟨ret_bool (by rw [HR.out]), hbw⟩
theorem free0_any (r : Room) (A : Option Addr) (c : Nat) (s : Spn) (w : World) (hs : SlSpn w A r.blk) (hl : r.blk.length ≤ 400) (hv : setOk r.blk = true) (hp : s.ok = true) :
    Calls Try.prog 33 #[r.v A c, s.v] w fun e w' => e = .returned (.bool (freeR r.blk s)) ∧ Below w.heap.size w w' := by
  have hsv : setOk [s] = true := by rw [setOk_one]; exact hp
  go_enter Try.func33, Try.ntmps33
  go_wp2_with fail
  refine (meet_any r.blk [s] A (some ⟨w.heap.size + 1 + 1, 0, none⟩) c 1 _ (hs.up (by repeat' (first | (with_reducible exact Below.refl _ _) | (with_reducible assumption) | (with_reducible refine below_drewN ?_ _) | (with_reducible refine Below.drew ?_) | (with_reducible refine below_regrown_up _ _ ?_ ?_) | (with_reducible refine Below.alloc ?_ ?_ _) | (with_reducible refine Below.setCell ?_ ?_ _) | (with_reducible refine below_up ?_ ?_ (by assumption)) | (with_reducible exact Nat.le_refl _) | omega | (simp; done) | (simp; omega)))) (oneSpn s _ _ (by simp)) (by omega) (by simp) (fun _ _ => by simp; omega)).mono ?_
  rintro e w1 ⟨hC, hb1⟩
  unfold CombR at hC
  rw [hv, hsv, if_pos (by rfl)] at hC
  obtain ⟨r', A', c', rfl, _, hcb, hlr⟩ := hC
  have hz1 := hb1.size
  (try simp only [World.size_alloc] at hz1)
  have HF : Hid (((r'.length : Int) == 0) = freeR r.blk s) := Lib.hid (by
    rw [← free_meet (setOk_norm hv) (Spn.ok_iff.1 hp).2.1 hcb, Bool.eq_iff_iff, beq_iff_eq, decide_eq_true_eq]
    constructor
    · exact fun h => List.eq_nil_of_length_eq_zero (by omega)
    · rintro rfl; rfl)
  clear hlr hcb
  go_wp2_with fail
  go_ret
  refine ⟨ret_bool (by rw [← HF.out]), ?_⟩
  repeat' (first
    | (with_reducible exact Below.refl _ _)
    | (with_reducible assumption)
    | (with_reducible refine below_drewN ?_ _)
    | (with_reducible refine Below.drew ?_)
    | (with_reducible refine below_regrown_up _ _ ?_ ?_)
    | (with_reducible refine Below.alloc ?_ ?_ _)
    | (with_reducible refine Below.setCell ?_ ?_ _)
    | (with_reducible refine below_up ?_ ?_ (by assumption))
    | (with_reducible exact Nat.le_refl _)
    | omega
    | (simp; done)
    | (simp; omega))
def freeS (r : Room) (s : Spn) : Bool × Int := if (r.ok && perOk s) = true then (freeR r.blk s, 0) else (false, 1)
theorem free_any (r : Room) (A : Option Addr) (c : Nat) (s : Spn) (w : World) (hs : SlSpn w A r.blk) (hl : r.blk.length ≤ 400) :
    Calls Try.prog 15 #[r.v A c, s.v] w fun e w' => e = .returned (.tuple #[.bool (freeS r s).1, .int .i64 (freeS r s).2]) ∧ Below w.heap.size w w' := by
  cases hv : r.ok
  · have HF : Hid (freeS r s = (false, 1)) := Lib.hid (by unfold freeS; rw [hv]; rfl)
    go_enter Try.func15, Try.ntmps15
    go_wp2_with fail
    refine (formed_any r A c _ (hs.up (by repeat' (first | (with_reducible exact Below.refl _ _) | (with_reducible assumption) | (with_reducible refine below_drewN ?_ _) | (with_reducible refine Below.drew ?_) | (with_reducible refine below_regrown_up _ _ ?_ ?_) | (with_reducible refine Below.alloc ?_ ?_ _) | (with_reducible refine Below.setCell ?_ ?_ _) | (with_reducible refine below_up ?_ ?_ (by assumption)) | (with_reducible exact Nat.le_refl _) | omega | (simp; done) | (simp; omega)))) hl).mono ?_
    rintro e w1 ⟨rfl, hb1⟩; have hz1 := hb1.size; (try simp only [World.size_alloc, World.size_setCell, World.size_drew, size_drewN', size_grow, size_redrawn] at hz1); obtain ⟨hc1, hf1⟩ := bcellB (B := w.heap.size + 1 + 1) hb1 (by first | omega | (simp only [World.size_alloc, World.size_setCell, World.size_drew, size_drewN', size_grow, size_redrawn]; omega))
    rw [hv]
    go_wp2_with fail
    go_ret2
    rw [HF.out]
    refine ⟨rfl, ?_⟩
    repeat' (first
      | (with_reducible exact Below.refl _ _)
      | (with_reducible assumption)
      | (with_reducible refine below_drewN ?_ _)
      | (with_reducible refine Below.drew ?_)
      | (with_reducible refine below_regrown_up _ _ ?_ ?_)
      | (with_reducible refine Below.alloc ?_ ?_ _)
      | (with_reducible refine Below.setCell ?_ ?_ _)
      | (with_reducible refine below_up ?_ ?_ (by assumption))
      | (with_reducible exact Nat.le_refl _)
      | omega
      | (simp; done)
      | (simp; omega))
  · cases hi : perOk s
    · have HF : Hid (freeS r s = (false, 1)) := Lib.hid (by unfold freeS; rw [hv, hi]; rfl)
      go_enter Try.func15, Try.ntmps15
      go_wp2_with fail
      refine (formed_any r A c _ (hs.up (by repeat' (first | (with_reducible exact Below.refl _ _) | (with_reducible assumption) | (with_reducible refine below_drewN ?_ _) | (with_reducible refine Below.drew ?_) | (with_reducible refine below_regrown_up _ _ ?_ ?_) | (with_reducible refine Below.alloc ?_ ?_ _) | (with_reducible refine Below.setCell ?_ ?_ _) | (with_reducible refine below_up ?_ ?_ (by assumption)) | (with_reducible exact Nat.le_refl _) | omega | (simp; done) | (simp; omega)))) hl).mono ?_
      rintro e w1 ⟨rfl, hb1⟩; have hz1 := hb1.size; (try simp only [World.size_alloc, World.size_setCell, World.size_drew, size_drewN', size_grow, size_redrawn] at hz1); obtain ⟨hc1, hf1⟩ := bcellB (B := w.heap.size + 1 + 1) hb1 (by first | omega | (simp only [World.size_alloc, World.size_setCell, World.size_drew, size_drewN', size_grow, size_redrawn]; omega))
      rw [hv]
      go_wp2_with fail
      refine (isPeriod_any s _).mono ?_
      rintro e w2 ⟨rfl, hb2⟩; have hz2 := hb2.size; (try simp only [World.size_alloc, World.size_setCell, World.size_drew, size_drewN', size_grow, size_redrawn] at hz2); obtain ⟨hc2, hf2⟩ := bcellB (B := w.heap.size + 1 + 1) hb2 (by first | omega | (simp only [World.size_alloc, World.size_setCell, World.size_drew, size_drewN', size_grow, size_redrawn]; omega))
      rw [hi]
      go_wp2_with fail
      go_ret2
      rw [HF.out]
      refine ⟨rfl, ?_⟩
      repeat' (first
        | (with_reducible exact Below.refl _ _)
        | (with_reducible assumption)
        | (with_reducible refine below_drewN ?_ _)
        | (with_reducible refine Below.drew ?_)
        | (with_reducible refine below_regrown_up _ _ ?_ ?_)
        | (with_reducible refine Below.alloc ?_ ?_ _)
        | (with_reducible refine Below.setCell ?_ ?_ _)
        | (with_reducible refine below_up ?_ ?_ (by assumption))
        | (with_reducible exact Nat.le_refl _)
        | omega
        | (simp; done)
        | (simp; omega))
    · have HF : Hid (freeS r s = (freeR r.blk s, 0)) := Lib.hid (by unfold freeS; rw [hv, hi]; rfl)
      have hsok : s.ok = true := Spn.ok_iff.2 (by have := perOk_iff.1 hi; omega)
      have hset := (Room.ok_iff.1 hv).2.1
      go_enter Try.func15, Try.ntmps15
      go_wp2_with fail
      refine (formed_any r A c _ (hs.up (by repeat' (first | (with_reducible exact Below.refl _ _) | (with_reducible assumption) | (with_reducible refine below_drewN ?_ _) | (with_reducible refine Below.drew ?_) | (with_reducible refine below_regrown_up _ _ ?_ ?_) | (with_reducible refine Below.alloc ?_ ?_ _) | (with_reducible refine Below.setCell ?_ ?_ _) | (with_reducible refine below_up ?_ ?_ (by assumption)) | (with_reducible exact Nat.le_refl _) | omega | (simp; done) | (simp; omega)))) hl).mono ?_
      rintro e w1 ⟨rfl, hb1⟩; have hz1 := hb1.size; (try simp only [World.size_alloc, World.size_setCell, World.size_drew, size_drewN', size_grow, size_redrawn] at hz1); obtain ⟨hc1, hf1⟩ := bcellB (B := w.heap.size + 1 + 1) hb1 (by first | omega | (simp only [World.size_alloc, World.size_setCell, World.size_drew, size_drewN', size_grow, size_redrawn]; omega))
      rw [hv]
      have HB1 : Below w.heap.size w w1 := (by repeat' (first | (with_reducible exact Below.refl _ _) | (with_reducible assumption) | (with_reducible refine below_drewN ?_ _) | (with_reducible refine Below.drew ?_) | (with_reducible refine below_regrown_up _ _ ?_ ?_) | (with_reducible refine Below.alloc ?_ ?_ _) | (with_reducible refine Below.setCell ?_ ?_ _) | (with_reducible refine below_up ?_ ?_ (by assumption)) | (with_reducible exact Nat.le_refl _) | omega | (simp; done) | (simp; omega)))
      go_wp2_with fail
      refine (isPeriod_any s _).mono ?_
      rintro e w2 ⟨rfl, hb2⟩; have hz2 := hb2.size; (try simp only [World.size_alloc, World.size_setCell, World.size_drew, size_drewN', size_grow, size_redrawn] at hz2); obtain ⟨hc2, hf2⟩ := bcellB (B := w.heap.size + 1 + 1) hb2 (by first | omega | (simp only [World.size_alloc, World.size_setCell, World.size_drew, size_drewN', size_grow, size_redrawn]; omega))
      rw [hi]
      have HB2 : Below w.heap.size w w2 := below_up HB1 (by omega) hb2
      go_wp2_with fail
      refine (free0_any r A c s _ (hs.up HB2) hl hset hsok).mono ?_
      rintro e w3 ⟨rfl, hb3⟩; have hz3 := hb3.size; (try simp only [World.size_alloc, World.size_setCell, World.size_drew, size_drewN', size_grow, size_redrawn] at hz3); obtain ⟨hc3, hf3⟩ := bcellB (B := w.heap.size) hb3 (by first | omega | (simp only [World.size_alloc, World.size_setCell, World.size_drew, size_drewN', size_grow, size_redrawn]; omega))
      go_wp2_with fail
      go_ret2
      rw [HF.out]
      exact ⟨rfl, below_up HB2 (by omega) hb3⟩
theorem rfree_any (r : Room) (A : Option Addr) (c : Nat) (s : Spn) (w : World) (hs : SlSpn w A r.blk) (hl : r.blk.length ≤ 400) :
    Calls Try.prog 16 #[r.v A c, s.v] w fun e w' => e = .returned (.tuple #[.bool (freeS r s).1, .int .i64 (freeS r s).2]) ∧ Below w.heap.size w w' := by
  cases hv : r.ok
  · have HF : Hid (freeS r s = (false, 1)) := Lib.hid (by unfold freeS; rw [hv]; rfl)
    go_enter Try.func16, Try.ntmps16
    go_wp2_with fail
    refine (rroom_any r A c _ (hs.up (by repeat' (first | (with_reducible exact Below.refl _ _) | (with_reducible assumption) | (with_reducible refine below_drewN ?_ _) | (with_reducible refine Below.drew ?_) | (with_reducible refine below_regrown_up _ _ ?_ ?_) | (with_reducible refine Below.alloc ?_ ?_ _) | (with_reducible refine Below.setCell ?_ ?_ _) | (with_reducible refine below_up ?_ ?_ (by assumption)) | (with_reducible exact Nat.le_refl _) | omega | (simp; done) | (simp; omega)))) hl).mono ?_
    rintro e w1 ⟨rfl, hb1⟩; have hz1 := hb1.size; (try simp only [World.size_alloc, World.size_setCell, World.size_drew, size_drewN', size_grow, size_redrawn] at hz1); obtain ⟨hc1, hf1⟩ := bcellB (B := w.heap.size + 1 + 1) hb1 (by first | omega | (simp only [World.size_alloc, World.size_setCell, World.size_drew, size_drewN', size_grow, size_redrawn]; omega))
    rw [hv]
    go_wp2_with fail
    go_ret2
    rw [HF.out]
    refine ⟨rfl, ?_⟩
    repeat' (first
      | (with_reducible exact Below.refl _ _)
      | (with_reducible assumption)
      | (with_reducible refine below_drewN ?_ _)
      | (with_reducible refine Below.drew ?_)
      | (with_reducible refine below_regrown_up _ _ ?_ ?_)
      | (with_reducible refine Below.alloc ?_ ?_ _)
      | (with_reducible refine Below.setCell ?_ ?_ _)
      | (with_reducible refine below_up ?_ ?_ (by assumption))
      | (with_reducible exact Nat.le_refl _)
      | omega
      | (simp; done)
      | (simp; omega))
  · cases hi : perOk s
    · have HF : Hid (freeS r s = (false, 1)) := Lib.hid (by unfold freeS; rw [hv, hi]; rfl)
      go_enter Try.func16, Try.ntmps16
      go_wp2_with fail
      refine (rroom_any r A c _ (hs.up (by repeat' (first | (with_reducible exact Below.refl _ _) | (with_reducible assumption) | (with_reducible refine below_drewN ?_ _) | (with_reducible refine Below.drew ?_) | (with_reducible refine below_regrown_up _ _ ?_ ?_) | (with_reducible refine Below.alloc ?_ ?_ _) | (with_reducible refine Below.setCell ?_ ?_ _) | (with_reducible refine below_up ?_ ?_ (by assumption)) | (with_reducible exact Nat.le_refl _) | omega | (simp; done) | (simp; omega)))) hl).mono ?_
      rintro e w1 ⟨rfl, hb1⟩; have hz1 := hb1.size; (try simp only [World.size_alloc, World.size_setCell, World.size_drew, size_drewN', size_grow, size_redrawn] at hz1); obtain ⟨hc1, hf1⟩ := bcellB (B := w.heap.size + 1 + 1) hb1 (by first | omega | (simp only [World.size_alloc, World.size_setCell, World.size_drew, size_drewN', size_grow, size_redrawn]; omega))
      rw [hv]
      go_wp2_with fail
      refine (rperiod_any s _).mono ?_
      rintro e w2 ⟨rfl, hb2⟩; have hz2 := hb2.size; (try simp only [World.size_alloc, World.size_setCell, World.size_drew, size_drewN', size_grow, size_redrawn] at hz2); obtain ⟨hc2, hf2⟩ := bcellB (B := w.heap.size + 1 + 1) hb2 (by first | omega | (simp only [World.size_alloc, World.size_setCell, World.size_drew, size_drewN', size_grow, size_redrawn]; omega))
      rw [hi]
      go_wp2_with fail
      go_ret2
      rw [HF.out]
      refine ⟨rfl, ?_⟩
      repeat' (first
        | (with_reducible exact Below.refl _ _)
        | (with_reducible assumption)
        | (with_reducible refine below_drewN ?_ _)
        | (with_reducible refine Below.drew ?_)
        | (with_reducible refine below_regrown_up _ _ ?_ ?_)
        | (with_reducible refine Below.alloc ?_ ?_ _)
        | (with_reducible refine Below.setCell ?_ ?_ _)
        | (with_reducible refine below_up ?_ ?_ (by assumption))
        | (with_reducible exact Nat.le_refl _)
        | omega
        | (simp; done)
        | (simp; omega))
    · have HF : Hid (freeS r s = (freeR r.blk s, 0)) := Lib.hid (by unfold freeS; rw [hv, hi]; rfl)
      have hsok : s.ok = true := Spn.ok_iff.2 (by have := perOk_iff.1 hi; omega)
      have hset := (Room.ok_iff.1 hv).2.1
      go_enter Try.func16, Try.ntmps16
      go_wp2_with fail
      refine (rroom_any r A c _ (hs.up (by repeat' (first | (with_reducible exact Below.refl _ _) | (with_reducible assumption) | (with_reducible refine below_drewN ?_ _) | (with_reducible refine Below.drew ?_) | (with_reducible refine below_regrown_up _ _ ?_ ?_) | (with_reducible refine Below.alloc ?_ ?_ _) | (with_reducible refine Below.setCell ?_ ?_ _) | (with_reducible refine below_up ?_ ?_ (by assumption)) | (with_reducible exact Nat.le_refl _) | omega | (simp; done) | (simp; omega)))) hl).mono ?_
      rintro e w1 ⟨rfl, hb1⟩; have hz1 := hb1.size; (try simp only [World.size_alloc, World.size_setCell, World.size_drew, size_drewN', size_grow, size_redrawn] at hz1); obtain ⟨hc1, hf1⟩ := bcellB (B := w.heap.size + 1 + 1) hb1 (by first | omega | (simp only [World.size_alloc, World.size_setCell, World.size_drew, size_drewN', size_grow, size_redrawn]; omega))
      rw [hv]
      have HB1 : Below w.heap.size w w1 := (by repeat' (first | (with_reducible exact Below.refl _ _) | (with_reducible assumption) | (with_reducible refine below_drewN ?_ _) | (with_reducible refine Below.drew ?_) | (with_reducible refine below_regrown_up _ _ ?_ ?_) | (with_reducible refine Below.alloc ?_ ?_ _) | (with_reducible refine Below.setCell ?_ ?_ _) | (with_reducible refine below_up ?_ ?_ (by assumption)) | (with_reducible exact Nat.le_refl _) | omega | (simp; done) | (simp; omega)))
      go_wp2_with fail
      refine (rperiod_any s _).mono ?_
      rintro e w2 ⟨rfl, hb2⟩; have hz2 := hb2.size; (try simp only [World.size_alloc, World.size_setCell, World.size_drew, size_drewN', size_grow, size_redrawn] at hz2); obtain ⟨hc2, hf2⟩ := bcellB (B := w.heap.size + 1 + 1) hb2 (by first | omega | (simp only [World.size_alloc, World.size_setCell, World.size_drew, size_drewN', size_grow, size_redrawn]; omega))
      rw [hi]
      have HB2 : Below w.heap.size w w2 := below_up HB1 (by omega) hb2
      go_wp2_with fail
      refine (rfree0_any r A c s _ (hs.up HB2) hl).mono ?_
      rintro e w3 ⟨rfl, hb3⟩; have hz3 := hb3.size; (try simp only [World.size_alloc, World.size_setCell, World.size_drew, size_drewN', size_grow, size_redrawn] at hz3); obtain ⟨hc3, hf3⟩ := bcellB (B := w.heap.size) hb3 (by first | omega | (simp only [World.size_alloc, World.size_setCell, World.size_drew, size_drewN', size_grow, size_redrawn]; omega))
      go_wp2_with fail
      go_ret2
      rw [HF.out]
      exact ⟨rfl, below_up HB2 (by omega) hb3⟩
end Go.Proofs.Ytphapnooonjnmaa
