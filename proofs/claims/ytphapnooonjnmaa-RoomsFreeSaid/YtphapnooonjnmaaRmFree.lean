/-
  The law 'RoomsFree': the walk.
-/
import Derived.Test.YtphapnooonjnmaaRmHead
import Derived.Test.YtphapnooonjnmaaRmUse
namespace Go.Proofs.Ytphapnooonjnmaa
set_option linter.unusedSimpArgs false
set_option linter.unusedVariables false
open Go.RowKit
open Go.Sort (grow size_grow)

set_option maxHeartbeats 4000000
set_option maxRecDepth 100000
def allF (l : List Spn) (a : Int) : Nat → Bool
  | 0 => true
  | m + 1 => allF l a m && !has l (a + (m : Int))
theorem allF_iff {l : List Spn} {a : Int} : ∀ {m : Nat}, allF l a m = true ↔ ∀ n, a ≤ n → n < a + (m : Int) → has l n = false
  | 0 => by
    unfold allF
    constructor
    · intro _ n h1 h2; omega
    · intro _; rfl
  | m + 1 => by
    unfold allF
    rw [Bool.and_eq_true, allF_iff, Bool.not_eq_true']
    constructor
    · rintro ⟨h1, h2⟩ n h3 h4
      by_cases e : n = a + (m : Int)
      · rw [e]; exact h2
      · exact h1 n h3 (by omega)
    · intro h
      exact ⟨fun n h1 h2 => h n h1 (by omega), h _ (by omega) (by omega)⟩
theorem free_allF {l : List Spn} (hl : Norm l) {s : Spn} (hs : s.frm < s.til) {m : Nat} (hm : (m : Int) = s.til - s.frm) : freeR l s = allF l s.frm m := by
  rw [Bool.eq_iff_iff, free_has hl hs, allF_iff]
  constructor
  · intro h n h1 h2; exact h n h1 (by omega)
  · intro h n h1 h2; exact h n h1 (by omega)
theorem oneRoomF (r : Room) (A : Option Addr) (c : Nat) (w : World) (n : Nat) (h : w.heap.size = n) (hs : SlSpn w A r.blk) : SlRoom (w.alloc (.cells #[.int .i64 r.id, .int .i64 r.house, .int .i64 r.kind, .int .i64 r.joins, .bool r.acc, .slice A r.blk.length c] 25)) (some ⟨n, 0, none⟩) [r] := by
  subst h
  intro _
  refine ⟨w.heap.size, 0, rfl, by simp, fun k hk => ?_⟩
  match k, hk with
  | 0, _ =>
    refine ⟨A, c, fun j v hv => ?_, hs.up ((Below.refl _ _).alloc (Nat.le_refl _) _)⟩
    rw [World.cell?_alloc_at _ _ _ _ (by simp)]
    match j, hv with
    | 0, hv => exact hv
    | 1, hv => exact hv
    | 2, hv => exact hv
    | 3, hv => exact hv
    | 4, hv => exact hv
    | 5, hv => exact hv
theorem law_rmfree (r : Room) (A : Option Addr) (c : Nat) (s : Spn) (w : World) (hs : SlSpn w A r.blk) (hi : -9223372036854775808 ≤ r.id ∧ r.id ≤ 9223372036854775807) :
    Calls Try.prog 5 #[r.v A c, s.v] w fun e w' => e = .returned (.bool true) ∧ Below w.heap.size w w' := by
  go_enter Try.func5, Try.ntmps5
  go_wp2_with fail
  refine (head16_any _).mono ?_
  rintro e w1 ⟨rfl, hb1⟩; have hz1 := hb1.size; (try simp only [World.size_alloc, World.size_setCell, World.size_drew, size_drewN', size_grow, size_redrawn] at hz1); obtain ⟨hc1, hf1⟩ := bcellB (B := w.heap.size + 1 + 1) hb1 (by first | omega | (simp only [World.size_alloc, World.size_setCell, World.size_drew, size_drewN', size_grow, size_redrawn]; omega))
  have B1 : Below w.heap.size w w1 := (by repeat' (first | (with_reducible exact Below.refl _ _) | (with_reducible assumption) | (with_reducible refine below_drewN ?_ _) | (with_reducible refine Below.drew ?_) | (with_reducible refine below_regrown_up _ _ ?_ ?_) | (with_reducible refine Below.alloc ?_ ?_ _) | (with_reducible refine Below.setCell ?_ ?_ _) | (with_reducible refine below_up ?_ ?_ (by assumption)) | (with_reducible exact Nat.le_refl _) | omega | (simp; done) | (simp; omega)))
  go_wp2_with fail
  refine (few16_any [r] (some ⟨w1.heap.size, 0, none⟩) 1 _ (oneRoomF r A c w1 _ rfl (hs.up B1))).mono ?_
  rintro e w2 ⟨rfl, b2'⟩
  have b2 : Below w1.heap.size w1 w2 := below_up ((Below.refl _ _).alloc (Nat.le_refl _) _) (by simp) b2'
  clear b2'
  have x01 : w1.cell? ⟨w.heap.size, 0, none⟩ = some (.int .i64 r.id) := by go_simp
  have x11 : w1.cell? ⟨w.heap.size, 1, none⟩ = some (.int .i64 r.house) := by go_simp
  have x21 : w1.cell? ⟨w.heap.size, 2, none⟩ = some (.int .i64 r.kind) := by go_simp
  have x31 : w1.cell? ⟨w.heap.size, 3, none⟩ = some (.int .i64 r.joins) := by go_simp
  have x41 : w1.cell? ⟨w.heap.size, 4, none⟩ = some (.bool r.acc) := by go_simp
  have x51 : w1.cell? ⟨w.heap.size, 5, none⟩ = some (.slice A r.blk.length c) := by go_simp
  have y01 : w1.cell? ⟨w.heap.size + 1, 0, none⟩ = some (.int .i64 s.frm) := by go_simp
  have y11 : w1.cell? ⟨w.heap.size + 1, 1, none⟩ = some (.int .i64 s.til) := by go_simp
  have l1 : w.heap.size + 1 < w1.heap.size := by omega
  clear hc1 hf1
  have B2 := below_up B1 B1.size b2
  have l2 : w.heap.size + 1 < w2.heap.size := Nat.lt_of_lt_of_le l1 b2.size
  have x02 := (b2.cell (p := ⟨w.heap.size, 0, none⟩) (by show w.heap.size < _; omega)).trans x01
  have x12 := (b2.cell (p := ⟨w.heap.size, 1, none⟩) (by show w.heap.size < _; omega)).trans x11
  have x22 := (b2.cell (p := ⟨w.heap.size, 2, none⟩) (by show w.heap.size < _; omega)).trans x21
  have x32 := (b2.cell (p := ⟨w.heap.size, 3, none⟩) (by show w.heap.size < _; omega)).trans x31
  have x42 := (b2.cell (p := ⟨w.heap.size, 4, none⟩) (by show w.heap.size < _; omega)).trans x41
  have x52 := (b2.cell (p := ⟨w.heap.size, 5, none⟩) (by show w.heap.size < _; omega)).trans x51
  have y02 := (b2.cell (p := ⟨w.heap.size + 1, 0, none⟩) (by show w.heap.size + 1 < _; omega)).trans y01
  have y12 := (b2.cell (p := ⟨w.heap.size + 1, 1, none⟩) (by show w.heap.size + 1 < _; omega)).trans y11
  clear x01 x11 x21 x31 x41 x51 y01 y11
  cases hu : fewR [r]
  · go_wp2_with fail
    go_ret
    exact ⟨ret_bool (by simp), B2⟩
  have hrb : r.blk.length ≤ 400 := by have := fewR_at hu r (by simp); omega
  go_wp2_with fail
  refine (free_any r A c s _ (hs.up B2) hrb).mono ?_
  rintro e w3 ⟨rfl, b3⟩
  have B3 := below_up B2 B2.size b3
  have l3 : w.heap.size + 1 < w3.heap.size := Nat.lt_of_lt_of_le l2 b3.size
  have x03 := (b3.cell (p := ⟨w.heap.size, 0, none⟩) (by show w.heap.size < _; omega)).trans x02
  have x13 := (b3.cell (p := ⟨w.heap.size, 1, none⟩) (by show w.heap.size < _; omega)).trans x12
  have x23 := (b3.cell (p := ⟨w.heap.size, 2, none⟩) (by show w.heap.size < _; omega)).trans x22
  have x33 := (b3.cell (p := ⟨w.heap.size, 3, none⟩) (by show w.heap.size < _; omega)).trans x32
  have x43 := (b3.cell (p := ⟨w.heap.size, 4, none⟩) (by show w.heap.size < _; omega)).trans x42
  have x53 := (b3.cell (p := ⟨w.heap.size, 5, none⟩) (by show w.heap.size < _; omega)).trans x52
  have y03 := (b3.cell (p := ⟨w.heap.size + 1, 0, none⟩) (by show w.heap.size + 1 < _; omega)).trans y02
  have y13 := (b3.cell (p := ⟨w.heap.size + 1, 1, none⟩) (by show w.heap.size + 1 < _; omega)).trans y12
  clear x02 x12 x22 x32 x42 x52 y02 y12
  cases hx : (r.ok && perOk s)
  · have hf : freeS r s = (false, 1) := by unfold freeS; rw [hx]; rfl
    rw [hf]
    go_wp2_with fail
    refine (rroom_any r A c _ (hs.up B3) hrb).mono ?_
    rintro e w4 ⟨rfl, b4⟩
    have B4 := below_up B3 B3.size b4
    have l4 : w.heap.size + 1 < w4.heap.size := Nat.lt_of_lt_of_le l3 b4.size
    have x04 := (b4.cell (p := ⟨w.heap.size, 0, none⟩) (by show w.heap.size < _; omega)).trans x03
    have x14 := (b4.cell (p := ⟨w.heap.size, 1, none⟩) (by show w.heap.size < _; omega)).trans x13
    have x24 := (b4.cell (p := ⟨w.heap.size, 2, none⟩) (by show w.heap.size < _; omega)).trans x23
    have x34 := (b4.cell (p := ⟨w.heap.size, 3, none⟩) (by show w.heap.size < _; omega)).trans x33
    have x44 := (b4.cell (p := ⟨w.heap.size, 4, none⟩) (by show w.heap.size < _; omega)).trans x43
    have x54 := (b4.cell (p := ⟨w.heap.size, 5, none⟩) (by show w.heap.size < _; omega)).trans x53
    have y04 := (b4.cell (p := ⟨w.heap.size + 1, 0, none⟩) (by show w.heap.size + 1 < _; omega)).trans y03
    have y14 := (b4.cell (p := ⟨w.heap.size + 1, 1, none⟩) (by show w.heap.size + 1 < _; omega)).trans y13
    clear x03 x13 x23 x33 x43 x53 y03 y13
    cases hok : r.ok
    · go_wp2_with fail
      go_ret
      exact ⟨ret_bool (by simp), B4⟩
    · rw [hok, Bool.true_and] at hx
      go_wp2_with fail
      refine (rperiod_any s _).mono ?_
      rintro e w5 ⟨rfl, b5⟩
      rw [hx]
      have B5 := below_up B4 B4.size b5
      go_wp2_with fail
      go_ret
      exact ⟨ret_bool (by simp), B5⟩
  have hf : freeS r s = (freeR r.blk s, 0) := by unfold freeS; rw [hx]; rfl
  rw [Bool.and_eq_true] at hx
  obtain ⟨hok, hp⟩ := hx
  have hN : Norm r.blk := setOk_norm (Room.ok_iff.1 hok).2.1
  rw [hf]
  go_wp2_with fail
  refine (rperiod_any s _).mono ?_
  rintro e w4 ⟨rfl, b4⟩
  rw [hp]
  have B4 := below_up B3 B3.size b4
  have l4 : w.heap.size + 1 < w4.heap.size := Nat.lt_of_lt_of_le l3 b4.size
  have x04 := (b4.cell (p := ⟨w.heap.size, 0, none⟩) (by show w.heap.size < _; omega)).trans x03
  have x14 := (b4.cell (p := ⟨w.heap.size, 1, none⟩) (by show w.heap.size < _; omega)).trans x13
  have x24 := (b4.cell (p := ⟨w.heap.size, 2, none⟩) (by show w.heap.size < _; omega)).trans x23
  have x34 := (b4.cell (p := ⟨w.heap.size, 3, none⟩) (by show w.heap.size < _; omega)).trans x33
  have x44 := (b4.cell (p := ⟨w.heap.size, 4, none⟩) (by show w.heap.size < _; omega)).trans x43
  have x54 := (b4.cell (p := ⟨w.heap.size, 5, none⟩) (by show w.heap.size < _; omega)).trans x53
  have y04 := (b4.cell (p := ⟨w.heap.size + 1, 0, none⟩) (by show w.heap.size + 1 < _; omega)).trans y03
  have y14 := (b4.cell (p := ⟨w.heap.size + 1, 1, none⟩) (by show w.heap.size + 1 < _; omega)).trans y13
  clear x03 x13 x23 x33 x43 x53 y03 y13
  obtain ⟨s0, s1, s2⟩ := perOk_iff.1 hp
  have HA : Hid (∀ m : Nat, (m : Int) = s.til - s.frm → freeR r.blk s = allF r.blk s.frm m) := Lib.hid (fun m hm => free_allF hN s1 hm)
  have HF := Lib.hid (fun n (h0 : 0 ≤ n) (h1 : n ≤ 365) => free_night_ok hok h0 h1)
  clear hok hN hf hp
  go_wp2_with fail
  go_loopw [5, 8, 9] (fun up al i wr => ∃ m : Nat, (m : Int) ≤ s.til - s.frm ∧ i = .int .i64 (s.frm + (m : Int)) ∧ up = .bool true ∧ al = .bool (allF r.blk s.frm m) ∧ Below w4.heap.size w4 wr) (fun _ _ i _ => (s.til - intOf i).toNat)
  case atStart => exact ⟨0, by omega, by simp, rfl, rfl, Below.refl _ _⟩
  case round =>
    obtain ⟨m, hm, rfl, rfl, rfl, b5⟩ := hrel
    obtain ⟨w5, rfl⟩ : ∃ w5 : World, w5 = wr := ⟨_, rfl⟩
    have B5 := below_up B4 B4.size b5
    have l5 : w.heap.size + 1 < w5.heap.size := Nat.lt_of_lt_of_le l4 b5.size
    have x05 := (b5.cell (p := ⟨w.heap.size, 0, none⟩) (by show w.heap.size < _; omega)).trans x04
    have x15 := (b5.cell (p := ⟨w.heap.size, 1, none⟩) (by show w.heap.size < _; omega)).trans x14
    have x25 := (b5.cell (p := ⟨w.heap.size, 2, none⟩) (by show w.heap.size < _; omega)).trans x24
    have x35 := (b5.cell (p := ⟨w.heap.size, 3, none⟩) (by show w.heap.size < _; omega)).trans x34
    have x45 := (b5.cell (p := ⟨w.heap.size, 4, none⟩) (by show w.heap.size < _; omega)).trans x44
    have x55 := (b5.cell (p := ⟨w.heap.size, 5, none⟩) (by show w.heap.size < _; omega)).trans x54
    have y05 := (b5.cell (p := ⟨w.heap.size + 1, 0, none⟩) (by show w.heap.size + 1 < _; omega)).trans y04
    have y15 := (b5.cell (p := ⟨w.heap.size + 1, 1, none⟩) (by show w.heap.size + 1 < _; omega)).trans y14
    clear x04 x14 x24 x34 x44 x54 y04 y14
    have hz5 := b5.size
    by_cases hlt : s.frm + (m : Int) < s.til
    · have hd : decide (s.frm + (m : Int) < s.til) = true := by rw [decide_eq_true_eq]; exact hlt
      have hw1 : IntKind.i64.wrap (s.frm + (m : Int) + 1) = s.frm + (m : Int) + 1 := IntWalk.i64_in _ (by omega)
      have hfn := HF.out (s.frm + (m : Int)) (by omega) (by omega)
      have hst : allF r.blk s.frm (m + 1) = (allF r.blk s.frm m && !has r.blk (s.frm + (m : Int))) := rfl
      have l5' : w.heap.size < w5.heap.size := by omega
      go_wp2_with fail
      have hgr := regrown_cells w5 (B := w5.heap.size) (by omega)
      refine wp_region_quiet_below (by kernel_rfl) (by kernel_rfl) ?_
      repeat (quiet_step ((first | (go_at_call 24; exact quiet_b (span16_any _ _ _)) | (go_at_call 15; exact quiet_b (free_any r A c (nightS (s.frm + (m : Int))) _ (hs.up (below_up B5 B5.size (below_regrown _ _ _))) hrb)))))
      refine wpQuiet_nil ?_
      intro _ hw'
      obtain ⟨⟨dq, osq⟩, hw''⟩ := hw'
      subst hw''
      have hb6 := below_regrown w5 dq osq
      clear hgr
      generalize grow (redrawn w5 dq) osq = w6 at hb6 ⊢
      have hz6 := hb6.size
      (try simp only [World.size_alloc, World.size_setCell, World.size_drew, size_drewN', size_grow, size_redrawn] at hz6)
      obtain ⟨hc6, hf6⟩ := bcellB (B := w5.heap.size) hb6 (by first | omega | (simp only [World.size_alloc, World.size_setCell, World.size_drew, size_drewN', size_grow, size_redrawn]; omega))
      have b46 := below_up b5 b5.size hb6
      cases hh : has r.blk (s.frm + (m : Int))
      all_goals
        rw [hh] at hst
        cases hal : allF r.blk s.frm m
        all_goals
          rw [hal] at hst
          go_wp2_with fail
          go_roundw
          case rel => exact ⟨m + 1, by omega, by go_num, rfl, by rw [hst]; rfl, b46⟩
          case measure => simp [intOf]; omega
    · have hd : decide (s.frm + (m : Int) < s.til) = false := by rw [decide_eq_false_iff_not]; exact hlt
      have hA := HA.out m (by omega)
      rw [hA]
      cases hal : allF r.blk s.frm m
      all_goals
        rw [hal] at hA
        go_wp2_with fail
        go_ret
        exact ⟨ret_bool (by simp), B5⟩
end Go.Proofs.Ytphapnooonjnmaa
