/-
  The law 'RoomsMatchesReference': the walk.
-/
import Derived.Test.YtphapnooonjnmaaRmHead
import Derived.Test.YtphapnooonjnmaaRmUse
import Derived.Test.YtphapnooonjnmaaRmW10
namespace Go.Proofs.Ytphapnooonjnmaa
set_option linter.unusedSimpArgs false
set_option linter.unusedVariables false
open Go.RowKit
open Go.Sort (grow size_grow)

set_option maxHeartbeats 4000000
set_option maxRecDepth 100000
theorem oneRoom (r : Room) (A : Option Addr) (c : Nat) (w : World) (n : Nat) (h : w.heap.size = n) (hs : SlSpn w A r.blk) : SlRoom (w.alloc (.cells #[.int .i64 r.id, .int .i64 r.house, .int .i64 r.kind, .int .i64 r.joins, .bool r.acc, .slice A r.blk.length c] 25)) (some ⟨n, 0, none⟩) [r] := by
  subst h
  intro _
  refine ⟨w.heap.size, 0, rfl, by simp, fun k hk => ?_⟩
  match k, hk with
  | 0, _ =>
    refine ⟨A, c, fun j v hv => ?_, hs.up ((Below.refl _ _).alloc (Nat.le_refl _) _)⟩
    rw [World.cell?_alloc_at _ _ _ _ (by simp)]
    match j, hv with
    | 0, hv => exact hv
    | 1, hv => exact hv
    | 2, hv => exact hv
    | 3, hv => exact hv
    | 4, hv => exact hv
    | 5, hv => exact hv
theorem block_tame {l res : List Room} {a er : Int} {s : Spn} (h : BlockR l a s res er) (hf : fewR l = true) : res.length ≤ 140737488355328 ∧ ∀ r ∈ res, r.blk.length ≤ 400 := by
  unfold BlockR at h
  split at h
  · rcases h with ⟨_, rfl, _⟩ | ⟨k, hk, u, _, _, hu, rfl, _⟩
    · exact ⟨by simp, by simp⟩
    · have := fewR_len hf
      have hb := use_blk hf hk
      refine ⟨by rw [List.length_set]; omega, fun r hr => ?_⟩
      rcases List.mem_or_eq_of_mem_set hr with h | rfl
      · have := fewR_at hf _ h; omega
      · show u.length ≤ 400; omega
  · obtain ⟨rfl, _⟩ := h
    exact ⟨by simp, by simp⟩
theorem law_rmmatches (l : List Room) (A : Option Addr) (c : Nat) (r : Room) (Ar : Option Addr) (cr : Nat) (s : Spn) (a h k n : Int) (w : World) (hs : SlRoom w A l) (hi : IdsOk l) (hr : SlSpn w Ar r.blk)
    (hroom : l.length ≤ c) :
    Calls Try.prog 3 #[.slice A l.length c, r.v Ar cr, s.v, .int .i64 a, .int .i64 h, .int .i64 k, .int .i64 n] w fun e w' => e = .returned (.bool true) ∧ Below w.heap.size w w' := by
  cases hu : fewR l
  · go_enter Try.func3, Try.ntmps3
    go_wp2_with fail
    refine (head16_any _).mono ?_
    rintro e w1 ⟨rfl, hb1⟩; have hz1 := hb1.size; (try simp only [World.size_alloc, World.size_setCell, World.size_drew, size_drewN', size_grow, size_redrawn] at hz1); obtain ⟨hc1, hf1⟩ := bcellB (B := w.heap.size + 1 + 1) hb1 (by first | omega | (simp only [World.size_alloc, World.size_setCell, World.size_drew, size_drewN', size_grow, size_redrawn]; omega))
    have B1 : Below w.heap.size w w1 := (by repeat' (first | (with_reducible exact Below.refl _ _) | (with_reducible assumption) | (with_reducible refine below_drewN ?_ _) | (with_reducible refine Below.drew ?_) | (with_reducible refine below_regrown_up _ _ ?_ ?_) | (with_reducible refine Below.alloc ?_ ?_ _) | (with_reducible refine Below.setCell ?_ ?_ _) | (with_reducible refine below_up ?_ ?_ (by assumption)) | (with_reducible exact Nat.le_refl _) | omega | (simp; done) | (simp; omega)))
    go_wp2_with fail
    refine (few16_any l A c _ (hs.up B1)).mono ?_
    rintro e w2 ⟨rfl, hb2⟩; have hz2 := hb2.size; (try simp only [World.size_alloc, World.size_setCell, World.size_drew, size_drewN', size_grow, size_redrawn] at hz2); obtain ⟨hc2, hf2⟩ := bcellB (B := w.heap.size + 1 + 1) hb2 (by first | omega | (simp only [World.size_alloc, World.size_setCell, World.size_drew, size_drewN', size_grow, size_redrawn]; omega))
    rw [hu]
    have B2 := below_up B1 B1.size hb2
    go_wp2_with fail
    go_ret
    exact ⟨ret_bool (by simp), B2⟩
  have hT := fewR_tame hu hi
  have HT := Lib.hid hT
  clear hT
  have hl : l.length ≤ 140737488355328 := by have := fewR_len hu; omega
  go_enter Try.func3, Try.ntmps3
  go_wp2_with fail
  refine (head16_any _).mono ?_
  rintro e w1 ⟨rfl, hb1⟩; have hz1 := hb1.size; (try simp only [World.size_alloc, World.size_setCell, World.size_drew, size_drewN', size_grow, size_redrawn] at hz1); obtain ⟨hc1, hf1⟩ := bcellB (B := w.heap.size + 1 + 1) hb1 (by first | omega | (simp only [World.size_alloc, World.size_setCell, World.size_drew, size_drewN', size_grow, size_redrawn]; omega))
  have B1 : Below w.heap.size w w1 := (by repeat' (first | (with_reducible exact Below.refl _ _) | (with_reducible assumption) | (with_reducible refine below_drewN ?_ _) | (with_reducible refine Below.drew ?_) | (with_reducible refine below_regrown_up _ _ ?_ ?_) | (with_reducible refine Below.alloc ?_ ?_ _) | (with_reducible refine Below.setCell ?_ ?_ _) | (with_reducible refine below_up ?_ ?_ (by assumption)) | (with_reducible exact Nat.le_refl _) | omega | (simp; done) | (simp; omega)))
  go_wp2_with fail
  refine (few16_any l A c _ (hs.up B1)).mono ?_
  rintro e w2 ⟨rfl, hb2⟩; have hz2 := hb2.size; (try simp only [World.size_alloc, World.size_setCell, World.size_drew, size_drewN', size_grow, size_redrawn] at hz2); obtain ⟨hc2, hf2⟩ := bcellB (B := w.heap.size + 1 + 1) hb2 (by first | omega | (simp only [World.size_alloc, World.size_setCell, World.size_drew, size_drewN', size_grow, size_redrawn]; omega))
  rw [hu]
  have B2 := below_up B1 B1.size hb2
  go_wp2_with fail
  have x02 : w2.cell? ⟨w.heap.size, 0, none⟩ = some (.int .i64 r.id) := by go_simp
  have x12 : w2.cell? ⟨w.heap.size, 1, none⟩ = some (.int .i64 r.house) := by go_simp
  have x22 : w2.cell? ⟨w.heap.size, 2, none⟩ = some (.int .i64 r.kind) := by go_simp
  have x32 : w2.cell? ⟨w.heap.size, 3, none⟩ = some (.int .i64 r.joins) := by go_simp
  have x42 : w2.cell? ⟨w.heap.size, 4, none⟩ = some (.bool r.acc) := by go_simp
  have x52 : w2.cell? ⟨w.heap.size, 5, none⟩ = some (.slice Ar r.blk.length cr) := by go_simp
  have y02 : w2.cell? ⟨w.heap.size + 1, 0, none⟩ = some (.int .i64 s.frm) := by go_simp
  have y12 : w2.cell? ⟨w.heap.size + 1, 1, none⟩ = some (.int .i64 s.til) := by go_simp
  have l2 : w.heap.size + 1 < w2.heap.size := by omega
  clear hc1 hc2 hf1 hf2
  refine (few16_any [r] (some ⟨w2.heap.size, 0, none⟩) 1 _ (oneRoom r Ar cr w2 _ rfl (hr.up B2))).mono ?_
  rintro e w3 ⟨rfl, b3'⟩
  have b3 : Below w2.heap.size w2 w3 := below_up ((Below.refl _ _).alloc (Nat.le_refl _) _) (by simp) b3'
  clear b3'
  have B3 := below_up B2 B2.size b3
  have l3 : w.heap.size + 1 < w3.heap.size := Nat.lt_of_lt_of_le l2 b3.size
  have x03 := (b3.cell (p := ⟨w.heap.size, 0, none⟩) (by show w.heap.size < _; omega)).trans x02
  have x13 := (b3.cell (p := ⟨w.heap.size, 1, none⟩) (by show w.heap.size < _; omega)).trans x12
  have x23 := (b3.cell (p := ⟨w.heap.size, 2, none⟩) (by show w.heap.size < _; omega)).trans x22
  have x33 := (b3.cell (p := ⟨w.heap.size, 3, none⟩) (by show w.heap.size < _; omega)).trans x32
  have x43 := (b3.cell (p := ⟨w.heap.size, 4, none⟩) (by show w.heap.size < _; omega)).trans x42
  have x53 := (b3.cell (p := ⟨w.heap.size, 5, none⟩) (by show w.heap.size < _; omega)).trans x52
  have y03 := (b3.cell (p := ⟨w.heap.size + 1, 0, none⟩) (by show w.heap.size + 1 < _; omega)).trans y02
  have y13 := (b3.cell (p := ⟨w.heap.size + 1, 1, none⟩) (by show w.heap.size + 1 < _; omega)).trans y12
  clear x02 x12 x22 x32 x42 x52 y02 y12
  cases hur : fewR [r]
  · go_wp2_with fail
    go_ret
    exact ⟨ret_bool (by simp), B3⟩
  have hrb : r.blk.length ≤ 400 := by have := fewR_at hur r (by simp); omega
  go_wp2_with fail
  refine (find_any l A c a _ (hs.up B3) hl HT.out).mono ?_
  rintro e w4 ⟨rfl, b4⟩
  have B4 := below_up B3 B3.size b4
  have l4 : w.heap.size + 1 < w4.heap.size := Nat.lt_of_lt_of_le l3 b4.size
  have x04 := (b4.cell (p := ⟨w.heap.size, 0, none⟩) (by show w.heap.size < _; omega)).trans x03
  have x14 := (b4.cell (p := ⟨w.heap.size, 1, none⟩) (by show w.heap.size < _; omega)).trans x13
  have x24 := (b4.cell (p := ⟨w.heap.size, 2, none⟩) (by show w.heap.size < _; omega)).trans x23
  have x34 := (b4.cell (p := ⟨w.heap.size, 3, none⟩) (by show w.heap.size < _; omega)).trans x33
  have x44 := (b4.cell (p := ⟨w.heap.size, 4, none⟩) (by show w.heap.size < _; omega)).trans x43
  have x54 := (b4.cell (p := ⟨w.heap.size, 5, none⟩) (by show w.heap.size < _; omega)).trans x53
  have y04 := (b4.cell (p := ⟨w.heap.size + 1, 0, none⟩) (by show w.heap.size + 1 < _; omega)).trans y03
  have y14 := (b4.cell (p := ⟨w.heap.size + 1, 1, none⟩) (by show w.heap.size + 1 < _; omega)).trans y13
  clear x03 x13 x23 x33 x43 x53 y03 y13
  go_wp2_with fail
  refine (rfind_any l A c a _ (hs.up B4) hl HT.out).mono ?_
  rintro e w5 ⟨rfl, b5⟩
  have B5 := below_up B4 B4.size b5
  have l5 : w.heap.size + 1 < w5.heap.size := Nat.lt_of_lt_of_le l4 b5.size
  have x05 := (b5.cell (p := ⟨w.heap.size, 0, none⟩) (by show w.heap.size < _; omega)).trans x04
  have x15 := (b5.cell (p := ⟨w.heap.size, 1, none⟩) (by show w.heap.size < _; omega)).trans x14
  have x25 := (b5.cell (p := ⟨w.heap.size, 2, none⟩) (by show w.heap.size < _; omega)).trans x24
  have x35 := (b5.cell (p := ⟨w.heap.size, 3, none⟩) (by show w.heap.size < _; omega)).trans x34
  have x45 := (b5.cell (p := ⟨w.heap.size, 4, none⟩) (by show w.heap.size < _; omega)).trans x44
  have x55 := (b5.cell (p := ⟨w.heap.size, 5, none⟩) (by show w.heap.size < _; omega)).trans x54
  have y05 := (b5.cell (p := ⟨w.heap.size + 1, 0, none⟩) (by show w.heap.size + 1 < _; omega)).trans y04
  have y15 := (b5.cell (p := ⟨w.heap.size + 1, 1, none⟩) (by show w.heap.size + 1 < _; omega)).trans y14
  clear x04 x14 x24 x34 x44 x54 y04 y14
  go_wp2_with fail
  refine (rmvalid_any l A c _ (hs.up B5) hl HT.out).mono ?_
  rintro e w6 ⟨rfl, b6⟩
  have B6 := below_up B5 B5.size b6
  have l6 : w.heap.size + 1 < w6.heap.size := Nat.lt_of_lt_of_le l5 b6.size
  have x06 := (b6.cell (p := ⟨w.heap.size, 0, none⟩) (by show w.heap.size < _; omega)).trans x05
  have x16 := (b6.cell (p := ⟨w.heap.size, 1, none⟩) (by show w.heap.size < _; omega)).trans x15
  have x26 := (b6.cell (p := ⟨w.heap.size, 2, none⟩) (by show w.heap.size < _; omega)).trans x25
  have x36 := (b6.cell (p := ⟨w.heap.size, 3, none⟩) (by show w.heap.size < _; omega)).trans x35
  have x46 := (b6.cell (p := ⟨w.heap.size, 4, none⟩) (by show w.heap.size < _; omega)).trans x45
  have x56 := (b6.cell (p := ⟨w.heap.size, 5, none⟩) (by show w.heap.size < _; omega)).trans x55
  have y06 := (b6.cell (p := ⟨w.heap.size + 1, 0, none⟩) (by show w.heap.size + 1 < _; omega)).trans y05
  have y16 := (b6.cell (p := ⟨w.heap.size + 1, 1, none⟩) (by show w.heap.size + 1 < _; omega)).trans y15
  clear x05 x15 x25 x35 x45 x55 y05 y15
  go_wp2_with fail
  refine (rrvalid_any l A c _ (hs.up B6) hl HT.out).mono ?_
  rintro e w7 ⟨rfl, b7⟩
  have B7 := below_up B6 B6.size b7
  have l7 : w.heap.size + 1 < w7.heap.size := Nat.lt_of_lt_of_le l6 b7.size
  have x07 := (b7.cell (p := ⟨w.heap.size, 0, none⟩) (by show w.heap.size < _; omega)).trans x06
  have x17 := (b7.cell (p := ⟨w.heap.size, 1, none⟩) (by show w.heap.size < _; omega)).trans x16
  have x27 := (b7.cell (p := ⟨w.heap.size, 2, none⟩) (by show w.heap.size < _; omega)).trans x26
  have x37 := (b7.cell (p := ⟨w.heap.size, 3, none⟩) (by show w.heap.size < _; omega)).trans x36
  have x47 := (b7.cell (p := ⟨w.heap.size, 4, none⟩) (by show w.heap.size < _; omega)).trans x46
  have x57 := (b7.cell (p := ⟨w.heap.size, 5, none⟩) (by show w.heap.size < _; omega)).trans x56
  have y07 := (b7.cell (p := ⟨w.heap.size + 1, 0, none⟩) (by show w.heap.size + 1 < _; omega)).trans y06
  have y17 := (b7.cell (p := ⟨w.heap.size + 1, 1, none⟩) (by show w.heap.size + 1 < _; omega)).trans y16
  clear x06 x16 x26 x36 x46 x56 y06 y16
  go_wp2_with fail
  go_wp2_with fail
  refine (free_any r Ar cr s _ (hr.up B7) hrb).mono ?_
  rintro e w8 ⟨rfl, b8⟩
  have B8 := below_up B7 B7.size b8
  have l8 : w.heap.size + 1 < w8.heap.size := Nat.lt_of_lt_of_le l7 b8.size
  have x08 := (b8.cell (p := ⟨w.heap.size, 0, none⟩) (by show w.heap.size < _; omega)).trans x07
  have x18 := (b8.cell (p := ⟨w.heap.size, 1, none⟩) (by show w.heap.size < _; omega)).trans x17
  have x28 := (b8.cell (p := ⟨w.heap.size, 2, none⟩) (by show w.heap.size < _; omega)).trans x27
  have x38 := (b8.cell (p := ⟨w.heap.size, 3, none⟩) (by show w.heap.size < _; omega)).trans x37
  have x48 := (b8.cell (p := ⟨w.heap.size, 4, none⟩) (by show w.heap.size < _; omega)).trans x47
  have x58 := (b8.cell (p := ⟨w.heap.size, 5, none⟩) (by show w.heap.size < _; omega)).trans x57
  have y08 := (b8.cell (p := ⟨w.heap.size + 1, 0, none⟩) (by show w.heap.size + 1 < _; omega)).trans y07
  have y18 := (b8.cell (p := ⟨w.heap.size + 1, 1, none⟩) (by show w.heap.size + 1 < _; omega)).trans y17
  clear x07 x17 x27 x37 x47 x57 y07 y17
  go_wp2_with fail
  refine (rfree_any r Ar cr s _ (hr.up B8) hrb).mono ?_
  rintro e w9 ⟨rfl, b9⟩
  have B9 := below_up B8 B8.size b9
  have l9 : w.heap.size + 1 < w9.heap.size := Nat.lt_of_lt_of_le l8 b9.size
  have y09 := (b9.cell (p := ⟨w.heap.size + 1, 0, none⟩) (by show w.heap.size + 1 < _; omega)).trans y08
  have y19 := (b9.cell (p := ⟨w.heap.size + 1, 1, none⟩) (by show w.heap.size + 1 < _; omega)).trans y18
  clear y08 y18
  go_wp2_with fail
  refine (block_any l A c a s _ (hs.up B9) HT.out hroom hl).mono ?_
  rintro e w10 ⟨⟨res, A10, c10, er, rfl, s10, R10, _⟩, b10⟩
  have B10 := below_up B9 B9.size b10
  have l10 : w.heap.size + 1 < w10.heap.size := Nat.lt_of_lt_of_le l9 b10.size
  have y010 := (b10.cell (p := ⟨w.heap.size + 1, 0, none⟩) (by show w.heap.size + 1 < _; omega)).trans y09
  have y110 := (b10.cell (p := ⟨w.heap.size + 1, 1, none⟩) (by show w.heap.size + 1 < _; omega)).trans y19
  clear y09 y19
  go_wp2_with fail
  refine (rblock_any l A c a s _ (hs.up B10) HT.out hl).mono ?_
  rintro e w11 ⟨⟨res', A11, c11, er', rfl, s11, R11, _⟩, b11⟩
  obtain ⟨rfl, rfl⟩ := R10.eq R11
  have B11 := below_up B10 B10.size b11
  obtain ⟨t1, t2⟩ := block_tame R10 hu
  go_wp2_with fail
  refine (same16_any _ _ A10 A11 c10 c11 _ (s10.up b11) s11 t1 t2 t2).mono ?_
  rintro e w12 ⟨rfl, b12⟩
  rw [decide_eq_true rfl]
  have B12 := below_up B11 B11.size b12
  go_wp2_with fail
  refine (cntm_any l A c h k n _ (hs.up B12) hl HT.out).mono ?_
  rintro e w13 ⟨rfl, b13⟩
  have B13 := below_up B12 B12.size b13
  go_wp2_with fail
  refine (rcntm_any l A c h k n _ (hs.up B13) hl HT.out).mono ?_
  rintro e w14 ⟨rfl, b14⟩
  have B14 := below_up B13 B13.size b14
  go_wp2_with fail
  go_ret
  exact ⟨ret_bool (by simp), B14⟩
end Go.Proofs.Ytphapnooonjnmaa
