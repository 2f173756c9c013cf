/-
  The law 'RoomsTwice': the walk.
-/
import Derived.Test.YtphapnooonjnmaaRmHead
import Derived.Test.YtphapnooonjnmaaRmUse
import Derived.BigQuiet
namespace Go.Proofs.Ytphapnooonjnmaa
set_option linter.unusedSimpArgs false
set_option linter.unusedVariables false
open Go.RowKit
open Go.Sort (grow size_grow)

set_option maxHeartbeats 4000000
set_option maxRecDepth 100000
theorem twice_no (l : List Room) (A : Option Addr) (c : Nat) (u : Int) (s t : Spn) (p : Int) (w : World) (hs : SlRoom w A l) (hi : IdsOk l) (hu : use16 l = false) :
    Calls Try.prog 7 #[.slice A l.length c, .int .u8 u, s.v, t.v, .int .u16 p] w fun e w' => e = .returned (.bool true) ∧ Below w.heap.size w w' := by
  go_enter Try.func7, Try.ntmps7
  go_wp2_with fail
  refine (head16_any _).mono ?_
  rintro e w1 ⟨rfl, hb1⟩; have hz1 := hb1.size; (try simp only [World.size_alloc, World.size_setCell, World.size_drew, size_drewN', size_grow, size_redrawn] at hz1); obtain ⟨hc1, hf1⟩ := bcellB (B := w.heap.size + 1 + 1) hb1 (by first | omega | (simp only [World.size_alloc, World.size_setCell, World.size_drew, size_drewN', size_grow, size_redrawn]; omega))
  have B1 : Below w.heap.size w w1 := (by repeat' (first | (with_reducible exact Below.refl _ _) | (with_reducible assumption) | (with_reducible refine below_drewN ?_ _) | (with_reducible refine Below.drew ?_) | (with_reducible refine below_regrown_up _ _ ?_ ?_) | (with_reducible refine Below.alloc ?_ ?_ _) | (with_reducible refine Below.setCell ?_ ?_ _) | (with_reducible refine below_up ?_ ?_ (by assumption)) | (with_reducible exact Nat.le_refl _) | omega | (simp; done) | (simp; omega)))
  go_wp2_with fail
  refine (usable16_any l A c _ (hs.up B1) hi).mono ?_
  rintro e w2 ⟨rfl, hb2⟩; have hz2 := hb2.size; (try simp only [World.size_alloc, World.size_setCell, World.size_drew, size_drewN', size_grow, size_redrawn] at hz2); obtain ⟨hc2, hf2⟩ := bcellB (B := w.heap.size + 1 + 1) hb2 (by first | omega | (simp only [World.size_alloc, World.size_setCell, World.size_drew, size_drewN', size_grow, size_redrawn]; omega))
  rw [hu]
  have B2 := below_up B1 B1.size hb2
  go_wp2_with fail
  go_ret
  exact ⟨ret_bool (by simp), B2⟩
theorem twice_nil (A : Option Addr) (c : Nat) (u : Int) (s t : Spn) (p : Int) (w : World) (hu : use16 [] = true) :
    Calls Try.prog 7 #[.slice A 0 c, .int .u8 u, s.v, t.v, .int .u16 p] w fun e w' => e = .returned (.bool true) ∧ Below w.heap.size w w' := by
  have hs : SlRoom w A [] := SlRoom.nil_
  have hi : IdsOk [] := fun r hr => by cases hr
  have hl : (([] : List Room).length) = 0 := rfl
  go_enter Try.func7, Try.ntmps7
  go_wp2_with fail
  refine (head16_any _).mono ?_
  rintro e w1 ⟨rfl, hb1⟩; have hz1 := hb1.size; (try simp only [World.size_alloc, World.size_setCell, World.size_drew, size_drewN', size_grow, size_redrawn] at hz1); obtain ⟨hc1, hf1⟩ := bcellB (B := w.heap.size + 1 + 1) hb1 (by first | omega | (simp only [World.size_alloc, World.size_setCell, World.size_drew, size_drewN', size_grow, size_redrawn]; omega))
  have B1 : Below w.heap.size w w1 := (by repeat' (first | (with_reducible exact Below.refl _ _) | (with_reducible assumption) | (with_reducible refine below_drewN ?_ _) | (with_reducible refine Below.drew ?_) | (with_reducible refine below_regrown_up _ _ ?_ ?_) | (with_reducible refine Below.alloc ?_ ?_ _) | (with_reducible refine Below.setCell ?_ ?_ _) | (with_reducible refine below_up ?_ ?_ (by assumption)) | (with_reducible exact Nat.le_refl _) | omega | (simp; done) | (simp; omega)))
  go_wp2_with fail
  refine (usable16_any [] A c _ (hs.up B1) hi).mono ?_
  rintro e w2 ⟨rfl, hb2⟩; have hz2 := hb2.size; (try simp only [World.size_alloc, World.size_setCell, World.size_drew, size_drewN', size_grow, size_redrawn] at hz2); obtain ⟨hc2, hf2⟩ := bcellB (B := w.heap.size + 1 + 1) hb2 (by first | omega | (simp only [World.size_alloc, World.size_setCell, World.size_drew, size_drewN', size_grow, size_redrawn]; omega))
  rw [hu]
  have B2 := below_up B1 B1.size hb2
  go_wp2_with fail
  go_ret
  exact ⟨ret_bool (by simp), B2⟩
theorem twice_per (l : List Room) (A : Option Addr) (c : Nat) (u : Int) (s t : Spn) (p : Int) (w : World) (hs : SlRoom w A l) (hi : IdsOk l) (hu : use16 l = true) (hn : 0 < l.length) (hp : perOk s = false ∨ perOk t = false) :
    Calls Try.prog 7 #[.slice A l.length c, .int .u8 u, s.v, t.v, .int .u16 p] w fun e w' => e = .returned (.bool true) ∧ Below w.heap.size w w' := by
  have hn1 : ((l.length : Int) == 0) = false := by rw [beq_eq_false_iff_ne]; omega
  cases h : perOk s
  · clear hp
    go_enter Try.func7, Try.ntmps7
    go_wp2_with fail
    refine (head16_any _).mono ?_
    rintro e w1 ⟨rfl, hb1⟩; have hz1 := hb1.size; (try simp only [World.size_alloc, World.size_setCell, World.size_drew, size_drewN', size_grow, size_redrawn] at hz1); obtain ⟨hc1, hf1⟩ := bcellB (B := w.heap.size + 1 + 1) hb1 (by first | omega | (simp only [World.size_alloc, World.size_setCell, World.size_drew, size_drewN', size_grow, size_redrawn]; omega))
    have B1 : Below w.heap.size w w1 := (by repeat' (first | (with_reducible exact Below.refl _ _) | (with_reducible assumption) | (with_reducible refine below_drewN ?_ _) | (with_reducible refine Below.drew ?_) | (with_reducible refine below_regrown_up _ _ ?_ ?_) | (with_reducible refine Below.alloc ?_ ?_ _) | (with_reducible refine Below.setCell ?_ ?_ _) | (with_reducible refine below_up ?_ ?_ (by assumption)) | (with_reducible exact Nat.le_refl _) | omega | (simp; done) | (simp; omega)))
    go_wp2_with fail
    refine (usable16_any l A c _ (hs.up B1) hi).mono ?_
    rintro e w2 ⟨rfl, hb2⟩; have hz2 := hb2.size; (try simp only [World.size_alloc, World.size_setCell, World.size_drew, size_drewN', size_grow, size_redrawn] at hz2); obtain ⟨hc2, hf2⟩ := bcellB (B := w.heap.size + 1 + 1) hb2 (by first | omega | (simp only [World.size_alloc, World.size_setCell, World.size_drew, size_drewN', size_grow, size_redrawn]; omega))
    rw [hu]
    have B2 := below_up B1 B1.size hb2
    go_wp2_with fail
    refine (rperiod_any s _).mono ?_
    rintro e w3 ⟨rfl, b3⟩
    rw [h]
    have B3 := below_up B2 B2.size b3
    go_wp2_with fail
    go_ret
    exact ⟨ret_bool (by simp), B3⟩
  · have h' : perOk t = false := by
      rcases hp with hp | hp
      · rw [h] at hp; cases hp
      · exact hp
    clear hp
    go_enter Try.func7, Try.ntmps7
    go_wp2_with fail
    refine (head16_any _).mono ?_
    rintro e w1 ⟨rfl, hb1⟩; have hz1 := hb1.size; (try simp only [World.size_alloc, World.size_setCell, World.size_drew, size_drewN', size_grow, size_redrawn] at hz1); obtain ⟨hc1, hf1⟩ := bcellB (B := w.heap.size + 1 + 1) hb1 (by first | omega | (simp only [World.size_alloc, World.size_setCell, World.size_drew, size_drewN', size_grow, size_redrawn]; omega))
    have B1 : Below w.heap.size w w1 := (by repeat' (first | (with_reducible exact Below.refl _ _) | (with_reducible assumption) | (with_reducible refine below_drewN ?_ _) | (with_reducible refine Below.drew ?_) | (with_reducible refine below_regrown_up _ _ ?_ ?_) | (with_reducible refine Below.alloc ?_ ?_ _) | (with_reducible refine Below.setCell ?_ ?_ _) | (with_reducible refine below_up ?_ ?_ (by assumption)) | (with_reducible exact Nat.le_refl _) | omega | (simp; done) | (simp; omega)))
    go_wp2_with fail
    refine (usable16_any l A c _ (hs.up B1) hi).mono ?_
    rintro e w2 ⟨rfl, hb2⟩; have hz2 := hb2.size; (try simp only [World.size_alloc, World.size_setCell, World.size_drew, size_drewN', size_grow, size_redrawn] at hz2); obtain ⟨hc2, hf2⟩ := bcellB (B := w.heap.size + 1 + 1) hb2 (by first | omega | (simp only [World.size_alloc, World.size_setCell, World.size_drew, size_drewN', size_grow, size_redrawn]; omega))
    rw [hu]
    have B2 := below_up B1 B1.size hb2
    go_wp2_with fail
    refine (rperiod_any s _).mono ?_
    rintro e w3 ⟨rfl, hb3⟩; have hz3 := hb3.size; (try simp only [World.size_alloc, World.size_setCell, World.size_drew, size_drewN', size_grow, size_redrawn] at hz3); obtain ⟨hc3, hf3⟩ := bcellB (B := w.heap.size + 1 + 1) hb3 (by first | omega | (simp only [World.size_alloc, World.size_setCell, World.size_drew, size_drewN', size_grow, size_redrawn]; omega))
    rw [h]
    have B3 := below_up B2 B2.size hb3
    go_wp2_with fail
    refine (rperiod_any t _).mono ?_
    rintro e w4 ⟨rfl, b4⟩
    rw [h']
    have B4 := below_up B3 B3.size b4
    go_wp2_with fail
    go_ret
    exact ⟨ret_bool (by simp), B4⟩
theorem twice_yes (l : List Room) (A : Option Addr) (c : Nat) (u : Int) (s t : Spn) (p : Int) (w : World) (hs : SlRoom w A l) (hi : IdsOk l) (hu : use16 l = true) (hn : 0 < l.length) (hp : perOk s = true) (hq : perOk t = true)
    (u0 : 0 ≤ u) (u1 : u ≤ 255) (p0 : 0 ≤ p) (p1 : p ≤ 65535) (hroom : l.length ≤ c) :
    Calls Try.prog 7 #[.slice A l.length c, .int .u8 u, s.v, t.v, .int .u16 p] w fun e w' => e = .returned (.bool true) ∧ Below w.heap.size w w' := by
  have hn1 : ((l.length : Int) == 0) = false := by rw [beq_eq_false_iff_ne]; omega
  have hn2 : l.length ≠ 0 := by omega
  obtain ⟨h40, hfew, hv⟩ := use16_iff.1 hu
  have hT := fewR_tame hfew hi
  have hk0 : 0 ≤ u % (l.length : Int) := Int.emod_nonneg _ (by omega)
  have hk1 : u % (l.length : Int) < (l.length : Int) := Int.emod_lt_of_pos _ (by omega)
  obtain ⟨k, hkk⟩ : ∃ k : Nat, u % (l.length : Int) = k := ⟨(u % (l.length : Int)).toNat, by omega⟩
  rw [hkk] at hk0 hk1
  have hk : k < l.length := by omega
  have hblk := use_blk hfew hk
  obtain ⟨s0, s1, s2⟩ := perOk_iff.1 hp
  have hd1 : IntKind.i64.wrap (s.til - s.frm) = s.til - s.frm := IntWalk.i64_in _ (by omega)
  have hd2 : s.til - s.frm ≠ 0 := by omega
  have hq0 : 0 ≤ p % (s.til - s.frm) := Int.emod_nonneg _ (by omega)
  have hq1 : p % (s.til - s.frm) < s.til - s.frm := Int.emod_lt_of_pos _ (by omega)
  obtain ⟨q, hqq⟩ : ∃ q : Int, p % (s.til - s.frm) = q := ⟨_, rfl⟩
  rw [hqq] at hq0 hq1
  have hd3 : IntKind.i64.wrap (s.frm + q) = s.frm + q := IntWalk.i64_in _ (by omega)
  have hpt : perOk ⟨s.frm + q, s.til⟩ = true := perOk_iff.2 (by simp only; omega)
  have HT := Lib.hid (And.intro hT hv)
  clear hT hv
  go_enter Try.func7, Try.ntmps7
  go_wp2_with fail
  refine (head16_any _).mono ?_
  rintro e w1 ⟨rfl, hb1⟩; have hz1 := hb1.size; (try simp only [World.size_alloc, World.size_setCell, World.size_drew, size_drewN', size_grow, size_redrawn] at hz1); obtain ⟨hc1, hf1⟩ := bcellB (B := w.heap.size + 1 + 1) hb1 (by first | omega | (simp only [World.size_alloc, World.size_setCell, World.size_drew, size_drewN', size_grow, size_redrawn]; omega))
  have B1 : Below w.heap.size w w1 := (by repeat' (first | (with_reducible exact Below.refl _ _) | (with_reducible assumption) | (with_reducible refine below_drewN ?_ _) | (with_reducible refine Below.drew ?_) | (with_reducible refine below_regrown_up _ _ ?_ ?_) | (with_reducible refine Below.alloc ?_ ?_ _) | (with_reducible refine Below.setCell ?_ ?_ _) | (with_reducible refine below_up ?_ ?_ (by assumption)) | (with_reducible exact Nat.le_refl _) | omega | (simp; done) | (simp; omega)))
  go_wp2_with fail
  refine (usable16_any l A c _ (hs.up B1) hi).mono ?_
  rintro e w2 ⟨rfl, hb2⟩; have hz2 := hb2.size; (try simp only [World.size_alloc, World.size_setCell, World.size_drew, size_drewN', size_grow, size_redrawn] at hz2); obtain ⟨hc2, hf2⟩ := bcellB (B := w.heap.size + 1 + 1) hb2 (by first | omega | (simp only [World.size_alloc, World.size_setCell, World.size_drew, size_drewN', size_grow, size_redrawn]; omega))
  rw [hu]
  have B2 := below_up B1 B1.size hb2
  go_wp2_with fail
  refine (rperiod_any s _).mono ?_
  rintro e w3 ⟨rfl, hb3⟩; have hz3 := hb3.size; (try simp only [World.size_alloc, World.size_setCell, World.size_drew, size_drewN', size_grow, size_redrawn] at hz3); obtain ⟨hc3, hf3⟩ := bcellB (B := w.heap.size + 1 + 1) hb3 (by first | omega | (simp only [World.size_alloc, World.size_setCell, World.size_drew, size_drewN', size_grow, size_redrawn]; omega))
  rw [hp]
  have B3 := below_up B2 B2.size hb3
  go_wp2_with fail
  refine (rperiod_any t _).mono ?_
  rintro e w4 ⟨rfl, hb4⟩; have hz4 := hb4.size; (try simp only [World.size_alloc, World.size_setCell, World.size_drew, size_drewN', size_grow, size_redrawn] at hz4); obtain ⟨hc4, hf4⟩ := bcellB (B := w.heap.size + 1 + 1) hb4 (by first | omega | (simp only [World.size_alloc, World.size_setCell, World.size_drew, size_drewN', size_grow, size_redrawn]; omega))
  rw [hq]
  have B4 := below_up B3 B3.size hb4
  have x04 : w4.cell? ⟨w.heap.size, 0, none⟩ = some (.int .i64 s.frm) := by go_simp
  have x14 : w4.cell? ⟨w.heap.size, 1, none⟩ = some (.int .i64 s.til) := by go_simp
  have y04 : w4.cell? ⟨w.heap.size + 1, 0, none⟩ = some (.int .i64 t.frm) := by go_simp
  have y14 : w4.cell? ⟨w.heap.size + 1, 1, none⟩ = some (.int .i64 t.til) := by go_simp
  have l4 : w.heap.size + 1 < w4.heap.size := by omega
  clear hc1 hc2 hc3 hc4 hf1 hf2 hf3 hf4
  have hs4 := hs.up B4
  obtain ⟨b, off, A', c', hAe, hbl, hcell, hsp⟩ := hs4.at_ hk
  subst hAe
  have q0 := hcell 0 _ rfl
  rw [Nat.add_zero] at q0
  clear hcell hsp
  go_wp2_with fail
  have hs4' : SlRoom w4 (some ⟨b, off, none⟩) (l.set k (l[k].with_ l[k].blk)) := by rw [set_same hk]; exact hs4
  refine (block_at hk (b := l[k].blk) (by rw [set_same hk]; exact HT.out.2) (by rw [set_same hk]; exact HT.out.1) (by omega) _ c s hp _ hs4' hroom).mono ?_
  rintro e w5 ⟨⟨u1, A5, c5, rfl, s5, cb5, lu5, rc5, rv5, rt5⟩, b5⟩
  have B5 := below_up B4 B4.size b5
  have l5 : w.heap.size + 1 < w5.heap.size := Nat.lt_of_lt_of_le l4 b5.size
  have x05 := (b5.cell (p := ⟨w.heap.size, 0, none⟩) (by show w.heap.size < _; omega)).trans x04
  have x15 := (b5.cell (p := ⟨w.heap.size, 1, none⟩) (by show w.heap.size < _; omega)).trans x14
  have y05 := (b5.cell (p := ⟨w.heap.size + 1, 0, none⟩) (by show w.heap.size + 1 < _; omega)).trans y04
  have y15 := (b5.cell (p := ⟨w.heap.size + 1, 1, none⟩) (by show w.heap.size + 1 < _; omega)).trans y14
  clear x04 x14 y04 y14
  go_wp2_with fail
  go_quiet (fail)
  go_wp2_with fail
  refine (span16_any _ _ _).mono ?_
  rintro e w6 ⟨rfl, b6'⟩
  have b6 : Below w5.heap.size w5 w6 := below_up (below_drewN (Below.refl _ _) _) (by simp) b6'
  clear b6'
  have B6 := below_up B5 B5.size b6
  have l6 : w.heap.size + 1 < w6.heap.size := Nat.lt_of_lt_of_le l5 b6.size
  have x06 := (b6.cell (p := ⟨w.heap.size, 0, none⟩) (by show w.heap.size < _; omega)).trans x05
  have x16 := (b6.cell (p := ⟨w.heap.size, 1, none⟩) (by show w.heap.size < _; omega)).trans x15
  have y06 := (b6.cell (p := ⟨w.heap.size + 1, 0, none⟩) (by show w.heap.size + 1 < _; omega)).trans y05
  have y16 := (b6.cell (p := ⟨w.heap.size + 1, 1, none⟩) (by show w.heap.size + 1 < _; omega)).trans y15
  clear x05 x15 y05 y15
  have s56 := s5.up b6
  go_wp2_with fail
  refine (block_at hk rv5 rt5 (by omega) _ _ ⟨s.frm + q, s.til⟩ hpt _ s56 rc5).mono ?_
  rintro e w7 ⟨⟨u2, A7, c7, rfl, s7, cb7, lu7, rc7, rv7, rt7⟩, b7⟩
  have B7 := below_up B6 B6.size b7
  have l7 : w.heap.size + 1 < w7.heap.size := Nat.lt_of_lt_of_le l6 b7.size
  have x07 := (b7.cell (p := ⟨w.heap.size, 0, none⟩) (by show w.heap.size < _; omega)).trans x06
  have x17 := (b7.cell (p := ⟨w.heap.size, 1, none⟩) (by show w.heap.size < _; omega)).trans x16
  have y07 := (b7.cell (p := ⟨w.heap.size + 1, 0, none⟩) (by show w.heap.size + 1 < _; omega)).trans y06
  have y17 := (b7.cell (p := ⟨w.heap.size + 1, 1, none⟩) (by show w.heap.size + 1 < _; omega)).trans y16
  clear x06 x16 y06 y16
  have b57 := below_up b6 b6.size b7
  have h21 : u2 = u1 := comb_twice cb5 cb7 (by simp only; omega)
  subst h21
  go_wp2_with fail
  refine (block_at hk rv5 rt5 (by omega) _ _ t hq _ (s5.up b57) rc5).mono ?_
  rintro e w8 ⟨⟨u3, A8, c8, rfl, s8, cb8, lu8, rc8, rv8, rt8⟩, b8⟩
  have B8 := below_up B7 B7.size b8
  have l8 : w.heap.size + 1 < w8.heap.size := Nat.lt_of_lt_of_le l7 b8.size
  have x08 := (b8.cell (p := ⟨w.heap.size, 0, none⟩) (by show w.heap.size < _; omega)).trans x07
  have x18 := (b8.cell (p := ⟨w.heap.size, 1, none⟩) (by show w.heap.size < _; omega)).trans x17
  have y08 := (b8.cell (p := ⟨w.heap.size + 1, 0, none⟩) (by show w.heap.size + 1 < _; omega)).trans y07
  have y18 := (b8.cell (p := ⟨w.heap.size + 1, 1, none⟩) (by show w.heap.size + 1 < _; omega)).trans y17
  clear x07 x17 y07 y17
  have b58 := below_up b57 b57.size b8
  have b78 := b8
  have hs8' : SlRoom w8 (some ⟨b, off, none⟩) (l.set k (l[k].with_ l[k].blk)) := by rw [set_same hk]; exact hs4.up (below_up b5 b5.size b58)
  go_wp2_with fail
  refine (block_at hk (b := l[k].blk) (by rw [set_same hk]; exact HT.out.2) (by rw [set_same hk]; exact HT.out.1) (by omega) _ c t hq _ hs8' hroom).mono ?_
  rintro e w9 ⟨⟨u4, A9, c9, rfl, s9, cb9, lu9, rc9, rv9, rt9⟩, b9⟩
  have B9 := below_up B8 B8.size b9
  have l9 : w.heap.size + 1 < w9.heap.size := Nat.lt_of_lt_of_le l8 b9.size
  have x09 := (b9.cell (p := ⟨w.heap.size, 0, none⟩) (by show w.heap.size < _; omega)).trans x08
  have x19 := (b9.cell (p := ⟨w.heap.size, 1, none⟩) (by show w.heap.size < _; omega)).trans x18
  have y09 := (b9.cell (p := ⟨w.heap.size + 1, 0, none⟩) (by show w.heap.size + 1 < _; omega)).trans y08
  have y19 := (b9.cell (p := ⟨w.heap.size + 1, 1, none⟩) (by show w.heap.size + 1 < _; omega)).trans y18
  clear x08 x18 y08 y18
  have b59 := below_up b58 b58.size b9
  have b79 := below_up b78 b78.size b9
  have b89 := b9
  go_wp2_with fail
  refine (block_at hk rv9 rt9 (by omega) _ _ s hp _ s9 rc9).mono ?_
  rintro e w10 ⟨⟨u5, A10, c10, rfl, s10, cb10, lu10, rc10, rv10, rt10⟩, b10⟩
  have B10 := below_up B9 B9.size b10
  have b510 := below_up b59 b59.size b10
  have b710 := below_up b79 b79.size b10
  have b810 := below_up b89 b89.size b10
  have h35 : u5 = u3 := comb_swap cb5 cb8 cb9 cb10
  subst h35
  have e1 : (l.set k (l[k].with_ u2)).length = l.length := List.length_set
  have e2 : (l.set k (l[k].with_ u5)).length = l.length := List.length_set
  have E1 := Lib.hid e1
  have E2 := Lib.hid e2
  clear e1 e2
  have t2' : ∀ r ∈ l.set k (l[k].with_ u2), r.blk.length ≤ 400 := fun r hr => (rt5 r hr).1
  have t5' : ∀ r ∈ l.set k (l[k].with_ u5), r.blk.length ≤ 400 := fun r hr => (rt8 r hr).1
  have q1 := same16_any (l.set k (l[k].with_ u2)) (l.set k (l[k].with_ u2)) A5 A7 c5 c7 w10 (s5.up b510) (s7.up b710) (by rw [E1.out]; omega) t2' t2'
  rw [E1.out, decide_eq_true rfl] at q1
  go_wp2_with fail
  refine q1.mono ?_
  rintro e w11 ⟨rfl, b11⟩
  have B11 := below_up B10 B10.size b11
  have q2 := same16_any (l.set k (l[k].with_ u5)) (l.set k (l[k].with_ u5)) A8 A10 c8 c10 w11 (s8.up (below_up b810 b810.size b11)) (s10.up b11) (by rw [E2.out]; omega) t5' t5'
  rw [E2.out, decide_eq_true rfl] at q2
  clear q1
  go_wp2_with fail
  refine q2.mono ?_
  rintro e w12 ⟨rfl, b12⟩
  have B12 := below_up B11 B11.size b12
  go_wp2_with fail
  go_ret
  exact ⟨ret_bool (by simp), B12⟩
theorem law_rmtwice (l : List Room) (A : Option Addr) (c : Nat) (u : Int) (s t : Spn) (p : Int) (w : World) (hs : SlRoom w A l) (hi : IdsOk l)
    (u0 : 0 ≤ u) (u1 : u ≤ 255) (p0 : 0 ≤ p) (p1 : p ≤ 65535) (hroom : l.length ≤ c) :
    Calls Try.prog 7 #[.slice A l.length c, .int .u8 u, s.v, t.v, .int .u16 p] w fun e w' => e = .returned (.bool true) ∧ Below w.heap.size w w' := by
  cases hu : use16 l
  · exact twice_no l A c u s t p w hs hi hu
  rcases Nat.eq_zero_or_pos l.length with hn | hn
  · obtain rfl := List.eq_nil_of_length_eq_zero hn
    exact twice_nil A c u s t p w hu
  cases hp : perOk s
  · exact twice_per l A c u s t p w hs hi hu hn (.inl hp)
  cases hq : perOk t
  · exact twice_per l A c u s t p w hs hi hu hn (.inr hq)
  · exact twice_yes l A c u s t p w hs hi hu hn hp hq u0 u1 p0 p1 hroom
end Go.Proofs.Ytphapnooonjnmaa
