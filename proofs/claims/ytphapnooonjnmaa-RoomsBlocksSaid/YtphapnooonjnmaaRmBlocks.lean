/-
  The law 'RoomsBlocks': the walk.
-/
import Derived.Test.YtphapnooonjnmaaRmHead
import Derived.Test.YtphapnooonjnmaaRmUse
namespace Go.Proofs.Ytphapnooonjnmaa
set_option linter.unusedSimpArgs false
set_option linter.unusedVariables false
open Go.RowKit
open Go.Sort (grow size_grow)

set_option maxHeartbeats 4000000
set_option maxRecDepth 100000
theorem blocks_no (l : List Room) (A : Option Addr) (c : Nat) (u : Int) (s : Spn) (p : Int) (w : World) (hs : SlRoom w A l) (hi : IdsOk l) (hu : use16 l = false) :
    Calls Try.prog 4 #[.slice A l.length c, .int .u8 u, s.v, .int .u16 p] w fun e w' => e = .returned (.bool true) ∧ Below w.heap.size w w' := by
  go_enter Try.func4, Try.ntmps4
  go_wp2_with fail
  refine (head16_any _).mono ?_
  rintro e w1 ⟨rfl, hb1⟩; have hz1 := hb1.size; (try simp only [World.size_alloc, World.size_setCell, World.size_drew, size_drewN', size_grow, size_redrawn] at hz1); obtain ⟨hc1, hf1⟩ := bcellB (B := w.heap.size + 1) hb1 (by first | omega | (simp only [World.size_alloc, World.size_setCell, World.size_drew, size_drewN', size_grow, size_redrawn]; omega))
  have B1 : Below w.heap.size w w1 := (by repeat' (first | (with_reducible exact Below.refl _ _) | (with_reducible assumption) | (with_reducible refine below_drewN ?_ _) | (with_reducible refine Below.drew ?_) | (with_reducible refine below_regrown_up _ _ ?_ ?_) | (with_reducible refine Below.alloc ?_ ?_ _) | (with_reducible refine Below.setCell ?_ ?_ _) | (with_reducible refine below_up ?_ ?_ (by assumption)) | (with_reducible exact Nat.le_refl _) | omega | (simp; done) | (simp; omega)))
  go_wp2_with fail
  refine (usable16_any l A c _ (hs.up B1) hi).mono ?_
  rintro e w2 ⟨rfl, hb2⟩; have hz2 := hb2.size; (try simp only [World.size_alloc, World.size_setCell, World.size_drew, size_drewN', size_grow, size_redrawn] at hz2); obtain ⟨hc2, hf2⟩ := bcellB (B := w.heap.size + 1) hb2 (by first | omega | (simp only [World.size_alloc, World.size_setCell, World.size_drew, size_drewN', size_grow, size_redrawn]; omega))
  rw [hu]
  have B2 := below_up B1 B1.size hb2
  go_wp2_with fail
  go_ret
  exact ⟨ret_bool (by simp), B2⟩
theorem blocks_nil (A : Option Addr) (c : Nat) (u : Int) (s : Spn) (p : Int) (w : World) (hu : use16 [] = true) :
    Calls Try.prog 4 #[.slice A 0 c, .int .u8 u, s.v, .int .u16 p] w fun e w' => e = .returned (.bool true) ∧ Below w.heap.size w w' := by
  have hs : SlRoom w A [] := SlRoom.nil_
  have hi : IdsOk [] := fun r hr => by cases hr
  go_enter Try.func4, Try.ntmps4
  go_wp2_with fail
  refine (head16_any _).mono ?_
  rintro e w1 ⟨rfl, hb1⟩; have hz1 := hb1.size; (try simp only [World.size_alloc, World.size_setCell, World.size_drew, size_drewN', size_grow, size_redrawn] at hz1); obtain ⟨hc1, hf1⟩ := bcellB (B := w.heap.size + 1) hb1 (by first | omega | (simp only [World.size_alloc, World.size_setCell, World.size_drew, size_drewN', size_grow, size_redrawn]; omega))
  have B1 : Below w.heap.size w w1 := (by repeat' (first | (with_reducible exact Below.refl _ _) | (with_reducible assumption) | (with_reducible refine below_drewN ?_ _) | (with_reducible refine Below.drew ?_) | (with_reducible refine below_regrown_up _ _ ?_ ?_) | (with_reducible refine Below.alloc ?_ ?_ _) | (with_reducible refine Below.setCell ?_ ?_ _) | (with_reducible refine below_up ?_ ?_ (by assumption)) | (with_reducible exact Nat.le_refl _) | omega | (simp; done) | (simp; omega)))
  go_wp2_with fail
  refine (usable16_any [] A c _ (hs.up B1) hi).mono ?_
  rintro e w2 ⟨rfl, hb2⟩; have hz2 := hb2.size; (try simp only [World.size_alloc, World.size_setCell, World.size_drew, size_drewN', size_grow, size_redrawn] at hz2); obtain ⟨hc2, hf2⟩ := bcellB (B := w.heap.size + 1) hb2 (by first | omega | (simp only [World.size_alloc, World.size_setCell, World.size_drew, size_drewN', size_grow, size_redrawn]; omega))
  rw [hu]
  have B2 := below_up B1 B1.size hb2
  go_wp2_with fail
  go_ret
  exact ⟨ret_bool (by simp), B2⟩
theorem blocks_arg (l : List Room) (A : Option Addr) (c : Nat) (u : Int) (s : Spn) (p : Int) (w : World) (hs : SlRoom w A l) (hi : IdsOk l) (hu : use16 l = true) (hn : 0 < l.length) (hp : perOk s = false)
    (u0 : 0 ≤ u) (u1 : u ≤ 255) (hroom : l.length ≤ c) :
    Calls Try.prog 4 #[.slice A l.length c, .int .u8 u, s.v, .int .u16 p] w fun e w' => e = .returned (.bool true) ∧ Below w.heap.size w w' := by
  have hn1 : ((l.length : Int) == 0) = false := by rw [beq_eq_false_iff_ne]; omega
  have hn2 : l.length ≠ 0 := by omega
  obtain ⟨h40, hfew, hv⟩ := use16_iff.1 hu
  have hT := fewR_tame hfew hi
  have hk0 : 0 ≤ u % (l.length : Int) := Int.emod_nonneg _ (by omega)
  have hk1 : u % (l.length : Int) < (l.length : Int) := Int.emod_lt_of_pos _ (by omega)
  obtain ⟨k, hkk⟩ : ∃ k : Nat, u % (l.length : Int) = k := ⟨(u % (l.length : Int)).toNat, by omega⟩
  rw [hkk] at hk0 hk1
  have hk : k < l.length := by omega
  have hblk := use_blk hfew hk
  have HT := Lib.hid (And.intro hT hv)
  clear hT hv
  go_enter Try.func4, Try.ntmps4
  go_wp2_with fail
  refine (head16_any _).mono ?_
  rintro e w1 ⟨rfl, hb1⟩; have hz1 := hb1.size; (try simp only [World.size_alloc, World.size_setCell, World.size_drew, size_drewN', size_grow, size_redrawn] at hz1); obtain ⟨hc1, hf1⟩ := bcellB (B := w.heap.size + 1) hb1 (by first | omega | (simp only [World.size_alloc, World.size_setCell, World.size_drew, size_drewN', size_grow, size_redrawn]; omega))
  have B1 : Below w.heap.size w w1 := (by repeat' (first | (with_reducible exact Below.refl _ _) | (with_reducible assumption) | (with_reducible refine below_drewN ?_ _) | (with_reducible refine Below.drew ?_) | (with_reducible refine below_regrown_up _ _ ?_ ?_) | (with_reducible refine Below.alloc ?_ ?_ _) | (with_reducible refine Below.setCell ?_ ?_ _) | (with_reducible refine below_up ?_ ?_ (by assumption)) | (with_reducible exact Nat.le_refl _) | omega | (simp; done) | (simp; omega)))
  go_wp2_with fail
  refine (usable16_any l A c _ (hs.up B1) hi).mono ?_
  rintro e w2 ⟨rfl, hb2⟩; have hz2 := hb2.size; (try simp only [World.size_alloc, World.size_setCell, World.size_drew, size_drewN', size_grow, size_redrawn] at hz2); obtain ⟨hc2, hf2⟩ := bcellB (B := w.heap.size + 1) hb2 (by first | omega | (simp only [World.size_alloc, World.size_setCell, World.size_drew, size_drewN', size_grow, size_redrawn]; omega))
  rw [hu]
  have B2 := below_up B1 B1.size hb2
  go_wp2_with fail
  have x02 : w2.cell? ⟨w.heap.size, 0, none⟩ = some (.int .i64 s.frm) := by go_simp
  have x12 : w2.cell? ⟨w.heap.size, 1, none⟩ = some (.int .i64 s.til) := by go_simp
  have l2 : w.heap.size < w2.heap.size := by omega
  clear hc1 hc2 hf1 hf2
  have hs0 := hs
  obtain ⟨b, off, A', c', hAe, hbl, hcell, hsp⟩ := (hs.up B2).at_ hk
  subst hAe
  have hs2 := hs0.up B2
  have q0 := hcell 0 _ rfl
  rw [Nat.add_zero] at q0
  clear hcell hsp
  go_region_law (go_simp; go_at_call 17; refine (block_no _ c _ s _ (hs2.up (by repeat' (first | (with_reducible exact Below.refl _ _) | (with_reducible assumption) | (with_reducible refine below_drewN ?_ _) | (with_reducible refine Below.drew ?_) | (with_reducible refine below_regrown_up _ _ ?_ ?_) | (with_reducible refine Below.alloc ?_ ?_ _) | (with_reducible refine Below.setCell ?_ ?_ _) | (with_reducible refine below_up ?_ ?_ (by assumption)) | (with_reducible exact Nat.le_refl _) | omega | (simp; done) | (simp; omega)))) HT.out.1 hroom (by omega) hp).mono ?_; rintro e w5 ⟨⟨A5, c5, rfl⟩, b5⟩)
  all_goals
    have B5 := below_up B2.drew B2.size b5
    have y0 := (b5.cell (p := ⟨w.heap.size, 0, none⟩) l2).trans x02
    have y1 := (b5.cell (p := ⟨w.heap.size, 1, none⟩) l2).trans x12
    go_wp2_with fail
    refine (rperiod_any s _).mono ?_
    rintro e w6 ⟨rfl, b6⟩
    rw [hp]
    go_wp2_with fail
    go_ret
    exact ⟨ret_bool (by simp), below_up B5 B5.size b6⟩
theorem room_slot {w : World} {g k : Nat} {L : List RoomA} (h : Sl w w.heap.size 6 encA (some ⟨g, 0, none⟩) L) (hk : k < L.length) : ∃ a n c, w.cell? ⟨g, k * 6 + 5, none⟩ = some (.slice a n c) := by
  have := (h.cells hk).2 5 _ rfl
  rw [Nat.zero_add] at this
  exact ⟨_, _, _, this⟩
theorem blocks_yes (l : List Room) (A : Option Addr) (c : Nat) (u : Int) (s : Spn) (p : Int) (w : World) (hs : SlRoom w A l) (hi : IdsOk l) (hu : use16 l = true) (hn : 0 < l.length) (hp : perOk s = true)
    (u0 : 0 ≤ u) (u1 : u ≤ 255) (p0 : 0 ≤ p) (p1 : p ≤ 65535) (hroom : l.length ≤ c) :
    Calls Try.prog 4 #[.slice A l.length c, .int .u8 u, s.v, .int .u16 p] w fun e w' => e = .returned (.bool true) ∧ Below w.heap.size w w' := by
  have hn1 : ((l.length : Int) == 0) = false := by rw [beq_eq_false_iff_ne]; omega
  have hn2 : l.length ≠ 0 := by omega
  obtain ⟨h40, hfew, hv⟩ := use16_iff.1 hu
  have hT := fewR_tame hfew hi
  have hk0 : 0 ≤ u % (l.length : Int) := Int.emod_nonneg _ (by omega)
  have hk1 : u % (l.length : Int) < (l.length : Int) := Int.emod_lt_of_pos _ (by omega)
  obtain ⟨k, hkk⟩ : ∃ k : Nat, u % (l.length : Int) = k := ⟨(u % (l.length : Int)).toNat, by omega⟩
  rw [hkk] at hk0 hk1
  have hk : k < l.length := by omega
  have hblk := use_blk hfew hk
  have HT := Lib.hid (And.intro hT hv)
  clear hT hv
  obtain ⟨n, hnn⟩ : ∃ n : Int, p % 366 = n := ⟨_, rfl⟩
  have n0 : 0 ≤ n := by omega
  have n1 : n ≤ 365 := by omega
  have hw1 : IntKind.i64.wrap (n + 1) = n + 1 := IntWalk.i64_in _ (by omega)
  go_enter Try.func4, Try.ntmps4
  go_wp2_with fail
  refine (head16_any _).mono ?_
  rintro e w1 ⟨rfl, hb1⟩; have hz1 := hb1.size; (try simp only [World.size_alloc, World.size_setCell, World.size_drew, size_drewN', size_grow, size_redrawn] at hz1); obtain ⟨hc1, hf1⟩ := bcellB (B := w.heap.size + 1) hb1 (by first | omega | (simp only [World.size_alloc, World.size_setCell, World.size_drew, size_drewN', size_grow, size_redrawn]; omega))
  have B1 : Below w.heap.size w w1 := (by repeat' (first | (with_reducible exact Below.refl _ _) | (with_reducible assumption) | (with_reducible refine below_drewN ?_ _) | (with_reducible refine Below.drew ?_) | (with_reducible refine below_regrown_up _ _ ?_ ?_) | (with_reducible refine Below.alloc ?_ ?_ _) | (with_reducible refine Below.setCell ?_ ?_ _) | (with_reducible refine below_up ?_ ?_ (by assumption)) | (with_reducible exact Nat.le_refl _) | omega | (simp; done) | (simp; omega)))
  go_wp2_with fail
  refine (usable16_any l A c _ (hs.up B1) hi).mono ?_
  rintro e w2 ⟨rfl, hb2⟩; have hz2 := hb2.size; (try simp only [World.size_alloc, World.size_setCell, World.size_drew, size_drewN', size_grow, size_redrawn] at hz2); obtain ⟨hc2, hf2⟩ := bcellB (B := w.heap.size + 1) hb2 (by first | omega | (simp only [World.size_alloc, World.size_setCell, World.size_drew, size_drewN', size_grow, size_redrawn]; omega))
  rw [hu]
  have B2 := below_up B1 B1.size hb2
  go_wp2_with fail
  have x02 : w2.cell? ⟨w.heap.size, 0, none⟩ = some (.int .i64 s.frm) := by go_simp
  have x12 : w2.cell? ⟨w.heap.size, 1, none⟩ = some (.int .i64 s.til) := by go_simp
  have l2 : w.heap.size < w2.heap.size := by omega
  clear hc1 hc2 hf1 hf2
  have hs0 := hs
  obtain ⟨b, off, A', c', hAe, hbl, hcell, hsp⟩ := (hs.up B2).at_ hk
  subst hAe
  have hs2 := hs0.up B2
  have q0 := hcell 0 _ rfl
  have q1 := hcell 1 _ rfl
  have q2 := hcell 2 _ rfl
  have q3 := hcell 3 _ rfl
  have q4 := hcell 4 _ rfl
  have q5 := hcell 5 _ rfl
  rw [Nat.add_zero] at q0
  clear hcell
  have hs2' : SlRoom w2 (some ⟨b, off, none⟩) (l.set k (l[k].with_ l[k].blk)) := by rw [set_same hk]; exact hs2
  have key := fun (W : World) (hW : Below w2.heap.size w2 W) => block_at hk (b := l[k].blk) (by rw [set_same hk]; exact HT.out.2) (by rw [set_same hk]; exact HT.out.1) (by omega) (some ⟨b, off, none⟩) c s hp W (hs2'.up hW) hroom
  have HK := Lib.hid key
  clear key hs2'
  go_region_law (go_simp; go_at_call 17; refine (HK.out _ (by repeat' (first | (with_reducible exact Below.refl _ _) | (with_reducible assumption) | (with_reducible refine below_drewN ?_ _) | (with_reducible refine Below.drew ?_) | (with_reducible refine below_regrown_up _ _ ?_ ?_) | (with_reducible refine Below.alloc ?_ ?_ _) | (with_reducible refine Below.setCell ?_ ?_ _) | (with_reducible refine below_up ?_ ?_ (by assumption)) | (with_reducible exact Nat.le_refl _) | omega | (simp; done) | (simp; omega)))).mono ?_; rintro e w5 ⟨⟨u1, A5, c5, rfl, s5, cb5, lu5, rc5, rv5, rt5⟩, b5'⟩)
  all_goals
    have b5 : Below w2.heap.size w2 w5 := below_up (Below.refl _ _).drew (Nat.le_refl _) b5'
    clear b5' HK
    have B5 := below_up B2 B2.size b5
    have y0 := (b5.cell (p := ⟨w.heap.size, 0, none⟩) l2).trans x02
    have y1 := (b5.cell (p := ⟨w.heap.size, 1, none⟩) l2).trans x12
    have l5 : w.heap.size < w5.heap.size := Nat.lt_of_lt_of_le l2 b5.size
    clear x02 x12
    have hE1 : (l.set k (l[k].with_ u1)).length = l.length := List.length_set
    have HE1 := Lib.hid hE1
    have hk' : k < (l.set k (l[k].with_ u1)).length := by rw [hE1]; exact hk
    have hm : (l.set k (l[k].with_ u1))[k] = l[k].with_ u1 := List.getElem_set_self _
    have hok := (roomsOk_iff.1 HT.out.2).2.1 _ (List.getElem_mem hk)
    have hok1 : (l[k].with_ u1).ok = true := by
      have := (roomsOk_iff.1 rv5).2.1 _ (List.getElem_mem hk')
      rwa [hm] at this
    have hf1 : freeS l[k] (nightS n) = (!has l[k].blk n, 0) := free_night_ok hok n0 n1
    have hf2 : freeS (l[k].with_ u1) (nightS n) = (!(has l[k].blk n || inS s n), 0) := by
      rw [free_night_ok hok1 n0 n1]
      have := cb5.2.2 n
      rw [has_one] at this
      unfold fU at this
      show (!has u1 n, 0) = _
      rw [this]
    have HF := Lib.hid (And.intro hf1 hf2)
    clear hf1 hf2 hok hok1 hE1
    have hx1 : (k : Int) < (l.length : Int) := hk1
    obtain ⟨b2, off2, A2, c2, hA2, hbl2, hcell2, hsp2⟩ := s5.at_ hk'
    subst hA2
    rw [hm] at hcell2
    rw [hm] at hsp2
    have hsp2' : SlSpn w5 A2 u1 := hsp2
    have r0 := hcell2 0 (.int .i64 l[k].id) rfl
    have r1 := hcell2 1 (.int .i64 l[k].house) rfl
    have r2 := hcell2 2 (.int .i64 l[k].kind) rfl
    have r3 := hcell2 3 (.int .i64 l[k].joins) rfl
    have r4 := hcell2 4 (.bool l[k].acc) rfl
    have r5 := hcell2 5 (.slice A2 u1.length c2) rfl
    rw [Nat.add_zero] at r0
    clear hcell2 hsp2 hm
    have vv := rmvalid_any (l.set k (l[k].with_ u1)) (some ⟨b2, off2, none⟩) c5 w5 s5 (by rw [HE1.out]; omega) rt5
    rw [HE1.out, rv5] at vv
    go_wp2_with fail
    refine vv.mono ?_
    rintro e w6 ⟨rfl, b6⟩
    clear vv
    have B6 := below_up B5 B5.size b6
    have b26 := below_up b5 b5.size b6
    have yy0 := (b6.cell (p := ⟨w.heap.size, 0, none⟩) l5).trans y0
    have yy1 := (b6.cell (p := ⟨w.heap.size, 1, none⟩) l5).trans y1
    have l6 : w.heap.size < w6.heap.size := Nat.lt_of_lt_of_le l5 b6.size
    have t0 := (b26.cell (p := ⟨b, _, none⟩) hbl).trans q0
    have t1 := (b26.cell (p := ⟨b, _, none⟩) hbl).trans q1
    have t2 := (b26.cell (p := ⟨b, _, none⟩) hbl).trans q2
    have t3 := (b26.cell (p := ⟨b, _, none⟩) hbl).trans q3
    have t4 := (b26.cell (p := ⟨b, _, none⟩) hbl).trans q4
    have t5 := (b26.cell (p := ⟨b, _, none⟩) hbl).trans q5
    have hbl6 : b < w6.heap.size := Nat.lt_of_lt_of_le hbl b26.size
    have rr0 := (b6.cell (p := ⟨b2, _, none⟩) hbl2).trans r0
    have rr1 := (b6.cell (p := ⟨b2, _, none⟩) hbl2).trans r1
    have rr2 := (b6.cell (p := ⟨b2, _, none⟩) hbl2).trans r2
    have rr3 := (b6.cell (p := ⟨b2, _, none⟩) hbl2).trans r3
    have rr4 := (b6.cell (p := ⟨b2, _, none⟩) hbl2).trans r4
    have rr5 := (b6.cell (p := ⟨b2, _, none⟩) hbl2).trans r5
    have hbl26 : b2 < w6.heap.size := Nat.lt_of_lt_of_le hbl2 b6.size
    clear y0 y1 q0 q1 q2 q3 q4 q5 r0 r1 r2 r3 r4 r5
    have hnat : p % 366 = n := hnn
    have HQ7 := Lib.hid (fun (W : World) (hW : Below w6.heap.size w6 W) => by
      have h := free_any l[k] A' c' (nightS n) W (hsp.up (below_up b26 b26.size hW)) (by omega)
      rw [HF.out.1] at h
      exact h)
    have HQ8 := Lib.hid (fun (W : World) (hW : Below w6.heap.size w6 W) => by
      have h := free_any (l[k].with_ u1) A2 c2 (nightS n) W (hsp2'.up (below_up b6 b6.size hW)) (show u1.length ≤ 400 by omega)
      rw [HF.out.2] at h
      exact h)
    go_wp2_with fail
    have hgr := regrown_cells w6 (B := w6.heap.size) (by omega)
    refine wp_region_quiet_below (by kernel_rfl) (by kernel_rfl) ?_
    repeat (quiet_step ((first | (go_at_call 24; exact quiet_b (span16_any _ _ _)) | (go_at_call 15; exact quiet_b (HQ7.out _ (below_regrown _ _ _))))))
    refine wpQuiet_nil ?_
    intro _ hw'
    obtain ⟨⟨dq, osq⟩, hw''⟩ := hw'
    subst hw''
    have hb7 := below_regrown w6 dq osq
    clear hgr
    generalize grow (redrawn w6 dq) osq = w7 at hb7 ⊢
    have hz7 := hb7.size
    (try simp only [World.size_alloc, World.size_setCell, World.size_drew, size_drewN', size_grow, size_redrawn] at hz7)
    obtain ⟨hc7, hf7⟩ := bcellB (B := w6.heap.size) hb7 (by first | omega | (simp only [World.size_alloc, World.size_setCell, World.size_drew, size_drewN', size_grow, size_redrawn]; omega))
    have B7 := below_up B6 B6.size hb7
    have b27 := below_up b26 b26.size hb7
    have b57 := below_up b6 b6.size hb7
    have hbl7 : b < w7.heap.size := by omega
    have hbl27 : b2 < w7.heap.size := by omega
    have l7 : w.heap.size < w7.heap.size := by omega
    go_wp2_with fail
    have hgr := regrown_cells w7 (B := w7.heap.size) (by omega)
    refine wp_region_quiet_below (by kernel_rfl) (by kernel_rfl) ?_
    repeat (quiet_step ((first | (go_at_call 24; exact quiet_b (span16_any _ _ _)) | (go_at_call 15; exact quiet_b (HQ8.out _ (below_up hb7 hz7 (below_regrown _ _ _)))))))
    refine wpQuiet_nil ?_
    intro _ hw'
    obtain ⟨⟨dq, osq⟩, hw''⟩ := hw'
    subst hw''
    have hb8 := below_regrown w7 dq osq
    clear hgr
    generalize grow (redrawn w7 dq) osq = w8 at hb8 ⊢
    have hz8 := hb8.size
    (try simp only [World.size_alloc, World.size_setCell, World.size_drew, size_drewN', size_grow, size_redrawn] at hz8)
    obtain ⟨hc8, hf8⟩ := bcellB (B := w7.heap.size) hb8 (by first | omega | (simp only [World.size_alloc, World.size_setCell, World.size_drew, size_drewN', size_grow, size_redrawn]; omega))
    have B8 := below_up B7 B7.size hb8
    have b28 := below_up b27 b27.size hb8
    have b58 := below_up b57 b57.size hb8
    have hbl8 : b < w8.heap.size := by omega
    have l8 : w.heap.size < w8.heap.size := by omega
    have p0 : w8.cell? ⟨b, off + k * 6 + 5, none⟩ = some (.slice A' l[k].blk.length c') := by
      have h1 := (hb7.cell (p := ⟨b, off + k * 6 + 5, none⟩) hbl6).trans t5
      exact (hb8.cell (p := ⟨b, off + k * 6 + 5, none⟩) hbl7).trans h1
    have p1 : w8.cell? ⟨w.heap.size, 0, none⟩ = some (.int .i64 s.frm) := by
      have h1 := (hb7.cell (p := ⟨w.heap.size, 0, none⟩) l6).trans yy0
      exact (hb8.cell (p := ⟨w.heap.size, 0, none⟩) l7).trans h1
    have p2 : w8.cell? ⟨w.heap.size, 1, none⟩ = some (.int .i64 s.til) := by
      have h1 := (hb7.cell (p := ⟨w.heap.size, 1, none⟩) l6).trans yy1
      exact (hb8.cell (p := ⟨w.heap.size, 1, none⟩) l7).trans h1
    obtain ⟨L, hLl, hLs, hLp⟩ := (s5.up b58).toA
    have hLn : L.length = l.length := by rw [← List.length_map (f := (·.1)), hLl, List.length_set]
    have HL := Lib.hid (And.intro hLl hLp)
    have HLN := Lib.hid hLn
    clear hLl hLp t0 t1 t2 t3 t4 t5 rr0 rr1 rr2 rr3 rr4 rr5 yy0 yy1 hc7 hc8 hf7 hf8 hLn
    have hnil : OwnL (w8.alloc (.cells #[] 25)) w8.heap.size 25 6 encA (.slice (some ⟨w8.heap.size, 0, none⟩) 0 0) [] := OwnL.of_block (cs := #[]) (g := w8.heap.size) (cap := 0) (heap_alloc_new w8 _) (Nat.le_refl _) rfl (by decide) rfl encA_len
    have hz8' : 0 < L.length := by rw [HLN.out]; omega
    have hk8 : k < L.length := by rw [HLN.out]; exact hk
    have S8 := Lib.hid (fun (W : World) (hW : Below w8.heap.size w8 W) => (hW.cell (p := ⟨b, off + k * 6 + 5, none⟩) hbl8).trans p0)
    cases hh : has l[k].blk n
    · by_cases h1 : n < s.frm
      · have g1 : decide (n < s.frm) = true := by rw [decide_eq_true_eq]; exact h1
        have hi1 : inS s n = false := inS_no.2 (by omega)
        rw [hi1]
        clear h1
        go_wp2_with (at_builtin; go_loud (refine wpList_append_all _ rfl (.tmp 99) (.tmp 100) 22 25 rfl w8.heap.size 6 64 encA elemRoom encA_len encA_one _ [] rfl hnil (some ⟨b2, off2, none⟩) c5 _ L (by rw [HLN.out]; rfl) (hLs.below ((Below.refl _ _).alloc (by simp) _)) (by rw [HLN.out]; simp; omega) (by first | omega | (simp; done) | (simp; omega)) (by simp) ?_); intro v9 w9 hown9 hgrow9 hat9; rw [List.nil_append] at hown9; have hb9 := below_push (B := w8.heap.size) (e := 25) (size := 6) (enc := encA) (L := []) ((Below.refl _ _).alloc (by simp) _) hnil hgrow9 (by simp); clear hat9; obtain ⟨g, cap, rfl, hgb, hgl, hle, hsl9, hfz⟩ := own_open encA_len hown9 hz8'; rw [HLN.out] at hle ⊢; obtain ⟨a1, n1', c1, gl⟩ := room_slot hsl9 hk8; have gf := hfz (k * 6 + 5); have z0 := S8.out w9 hb9; go_loud (have y80 := (hb9.cell (p := ⟨w.heap.size, 0, none⟩) l8).trans p1; have y81 := (hb9.cell (p := ⟨w.heap.size, 1, none⟩) l8).trans p2; have hwg : w.heap.size ≠ g := Nat.ne_of_lt (Nat.lt_of_lt_of_le l8 hgb)); clear hfz hsl9)
        have rc := room_cell (y := ((l[k], A', c') : RoomA)) (v := .slice A' l[k].blk.length c') (k := k) (r := 5) hown9 rfl (by rw [HLN.out]; exact hk) (by decide) (by
          have : (L[k]'(by rw [HLN.out]; exact hk)).1 = l[k].with_ u1 := by
            have h := List.getElem_map (·.1) (l := L) (i := k) (h := by rw [List.length_map, HLN.out]; exact hk)
            rw [← h]
            simp only [HL.out.1]
            exact List.getElem_set_self _
          unfold encA Room.cs
          rw [this]
          rfl) (fun z hz => by
          rcases List.mem_or_eq_of_mem_set hz with hx | rfl
          · exact HL.out.2 z hx
          · exact hsp.up b28) hb9
        have RC : Hid (SlRoom (w9.setCell ⟨g, k * 6 + 5, none⟩ (.slice A' l[k].blk.length c')) (some ⟨g, 0, none⟩) l ∧ Below w8.heap.size w8 (w9.setCell ⟨g, k * 6 + 5, none⟩ (.slice A' l[k].blk.length c'))) := Lib.hid (by
          have e : (L.set k ((l[k], A', c') : RoomA)).map (·.1) = l := by
            rw [List.map_set, HL.out.1, List.set_set]
            exact List.set_getElem_self _
          rw [e] at rc
          exact rc)
        clear rc hgrow9 hown9 hnil hLs
        obtain ⟨sO, bO⟩ := RC.out
        have hc810 := (bO.cell (p := ⟨w.heap.size, 0, none⟩) l8).trans p1
        have hc811 := (bO.cell (p := ⟨w.heap.size, 1, none⟩) l8).trans p2
        have B10 := below_up B8 B8.size bO
        have hs10 := (hs2.up b28).up bO
        generalize w9.setCell ⟨g, k * 6 + 5, none⟩ (.slice A' l[k].blk.length c') = w10 at sO bO hc810 hc811 B10 hs10 ⊢
        have t400 : ∀ r ∈ l, r.blk.length ≤ 400 := fun r hr => (HT.out.1 r hr).1
        have qq := same16_any l l (some ⟨g, 0, none⟩) (some ⟨b, off, none⟩) cap c w10 sO hs10 (by omega) t400 t400
        rw [decide_eq_true rfl] at qq
        clear RC z0 gl gf
        refine qq.mono ?_
        rintro e w11 ⟨rfl, b11⟩
        have B11 := below_up B10 B10.size b11
        go_wp2_with fail
        go_ret
        exact ⟨ret_bool (by simp), B11⟩
      · have g1 : decide (n < s.frm) = false := by rw [decide_eq_false_iff_not]; exact h1
        by_cases h2 : s.til ≤ n
        · have g2 : decide (s.til ≤ n) = true := by rw [decide_eq_true_eq]; exact h2
          have hi1 : inS s n = false := inS_no.2 (by omega)
          rw [hi1]
          clear h1 h2
          go_wp2_with (at_builtin; go_loud (refine wpList_append_all _ rfl (.tmp 99) (.tmp 100) 22 25 rfl w8.heap.size 6 64 encA elemRoom encA_len encA_one _ [] rfl hnil (some ⟨b2, off2, none⟩) c5 _ L (by rw [HLN.out]; rfl) (hLs.below ((Below.refl _ _).alloc (by simp) _)) (by rw [HLN.out]; simp; omega) (by first | omega | (simp; done) | (simp; omega)) (by simp) ?_); intro v9 w9 hown9 hgrow9 hat9; rw [List.nil_append] at hown9; have hb9 := below_push (B := w8.heap.size) (e := 25) (size := 6) (enc := encA) (L := []) ((Below.refl _ _).alloc (by simp) _) hnil hgrow9 (by simp); clear hat9; obtain ⟨g, cap, rfl, hgb, hgl, hle, hsl9, hfz⟩ := own_open encA_len hown9 hz8'; rw [HLN.out] at hle ⊢; obtain ⟨a1, n1', c1, gl⟩ := room_slot hsl9 hk8; have gf := hfz (k * 6 + 5); have z0 := S8.out w9 hb9; go_loud (have y80 := (hb9.cell (p := ⟨w.heap.size, 0, none⟩) l8).trans p1; have y81 := (hb9.cell (p := ⟨w.heap.size, 1, none⟩) l8).trans p2; have hwg : w.heap.size ≠ g := Nat.ne_of_lt (Nat.lt_of_lt_of_le l8 hgb)); clear hfz hsl9)
          have rc := room_cell (y := ((l[k], A', c') : RoomA)) (v := .slice A' l[k].blk.length c') (k := k) (r := 5) hown9 rfl (by rw [HLN.out]; exact hk) (by decide) (by
            have : (L[k]'(by rw [HLN.out]; exact hk)).1 = l[k].with_ u1 := by
              have h := List.getElem_map (·.1) (l := L) (i := k) (h := by rw [List.length_map, HLN.out]; exact hk)
              rw [← h]
              simp only [HL.out.1]
              exact List.getElem_set_self _
            unfold encA Room.cs
            rw [this]
            rfl) (fun z hz => by
            rcases List.mem_or_eq_of_mem_set hz with hx | rfl
            · exact HL.out.2 z hx
            · exact hsp.up b28) hb9
          have RC : Hid (SlRoom (w9.setCell ⟨g, k * 6 + 5, none⟩ (.slice A' l[k].blk.length c')) (some ⟨g, 0, none⟩) l ∧ Below w8.heap.size w8 (w9.setCell ⟨g, k * 6 + 5, none⟩ (.slice A' l[k].blk.length c'))) := Lib.hid (by
            have e : (L.set k ((l[k], A', c') : RoomA)).map (·.1) = l := by
              rw [List.map_set, HL.out.1, List.set_set]
              exact List.set_getElem_self _
            rw [e] at rc
            exact rc)
          clear rc hgrow9 hown9 hnil hLs
          obtain ⟨sO, bO⟩ := RC.out
          have hc810 := (bO.cell (p := ⟨w.heap.size, 0, none⟩) l8).trans p1
          have hc811 := (bO.cell (p := ⟨w.heap.size, 1, none⟩) l8).trans p2
          have B10 := below_up B8 B8.size bO
          have hs10 := (hs2.up b28).up bO
          generalize w9.setCell ⟨g, k * 6 + 5, none⟩ (.slice A' l[k].blk.length c') = w10 at sO bO hc810 hc811 B10 hs10 ⊢
          have t400 : ∀ r ∈ l, r.blk.length ≤ 400 := fun r hr => (HT.out.1 r hr).1
          have qq := same16_any l l (some ⟨g, 0, none⟩) (some ⟨b, off, none⟩) cap c w10 sO hs10 (by omega) t400 t400
          rw [decide_eq_true rfl] at qq
          clear RC z0 gl gf
          refine qq.mono ?_
          rintro e w11 ⟨rfl, b11⟩
          have B11 := below_up B10 B10.size b11
          go_wp2_with fail
          go_ret
          exact ⟨ret_bool (by simp), B11⟩
        · have g2 : decide (s.til ≤ n) = false := by rw [decide_eq_false_iff_not]; exact h2
          have hi1 : inS s n = true := inS_iff.2 (by omega)
          rw [hi1]
          clear h1 h2
          go_wp2_with (at_builtin; go_loud (refine wpList_append_all _ rfl (.tmp 99) (.tmp 100) 22 25 rfl w8.heap.size 6 64 encA elemRoom encA_len encA_one _ [] rfl hnil (some ⟨b2, off2, none⟩) c5 _ L (by rw [HLN.out]; rfl) (hLs.below ((Below.refl _ _).alloc (by simp) _)) (by rw [HLN.out]; simp; omega) (by first | omega | (simp; done) | (simp; omega)) (by simp) ?_); intro v9 w9 hown9 hgrow9 hat9; rw [List.nil_append] at hown9; have hb9 := below_push (B := w8.heap.size) (e := 25) (size := 6) (enc := encA) (L := []) ((Below.refl _ _).alloc (by simp) _) hnil hgrow9 (by simp); clear hat9; obtain ⟨g, cap, rfl, hgb, hgl, hle, hsl9, hfz⟩ := own_open encA_len hown9 hz8'; rw [HLN.out] at hle ⊢; obtain ⟨a1, n1', c1, gl⟩ := room_slot hsl9 hk8; have gf := hfz (k * 6 + 5); have z0 := S8.out w9 hb9; go_loud (have y80 := (hb9.cell (p := ⟨w.heap.size, 0, none⟩) l8).trans p1; have y81 := (hb9.cell (p := ⟨w.heap.size, 1, none⟩) l8).trans p2; have hwg : w.heap.size ≠ g := Nat.ne_of_lt (Nat.lt_of_lt_of_le l8 hgb)); clear hfz hsl9)
          have rc := room_cell (y := ((l[k], A', c') : RoomA)) (v := .slice A' l[k].blk.length c') (k := k) (r := 5) hown9 rfl (by rw [HLN.out]; exact hk) (by decide) (by
            have : (L[k]'(by rw [HLN.out]; exact hk)).1 = l[k].with_ u1 := by
              have h := List.getElem_map (·.1) (l := L) (i := k) (h := by rw [List.length_map, HLN.out]; exact hk)
              rw [← h]
              simp only [HL.out.1]
              exact List.getElem_set_self _
            unfold encA Room.cs
            rw [this]
            rfl) (fun z hz => by
            rcases List.mem_or_eq_of_mem_set hz with hx | rfl
            · exact HL.out.2 z hx
            · exact hsp.up b28) hb9
          have RC : Hid (SlRoom (w9.setCell ⟨g, k * 6 + 5, none⟩ (.slice A' l[k].blk.length c')) (some ⟨g, 0, none⟩) l ∧ Below w8.heap.size w8 (w9.setCell ⟨g, k * 6 + 5, none⟩ (.slice A' l[k].blk.length c'))) := Lib.hid (by
            have e : (L.set k ((l[k], A', c') : RoomA)).map (·.1) = l := by
              rw [List.map_set, HL.out.1, List.set_set]
              exact List.set_getElem_self _
            rw [e] at rc
            exact rc)
          clear rc hgrow9 hown9 hnil hLs
          obtain ⟨sO, bO⟩ := RC.out
          have hc810 := (bO.cell (p := ⟨w.heap.size, 0, none⟩) l8).trans p1
          have hc811 := (bO.cell (p := ⟨w.heap.size, 1, none⟩) l8).trans p2
          have B10 := below_up B8 B8.size bO
          have hs10 := (hs2.up b28).up bO
          generalize w9.setCell ⟨g, k * 6 + 5, none⟩ (.slice A' l[k].blk.length c') = w10 at sO bO hc810 hc811 B10 hs10 ⊢
          have t400 : ∀ r ∈ l, r.blk.length ≤ 400 := fun r hr => (HT.out.1 r hr).1
          have qq := same16_any l l (some ⟨g, 0, none⟩) (some ⟨b, off, none⟩) cap c w10 sO hs10 (by omega) t400 t400
          rw [decide_eq_true rfl] at qq
          clear RC z0 gl gf
          refine qq.mono ?_
          rintro e w11 ⟨rfl, b11⟩
          have B11 := below_up B10 B10.size b11
          go_wp2_with fail
          go_ret
          exact ⟨ret_bool (by simp), B11⟩
    · go_wp2_with (at_builtin; go_loud (refine wpList_append_all _ rfl (.tmp 99) (.tmp 100) 22 25 rfl w8.heap.size 6 64 encA elemRoom encA_len encA_one _ [] rfl hnil (some ⟨b2, off2, none⟩) c5 _ L (by rw [HLN.out]; rfl) (hLs.below ((Below.refl _ _).alloc (by simp) _)) (by rw [HLN.out]; simp; omega) (by first | omega | (simp; done) | (simp; omega)) (by simp) ?_); intro v9 w9 hown9 hgrow9 hat9; rw [List.nil_append] at hown9; have hb9 := below_push (B := w8.heap.size) (e := 25) (size := 6) (enc := encA) (L := []) ((Below.refl _ _).alloc (by simp) _) hnil hgrow9 (by simp); clear hat9; obtain ⟨g, cap, rfl, hgb, hgl, hle, hsl9, hfz⟩ := own_open encA_len hown9 hz8'; rw [HLN.out] at hle ⊢; obtain ⟨a1, n1', c1, gl⟩ := room_slot hsl9 hk8; have gf := hfz (k * 6 + 5); have z0 := S8.out w9 hb9; go_loud (have y80 := (hb9.cell (p := ⟨w.heap.size, 0, none⟩) l8).trans p1; have y81 := (hb9.cell (p := ⟨w.heap.size, 1, none⟩) l8).trans p2; have hwg : w.heap.size ≠ g := Nat.ne_of_lt (Nat.lt_of_lt_of_le l8 hgb)); clear hfz hsl9)
      have rc := room_cell (y := ((l[k], A', c') : RoomA)) (v := .slice A' l[k].blk.length c') (k := k) (r := 5) hown9 rfl (by rw [HLN.out]; exact hk) (by decide) (by
        have : (L[k]'(by rw [HLN.out]; exact hk)).1 = l[k].with_ u1 := by
          have h := List.getElem_map (·.1) (l := L) (i := k) (h := by rw [List.length_map, HLN.out]; exact hk)
          rw [← h]
          simp only [HL.out.1]
          exact List.getElem_set_self _
        unfold encA Room.cs
        rw [this]
        rfl) (fun z hz => by
        rcases List.mem_or_eq_of_mem_set hz with hx | rfl
        · exact HL.out.2 z hx
        · exact hsp.up b28) hb9
      have RC : Hid (SlRoom (w9.setCell ⟨g, k * 6 + 5, none⟩ (.slice A' l[k].blk.length c')) (some ⟨g, 0, none⟩) l ∧ Below w8.heap.size w8 (w9.setCell ⟨g, k * 6 + 5, none⟩ (.slice A' l[k].blk.length c'))) := Lib.hid (by
        have e : (L.set k ((l[k], A', c') : RoomA)).map (·.1) = l := by
          rw [List.map_set, HL.out.1, List.set_set]
          exact List.set_getElem_self _
        rw [e] at rc
        exact rc)
      clear rc hgrow9 hown9 hnil hLs
      obtain ⟨sO, bO⟩ := RC.out
      have hc810 := (bO.cell (p := ⟨w.heap.size, 0, none⟩) l8).trans p1
      have hc811 := (bO.cell (p := ⟨w.heap.size, 1, none⟩) l8).trans p2
      have B10 := below_up B8 B8.size bO
      have hs10 := (hs2.up b28).up bO
      generalize w9.setCell ⟨g, k * 6 + 5, none⟩ (.slice A' l[k].blk.length c') = w10 at sO bO hc810 hc811 B10 hs10 ⊢
      have t400 : ∀ r ∈ l, r.blk.length ≤ 400 := fun r hr => (HT.out.1 r hr).1
      have qq := same16_any l l (some ⟨g, 0, none⟩) (some ⟨b, off, none⟩) cap c w10 sO hs10 (by omega) t400 t400
      rw [decide_eq_true rfl] at qq
      clear RC z0 gl gf
      refine qq.mono ?_
      rintro e w11 ⟨rfl, b11⟩
      have B11 := below_up B10 B10.size b11
      go_wp2_with fail
      go_ret
      exact ⟨ret_bool (by simp), B11⟩
theorem law_rmblocks (l : List Room) (A : Option Addr) (c : Nat) (u : Int) (s : Spn) (p : Int) (w : World) (hs : SlRoom w A l) (hi : IdsOk l)
    (u0 : 0 ≤ u) (u1 : u ≤ 255) (p0 : 0 ≤ p) (p1 : p ≤ 65535) (hroom : l.length ≤ c) :
    Calls Try.prog 4 #[.slice A l.length c, .int .u8 u, s.v, .int .u16 p] w fun e w' => e = .returned (.bool true) ∧ Below w.heap.size w w' := by
  cases hu : use16 l
  · exact blocks_no l A c u s p w hs hi hu
  rcases Nat.eq_zero_or_pos l.length with hn | hn
  · obtain rfl := List.eq_nil_of_length_eq_zero hn
    exact blocks_nil A c u s p w hu
  cases hp : perOk s
  · exact blocks_arg l A c u s p w hs hi hu hn hp u0 u1 hroom
  · exact blocks_yes l A c u s p w hs hi hu hn hp u0 u1 p0 p1 hroom
end Go.Proofs.Ytphapnooonjnmaa
