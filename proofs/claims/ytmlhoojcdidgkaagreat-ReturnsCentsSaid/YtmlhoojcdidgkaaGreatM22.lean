/-
  Texts, one behind the other: FoW9, FoW10.
-/
import Derived.Test.YtmlhoojcdidgkaaGreatM21
/-
  Package folio: forms, and the pieces of a step.
-/
namespace Go.Proofs.YtmlhoojcdidgkaaGreat
set_option linter.unusedSimpArgs false
set_option linter.unusedVariables false
open Go.RowKit Go.Maps
open Go.Sort (grow size_grow)


set_option maxHeartbeats 4000000
set_option maxRecDepth 100000
theorem index_int_any (xs : List Int) (A : Option Addr) (c : Nat) (v : Int) (w : World) (hs : SlInt w A xs) (hl : xs.length ≤ 1000000) :
    Calls Tryz.prog 115 #[.slice A xs.length c, .int .i64 v] w fun e w' => (∃ k : Int, e = .returned (.int .i64 k) ∧ decide (0 ≤ k) = decide (v ∈ xs) ∧ -1 ≤ k) ∧ Below w.heap.size w w' := by
  go_enter Tryz.func115, Tryz.ntmps115
  go_wp2
  go_loopw [8] (fun k wr => ∃ m : Nat, m ≤ xs.length ∧ k = .int .i64 m ∧ Hid (v ∉ xs.take m) ∧ Below w.heap.size w wr) (fun k _ => xs.length - (intOf k).toNat)
  case atStart => exact ⟨0, by omega, rfl, Lib.hid (by simp), Below.refl _ _⟩
  case round =>
    obtain ⟨m, hm, rfl, hn, hbw⟩ := hrel
    have hbz := hbw.size
    by_cases hlt : m < xs.length
    · obtain ⟨b1, off1, rfl, hbl1, hcell1⟩ := (hs.up hbw).at_ hlt
      have p1 := hcell1 0 _ rfl
      rw [Nat.add_zero, Nat.mul_one] at p1
      clear hcell1
      have hx1 : (m : Int) < (xs.length : Int) := by omega
      have hx4 : (0 : Int) ≤ (m : Int) := by omega
      by_cases he : v = xs[m]
      · have hb2 : (v == xs[m]) = true := by simpa using he
        have HE := Lib.hid he
        clear he
        go_wp2_with fail
        (try (go_quiet (fail); go_wp2_with fail))
        go_ret
        refine ⟨⟨m, rfl, ?_, by omega⟩, (by repeat' (first | (with_reducible exact Below.refl _ _) | (with_reducible assumption) | (with_reducible refine below_drewN ?_ _) | (with_reducible refine Below.drew ?_) | (with_reducible refine below_regrown_up _ _ ?_ ?_) | (with_reducible refine Below.alloc ?_ ?_ _) | (with_reducible refine Below.setCell ?_ ?_ _) | (with_reducible refine below_up ?_ ?_ (by assumption)) | (with_reducible exact Nat.le_refl _) | omega | (simp; done) | (simp; omega)))⟩
        have h1 : v ∈ xs := by rw [HE.out]; exact List.getElem_mem hlt
        rw [decide_eq_true h1, decide_eq_true hx4]
      · have hb2 : (v == xs[m]) = false := by simpa using he
        have HE := Lib.hid he
        clear he
        go_wp2_with fail
        (try (go_quiet (fail); go_wp2_with fail))
        go_roundw
        case rel =>
          refine ⟨m + 1, by omega, by go_num, Lib.hid ?_, (by repeat' (first | (with_reducible exact Below.refl _ _) | (with_reducible assumption) | (with_reducible refine below_drewN ?_ _) | (with_reducible refine Below.drew ?_) | (with_reducible refine below_regrown_up _ _ ?_ ?_) | (with_reducible refine Below.alloc ?_ ?_ _) | (with_reducible refine Below.setCell ?_ ?_ _) | (with_reducible refine below_up ?_ ?_ (by assumption)) | (with_reducible exact Nat.le_refl _) | omega | (simp; done) | (simp; omega)))⟩
          rw [List.take_succ_eq_append_getElem hlt, List.mem_append]
          rintro (h | h)
          · exact hn.out h
          · exact HE.out (by simpa using h)
        case measure => simp [intOf]; omega
    · obtain rfl : m = xs.length := by omega
      go_wp2
      go_ret
      refine ⟨⟨-1, rfl, ?_, by omega⟩, hbw⟩
      have := hn.out
      rw [List.take_of_length_le (Nat.le_refl _)] at this
      rw [decide_eq_false this]
      rfl
theorem contains_int_any (xs : List Int) (A : Option Addr) (c : Nat) (v : Int) (w : World) (hs : SlInt w A xs) (hl : xs.length ≤ 1000000) :
    Calls Tryz.prog 83 #[.slice A xs.length c, .int .i64 v] w fun e w' => e = .returned (.bool (decide (v ∈ xs))) ∧ Below w.heap.size w w' := by
  go_enter Tryz.func83, Tryz.ntmps83
  go_wp2_with fail
  refine (index_int_any xs A c v w hs hl).mono ?_
  rintro e w1 ⟨⟨k, rfl, hk, hk1⟩, hb1⟩
  have HK := Lib.hid hk
  clear hk
  go_wp2_with fail
  go_ret
  exact ⟨ret_bool HK.out, hb1⟩
theorem fformed_any (gc gm base : Nat) (V : Env) (At : Option Addr) (ct : Nat) (es : List Entry) (day : Int) (ev : Value) (x : Deed) (w : World) (h : Bk w gc gm base V At ct es day ev) :
    Calls Tryz.prog 46 #[.pointer (some ⟨gc, 0, none⟩), x.v] w fun e w' => e = .returned (.bool (formedD day x)) ∧ Below w.heap.size w w' := by
  have hgc := h.lt
  have le0 := h.le
  have lgc : gc < w.heap.size := by omega
  have q1 : w.cell? ⟨gc, 1, none⟩ = some (.int .i64 day) := h.cell 1
  have hF : formedD day x = (inB x.kind 1 9 && inB x.day day 366 && (if x.kind = 2 ∨ x.kind = 8 ∨ x.kind = 7 then inB x.cents 1 1000000000 else if x.kind = 9 then inB x.stay 1 29 else true)) := rfl
  clear h
  cases hk : inB x.kind 1 9
  · rw [hk] at hF
    have HF := Lib.hid hF
    clear hF
    go_enter Tryz.func46, Tryz.ntmps46
    go_wp2_with fail
    refine name_world (fun w1 hw1 => ?_)
    have b1 : Below w.heap.size w w1 := by rw [hw1]; exact (by repeat' (first | (with_reducible exact Below.refl _ _) | (with_reducible assumption) | (with_reducible refine below_drewN ?_ _) | (with_reducible refine Below.drew ?_) | (with_reducible refine below_regrown_up _ _ ?_ ?_) | (with_reducible refine Below.alloc ?_ ?_ _) | (with_reducible refine Below.setCell ?_ ?_ _) | (with_reducible refine below_up ?_ ?_ (by assumption)) | (with_reducible exact Nat.le_refl _) | omega | (simp; done) | (simp; omega)))
    have y0 : w1.cell? ⟨w.heap.size, 0, none⟩ = some (.int .i64 x.kind) := by rw [hw1]; go_simp
    have y1 : w1.cell? ⟨w.heap.size, 1, none⟩ = some (.int .i64 x.day) := by rw [hw1]; go_simp
    have y2 : w1.cell? ⟨w.heap.size, 2, none⟩ = some (.int .i64 x.stay) := by rw [hw1]; go_simp
    have y3 : w1.cell? ⟨w.heap.size, 3, none⟩ = some (.int .i64 x.cents) := by rw [hw1]; go_simp
    have r1 : w1.cell? ⟨gc, 1, none⟩ = some (.int .i64 day) := (b1.cell (p := ⟨gc, 1, none⟩) lgc).trans q1
    have l1 : w.heap.size < w1.heap.size := by rw [hw1]; simp
    have lg1 : gc < w1.heap.size := by omega
    clear hw1
    have hgr := regrown_cells w1 (B := w1.heap.size) (by omega)
    refine wp_region_quiet_below (by kernel_rfl) (by kernel_rfl) ?_
    repeat (first | (go_big_quiet_step ((go_at_call 80; exact quiet_s (fo_within_any _ _ _ _)))) | (quiet_step ((go_at_call 80; exact quiet_s (fo_within_any _ _ _ _)))))
    refine wpQuiet_nil ?_
    intro _ hw'
    obtain ⟨⟨dq, osq⟩, hw''⟩ := hw'
    subst hw''
    have hb2 := below_regrown w1 dq osq
    clear hgr
    generalize grow (redrawn w1 dq) osq = w2 at hb2 ⊢
    have hz2 := hb2.size
    (try simp only [World.size_alloc, World.size_setCell, World.size_drew, size_drewN', size_grow, size_redrawn] at hz2)
    obtain ⟨hc2, hf2⟩ := bcellB (B := w1.heap.size) hb2 (by first | omega | (simp only [World.size_alloc, World.size_setCell, World.size_drew, size_drewN', size_grow, size_redrawn]; omega))
    (try rw [hk])
    (try rw [hd])
    have b02 := below_up b1 b1.size hb2
    go_wp2_with (go_at_call 80; refine (fo_within_any _ _ _ _).mono ?_; rintro e w' ⟨rfl, rfl⟩)
    go_ret
    refine ⟨ret_bool ?_, b02⟩
    rw [HF.out]
    rfl
  · cases hd : inB x.day day 366
    · rw [hk, hd] at hF
      have HF := Lib.hid hF
      clear hF
      go_enter Tryz.func46, Tryz.ntmps46
      go_wp2_with fail
      refine name_world (fun w1 hw1 => ?_)
      have b1 : Below w.heap.size w w1 := by rw [hw1]; exact (by repeat' (first | (with_reducible exact Below.refl _ _) | (with_reducible assumption) | (with_reducible refine below_drewN ?_ _) | (with_reducible refine Below.drew ?_) | (with_reducible refine below_regrown_up _ _ ?_ ?_) | (with_reducible refine Below.alloc ?_ ?_ _) | (with_reducible refine Below.setCell ?_ ?_ _) | (with_reducible refine below_up ?_ ?_ (by assumption)) | (with_reducible exact Nat.le_refl _) | omega | (simp; done) | (simp; omega)))
      have y0 : w1.cell? ⟨w.heap.size, 0, none⟩ = some (.int .i64 x.kind) := by rw [hw1]; go_simp
      have y1 : w1.cell? ⟨w.heap.size, 1, none⟩ = some (.int .i64 x.day) := by rw [hw1]; go_simp
      have y2 : w1.cell? ⟨w.heap.size, 2, none⟩ = some (.int .i64 x.stay) := by rw [hw1]; go_simp
      have y3 : w1.cell? ⟨w.heap.size, 3, none⟩ = some (.int .i64 x.cents) := by rw [hw1]; go_simp
      have r1 : w1.cell? ⟨gc, 1, none⟩ = some (.int .i64 day) := (b1.cell (p := ⟨gc, 1, none⟩) lgc).trans q1
      have l1 : w.heap.size < w1.heap.size := by rw [hw1]; simp
      have lg1 : gc < w1.heap.size := by omega
      clear hw1
      have hgr := regrown_cells w1 (B := w1.heap.size) (by omega)
      refine wp_region_quiet_below (by kernel_rfl) (by kernel_rfl) ?_
      repeat (first | (go_big_quiet_step ((go_at_call 80; exact quiet_s (fo_within_any _ _ _ _)))) | (quiet_step ((go_at_call 80; exact quiet_s (fo_within_any _ _ _ _)))))
      refine wpQuiet_nil ?_
      intro _ hw'
      obtain ⟨⟨dq, osq⟩, hw''⟩ := hw'
      subst hw''
      have hb2 := below_regrown w1 dq osq
      clear hgr
      generalize grow (redrawn w1 dq) osq = w2 at hb2 ⊢
      have hz2 := hb2.size
      (try simp only [World.size_alloc, World.size_setCell, World.size_drew, size_drewN', size_grow, size_redrawn] at hz2)
      obtain ⟨hc2, hf2⟩ := bcellB (B := w1.heap.size) hb2 (by first | omega | (simp only [World.size_alloc, World.size_setCell, World.size_drew, size_drewN', size_grow, size_redrawn]; omega))
      (try rw [hk])
      (try rw [hd])
      have b02 := below_up b1 b1.size hb2
      go_wp2_with (go_at_call 80; refine (fo_within_any _ _ _ _).mono ?_; rintro e w' ⟨rfl, rfl⟩)
      go_ret
      refine ⟨ret_bool ?_, b02⟩
      rw [HF.out]
      rfl
    · rw [hk, hd] at hF
      have hkk := inB_iff.1 hk
      by_cases k2 : x.kind = 2
      · rw [if_pos (.inl k2)] at hF
        have HF := Lib.hid hF
        have t2 : (x.kind == 2) = true := by simpa using k2
        clear hF k2 hkk
        go_enter Tryz.func46, Tryz.ntmps46
        go_wp2_with fail
        refine name_world (fun w1 hw1 => ?_)
        have b1 : Below w.heap.size w w1 := by rw [hw1]; exact (by repeat' (first | (with_reducible exact Below.refl _ _) | (with_reducible assumption) | (with_reducible refine below_drewN ?_ _) | (with_reducible refine Below.drew ?_) | (with_reducible refine below_regrown_up _ _ ?_ ?_) | (with_reducible refine Below.alloc ?_ ?_ _) | (with_reducible refine Below.setCell ?_ ?_ _) | (with_reducible refine below_up ?_ ?_ (by assumption)) | (with_reducible exact Nat.le_refl _) | omega | (simp; done) | (simp; omega)))
        have y0 : w1.cell? ⟨w.heap.size, 0, none⟩ = some (.int .i64 x.kind) := by rw [hw1]; go_simp
        have y1 : w1.cell? ⟨w.heap.size, 1, none⟩ = some (.int .i64 x.day) := by rw [hw1]; go_simp
        have y2 : w1.cell? ⟨w.heap.size, 2, none⟩ = some (.int .i64 x.stay) := by rw [hw1]; go_simp
        have y3 : w1.cell? ⟨w.heap.size, 3, none⟩ = some (.int .i64 x.cents) := by rw [hw1]; go_simp
        have r1 : w1.cell? ⟨gc, 1, none⟩ = some (.int .i64 day) := (b1.cell (p := ⟨gc, 1, none⟩) lgc).trans q1
        have l1 : w.heap.size < w1.heap.size := by rw [hw1]; simp
        have lg1 : gc < w1.heap.size := by omega
        clear hw1
        have hgr := regrown_cells w1 (B := w1.heap.size) (by omega)
        refine wp_region_quiet_below (by kernel_rfl) (by kernel_rfl) ?_
        repeat (first | (go_big_quiet_step ((go_at_call 80; exact quiet_s (fo_within_any _ _ _ _)))) | (quiet_step ((go_at_call 80; exact quiet_s (fo_within_any _ _ _ _)))))
        refine wpQuiet_nil ?_
        intro _ hw'
        obtain ⟨⟨dq, osq⟩, hw''⟩ := hw'
        subst hw''
        have hb2 := below_regrown w1 dq osq
        clear hgr
        generalize grow (redrawn w1 dq) osq = w2 at hb2 ⊢
        have hz2 := hb2.size
        (try simp only [World.size_alloc, World.size_setCell, World.size_drew, size_drewN', size_grow, size_redrawn] at hz2)
        obtain ⟨hc2, hf2⟩ := bcellB (B := w1.heap.size) hb2 (by first | omega | (simp only [World.size_alloc, World.size_setCell, World.size_drew, size_drewN', size_grow, size_redrawn]; omega))
        (try rw [hk])
        (try rw [hd])
        have b02 := below_up b1 b1.size hb2
        go_wp2_with (go_at_call 80; refine (fo_within_any _ _ _ _).mono ?_; rintro e w' ⟨rfl, rfl⟩)
        go_ret
        refine ⟨ret_bool ?_, b02⟩
        rw [HF.out]
        rfl
      · have t2 : (x.kind == 2) = false := by simpa using k2
        by_cases k8 : x.kind = 8
        · rw [if_pos (.inr (.inl k8))] at hF
          have HF := Lib.hid hF
          have t8 : (x.kind == 8) = true := by simpa using k8
          clear hF k2 k8 hkk
          go_enter Tryz.func46, Tryz.ntmps46
          go_wp2_with fail
          refine name_world (fun w1 hw1 => ?_)
          have b1 : Below w.heap.size w w1 := by rw [hw1]; exact (by repeat' (first | (with_reducible exact Below.refl _ _) | (with_reducible assumption) | (with_reducible refine below_drewN ?_ _) | (with_reducible refine Below.drew ?_) | (with_reducible refine below_regrown_up _ _ ?_ ?_) | (with_reducible refine Below.alloc ?_ ?_ _) | (with_reducible refine Below.setCell ?_ ?_ _) | (with_reducible refine below_up ?_ ?_ (by assumption)) | (with_reducible exact Nat.le_refl _) | omega | (simp; done) | (simp; omega)))
          have y0 : w1.cell? ⟨w.heap.size, 0, none⟩ = some (.int .i64 x.kind) := by rw [hw1]; go_simp
          have y1 : w1.cell? ⟨w.heap.size, 1, none⟩ = some (.int .i64 x.day) := by rw [hw1]; go_simp
          have y2 : w1.cell? ⟨w.heap.size, 2, none⟩ = some (.int .i64 x.stay) := by rw [hw1]; go_simp
          have y3 : w1.cell? ⟨w.heap.size, 3, none⟩ = some (.int .i64 x.cents) := by rw [hw1]; go_simp
          have r1 : w1.cell? ⟨gc, 1, none⟩ = some (.int .i64 day) := (b1.cell (p := ⟨gc, 1, none⟩) lgc).trans q1
          have l1 : w.heap.size < w1.heap.size := by rw [hw1]; simp
          have lg1 : gc < w1.heap.size := by omega
          clear hw1
          have hgr := regrown_cells w1 (B := w1.heap.size) (by omega)
          refine wp_region_quiet_below (by kernel_rfl) (by kernel_rfl) ?_
          repeat (first | (go_big_quiet_step ((go_at_call 80; exact quiet_s (fo_within_any _ _ _ _)))) | (quiet_step ((go_at_call 80; exact quiet_s (fo_within_any _ _ _ _)))))
          refine wpQuiet_nil ?_
          intro _ hw'
          obtain ⟨⟨dq, osq⟩, hw''⟩ := hw'
          subst hw''
          have hb2 := below_regrown w1 dq osq
          clear hgr
          generalize grow (redrawn w1 dq) osq = w2 at hb2 ⊢
          have hz2 := hb2.size
          (try simp only [World.size_alloc, World.size_setCell, World.size_drew, size_drewN', size_grow, size_redrawn] at hz2)
          obtain ⟨hc2, hf2⟩ := bcellB (B := w1.heap.size) hb2 (by first | omega | (simp only [World.size_alloc, World.size_setCell, World.size_drew, size_drewN', size_grow, size_redrawn]; omega))
          (try rw [hk])
          (try rw [hd])
          have b02 := below_up b1 b1.size hb2
          go_wp2_with (go_at_call 80; refine (fo_within_any _ _ _ _).mono ?_; rintro e w' ⟨rfl, rfl⟩)
          go_ret
          refine ⟨ret_bool ?_, b02⟩
          rw [HF.out]
          rfl
        · have t8 : (x.kind == 8) = false := by simpa using k8
          by_cases k7 : x.kind = 7
          · rw [if_pos (.inr (.inr k7))] at hF
            have HF := Lib.hid hF
            have t7 : (x.kind == 7) = true := by simpa using k7
            clear hF k2 k8 k7 hkk
            go_enter Tryz.func46, Tryz.ntmps46
            go_wp2_with fail
            refine name_world (fun w1 hw1 => ?_)
            have b1 : Below w.heap.size w w1 := by rw [hw1]; exact (by repeat' (first | (with_reducible exact Below.refl _ _) | (with_reducible assumption) | (with_reducible refine below_drewN ?_ _) | (with_reducible refine Below.drew ?_) | (with_reducible refine below_regrown_up _ _ ?_ ?_) | (with_reducible refine Below.alloc ?_ ?_ _) | (with_reducible refine Below.setCell ?_ ?_ _) | (with_reducible refine below_up ?_ ?_ (by assumption)) | (with_reducible exact Nat.le_refl _) | omega | (simp; done) | (simp; omega)))
            have y0 : w1.cell? ⟨w.heap.size, 0, none⟩ = some (.int .i64 x.kind) := by rw [hw1]; go_simp
            have y1 : w1.cell? ⟨w.heap.size, 1, none⟩ = some (.int .i64 x.day) := by rw [hw1]; go_simp
            have y2 : w1.cell? ⟨w.heap.size, 2, none⟩ = some (.int .i64 x.stay) := by rw [hw1]; go_simp
            have y3 : w1.cell? ⟨w.heap.size, 3, none⟩ = some (.int .i64 x.cents) := by rw [hw1]; go_simp
            have r1 : w1.cell? ⟨gc, 1, none⟩ = some (.int .i64 day) := (b1.cell (p := ⟨gc, 1, none⟩) lgc).trans q1
            have l1 : w.heap.size < w1.heap.size := by rw [hw1]; simp
            have lg1 : gc < w1.heap.size := by omega
            clear hw1
            have hgr := regrown_cells w1 (B := w1.heap.size) (by omega)
            refine wp_region_quiet_below (by kernel_rfl) (by kernel_rfl) ?_
            repeat (first | (go_big_quiet_step ((go_at_call 80; exact quiet_s (fo_within_any _ _ _ _)))) | (quiet_step ((go_at_call 80; exact quiet_s (fo_within_any _ _ _ _)))))
            refine wpQuiet_nil ?_
            intro _ hw'
            obtain ⟨⟨dq, osq⟩, hw''⟩ := hw'
            subst hw''
            have hb2 := below_regrown w1 dq osq
            clear hgr
            generalize grow (redrawn w1 dq) osq = w2 at hb2 ⊢
            have hz2 := hb2.size
            (try simp only [World.size_alloc, World.size_setCell, World.size_drew, size_drewN', size_grow, size_redrawn] at hz2)
            obtain ⟨hc2, hf2⟩ := bcellB (B := w1.heap.size) hb2 (by first | omega | (simp only [World.size_alloc, World.size_setCell, World.size_drew, size_drewN', size_grow, size_redrawn]; omega))
            (try rw [hk])
            (try rw [hd])
            have b02 := below_up b1 b1.size hb2
            go_wp2_with (go_at_call 80; refine (fo_within_any _ _ _ _).mono ?_; rintro e w' ⟨rfl, rfl⟩)
            go_ret
            refine ⟨ret_bool ?_, b02⟩
            rw [HF.out]
            rfl
          · have t7 : (x.kind == 7) = false := by simpa using k7
            rw [if_neg (by omega)] at hF
            by_cases k9 : x.kind = 9
            · rw [if_pos k9] at hF
              have HF := Lib.hid hF
              have t9 : (x.kind == 9) = true := by simpa using k9
              clear hF k2 k8 k7 k9 hkk
              go_enter Tryz.func46, Tryz.ntmps46
              go_wp2_with fail
              refine name_world (fun w1 hw1 => ?_)
              have b1 : Below w.heap.size w w1 := by rw [hw1]; exact (by repeat' (first | (with_reducible exact Below.refl _ _) | (with_reducible assumption) | (with_reducible refine below_drewN ?_ _) | (with_reducible refine Below.drew ?_) | (with_reducible refine below_regrown_up _ _ ?_ ?_) | (with_reducible refine Below.alloc ?_ ?_ _) | (with_reducible refine Below.setCell ?_ ?_ _) | (with_reducible refine below_up ?_ ?_ (by assumption)) | (with_reducible exact Nat.le_refl _) | omega | (simp; done) | (simp; omega)))
              have y0 : w1.cell? ⟨w.heap.size, 0, none⟩ = some (.int .i64 x.kind) := by rw [hw1]; go_simp
              have y1 : w1.cell? ⟨w.heap.size, 1, none⟩ = some (.int .i64 x.day) := by rw [hw1]; go_simp
              have y2 : w1.cell? ⟨w.heap.size, 2, none⟩ = some (.int .i64 x.stay) := by rw [hw1]; go_simp
              have y3 : w1.cell? ⟨w.heap.size, 3, none⟩ = some (.int .i64 x.cents) := by rw [hw1]; go_simp
              have r1 : w1.cell? ⟨gc, 1, none⟩ = some (.int .i64 day) := (b1.cell (p := ⟨gc, 1, none⟩) lgc).trans q1
              have l1 : w.heap.size < w1.heap.size := by rw [hw1]; simp
              have lg1 : gc < w1.heap.size := by omega
              clear hw1
              have hgr := regrown_cells w1 (B := w1.heap.size) (by omega)
              refine wp_region_quiet_below (by kernel_rfl) (by kernel_rfl) ?_
              repeat (first | (go_big_quiet_step ((go_at_call 80; exact quiet_s (fo_within_any _ _ _ _)))) | (quiet_step ((go_at_call 80; exact quiet_s (fo_within_any _ _ _ _)))))
              refine wpQuiet_nil ?_
              intro _ hw'
              obtain ⟨⟨dq, osq⟩, hw''⟩ := hw'
              subst hw''
              have hb2 := below_regrown w1 dq osq
              clear hgr
              generalize grow (redrawn w1 dq) osq = w2 at hb2 ⊢
              have hz2 := hb2.size
              (try simp only [World.size_alloc, World.size_setCell, World.size_drew, size_drewN', size_grow, size_redrawn] at hz2)
              obtain ⟨hc2, hf2⟩ := bcellB (B := w1.heap.size) hb2 (by first | omega | (simp only [World.size_alloc, World.size_setCell, World.size_drew, size_drewN', size_grow, size_redrawn]; omega))
              (try rw [hk])
              (try rw [hd])
              have b02 := below_up b1 b1.size hb2
              go_wp2_with (go_at_call 80; refine (fo_within_any _ _ _ _).mono ?_; rintro e w' ⟨rfl, rfl⟩)
              go_ret
              refine ⟨ret_bool ?_, b02⟩
              rw [HF.out]
              rfl
            · rw [if_neg k9] at hF
              have HF := Lib.hid hF
              have t9 : (x.kind == 9) = false := by simpa using k9
              clear hF k2 k8 k7 k9 hkk
              go_enter Tryz.func46, Tryz.ntmps46
              go_wp2_with fail
              refine name_world (fun w1 hw1 => ?_)
              have b1 : Below w.heap.size w w1 := by rw [hw1]; exact (by repeat' (first | (with_reducible exact Below.refl _ _) | (with_reducible assumption) | (with_reducible refine below_drewN ?_ _) | (with_reducible refine Below.drew ?_) | (with_reducible refine below_regrown_up _ _ ?_ ?_) | (with_reducible refine Below.alloc ?_ ?_ _) | (with_reducible refine Below.setCell ?_ ?_ _) | (with_reducible refine below_up ?_ ?_ (by assumption)) | (with_reducible exact Nat.le_refl _) | omega | (simp; done) | (simp; omega)))
              have y0 : w1.cell? ⟨w.heap.size, 0, none⟩ = some (.int .i64 x.kind) := by rw [hw1]; go_simp
              have y1 : w1.cell? ⟨w.heap.size, 1, none⟩ = some (.int .i64 x.day) := by rw [hw1]; go_simp
              have y2 : w1.cell? ⟨w.heap.size, 2, none⟩ = some (.int .i64 x.stay) := by rw [hw1]; go_simp
              have y3 : w1.cell? ⟨w.heap.size, 3, none⟩ = some (.int .i64 x.cents) := by rw [hw1]; go_simp
              have r1 : w1.cell? ⟨gc, 1, none⟩ = some (.int .i64 day) := (b1.cell (p := ⟨gc, 1, none⟩) lgc).trans q1
              have l1 : w.heap.size < w1.heap.size := by rw [hw1]; simp
              have lg1 : gc < w1.heap.size := by omega
              clear hw1
              have hgr := regrown_cells w1 (B := w1.heap.size) (by omega)
              refine wp_region_quiet_below (by kernel_rfl) (by kernel_rfl) ?_
              repeat (first | (go_big_quiet_step ((go_at_call 80; exact quiet_s (fo_within_any _ _ _ _)))) | (quiet_step ((go_at_call 80; exact quiet_s (fo_within_any _ _ _ _)))))
              refine wpQuiet_nil ?_
              intro _ hw'
              obtain ⟨⟨dq, osq⟩, hw''⟩ := hw'
              subst hw''
              have hb2 := below_regrown w1 dq osq
              clear hgr
              generalize grow (redrawn w1 dq) osq = w2 at hb2 ⊢
              have hz2 := hb2.size
              (try simp only [World.size_alloc, World.size_setCell, World.size_drew, size_drewN', size_grow, size_redrawn] at hz2)
              obtain ⟨hc2, hf2⟩ := bcellB (B := w1.heap.size) hb2 (by first | omega | (simp only [World.size_alloc, World.size_setCell, World.size_drew, size_drewN', size_grow, size_redrawn]; omega))
              (try rw [hk])
              (try rw [hd])
              have b02 := below_up b1 b1.size hb2
              go_wp2_with (go_at_call 80; refine (fo_within_any _ _ _ _).mono ?_; rintro e w' ⟨rfl, rfl⟩)
              go_ret
              refine ⟨ret_bool ?_, b02⟩
              rw [HF.out]
              rfl
end Go.Proofs.YtmlhoojcdidgkaaGreat

/-
  Package folio: one deed.
-/
namespace Go.Proofs.YtmlhoojcdidgkaaGreat
set_option linter.unusedSimpArgs false
set_option linter.unusedVariables false
open Go.RowKit Go.Maps
open Go.Sort (grow size_grow)


set_option maxHeartbeats 4000000
set_option maxRecDepth 100000
abbrev nilP : Value := .pointer none
abbrev ptrV (b : Nat) : Value := .pointer (some ⟨b, 0, none⟩)
/-- The map of the accounts: by stays, the blocks. -/
def MapOf (D : DataW Value) (st : List Int) (bl : List Nat) : Prop :=
  ∀ s, (∀ i (h : i < st.length), st[i] = s → ∃ b, bl[i]? = some b ∧ D.atKey (.int .i64 s) (.held nilP) = .held (ptrV b) ∧ Maps.has D (.int .i64 s) = true) ∧ (s ∉ st → D.atKey (.int .i64 s) (.held nilP) = .held nilP ∧ Maps.has D (.int .i64 s) = false)
theorem zero_acc (w : World) : (zeroValue 97).run Tryz.prog w = .ok nilP w := by kernel_rfl
/-- A course as it lies. -/
structure CIn (w : World) (gc gm base : Nat) (bl : List Nat) (V : Env) (At : Option Addr) (ct L : Nat) (c : Crs) (ev : Value) : Prop where
  bk : Bk w gc gm base V At ct c.es c.day ev
  len : bl.length = c.ac.length
  acc : ∀ i (h : i < c.ac.length) (h' : i < bl.length), AccIn w bl[i] c.ac[i]
  lt : ∀ b ∈ bl, b < base ∧ b ≠ gc ∧ L ≤ b
  nodup : bl.Nodup
  map : ∃ n D, w.ownsMap Tryz.prog 3 rdV gm n D ∧ MapOf D (c.ac.map fun a => a.b.stay) bl
  gm_lt : gm < base ∧ gm ≠ gc ∧ gm ∉ bl ∧ L ≤ gm
  low : L ≤ gc
  ts : Sl w L 7 Tax.cs At V.ts
theorem CIn.up {w w' : World} {gc gm base : Nat} {bl : List Nat} {V : Env} {At : Option Addr} {ct L : Nat} {c : Crs} {ev : Value} (h : CIn w gc gm base bl V At ct L c ev) (hb : Below w.heap.size w w') : CIn w' gc gm base bl V At ct L c ev := by
  refine ⟨h.bk.up hb, h.len, fun i h1 h2 => (h.acc i h1 h2).up hb, h.lt, h.nodup, ?_, h.gm_lt, h.low, ?_⟩
  · obtain ⟨n, D, h1, h2⟩ := h.map
    exact ⟨n, D, h1.kept (grownBy_below hb none) (by simp), h2⟩
  · exact h.ts.below (hb.mono (by have := h.low; have := h.bk.lt; have := h.bk.le; omega))
theorem map_turn {w w' : World} {gm n : Nat} {D : DataW Value} (h : w.ownsMap Tryz.prog 3 rdV gm n D) {S : List Nat} {B : Nat} {ev ev' : Value} (ht : Turn S B ev ev' w w') (h1 : gm < B) (h2 : gm ∉ S) : w'.ownsMap Tryz.prog 3 rdV gm n D := by
  obtain ⟨es, clock, hb, r⟩ := h
  exact ⟨es, clock, (ht.block gm h1 h2).trans hb, r⟩
/-- A deed about one account is done: the course. -/
theorem CIn.done {w w' : World} {gc gm base : Nat} {bl : List Nat} {V : Env} {At : Option Addr} {ct L : Nat} {c : Crs} {ev ev' : Value} (h : CIn w gc gm base bl V At ct L c ev) {i : Nat} (hi : i < c.ac.length) (hi' : i < bl.length) {es' : List Entry} {a' : Acc}
    (hB : Bk w' gc gm base V At ct es' c.day ev') (hA : AccIn w' bl[i] a') (hT : Turn [gc, bl[i]] base ev ev' w w') (hb : a'.b = c.ac[i].b) : CIn w' gc gm base bl V At ct L { c with es := es', ac := c.ac.set i a' } ev' := by
  have hS : ∀ k ∈ [gc, bl[i]], L ≤ k := by
    intro k hk
    rcases List.mem_cons.1 hk with rfl | hk
    · exact h.low
    · obtain rfl : k = bl[i] := by simpa using hk
      exact (h.lt _ (List.getElem_mem hi')).2.2
  refine ⟨hB, by simpa using h.len, fun j h1 h2 => ?_, h.lt, h.nodup, ?_, h.gm_lt, h.low, ?_⟩
  · have h1' : j < c.ac.length := by simpa using h1
    simp only [List.getElem_set]
    split
    · next e => subst e; exact hA
    · next e =>
      refine hT.acc (h.acc j h1' h2) (h.lt _ (List.getElem_mem h2)).1 ?_
      have hn := List.pairwise_iff_getElem.1 h.nodup
      simp only [List.mem_cons, List.not_mem_nil, or_false, not_or]
      refine ⟨(h.lt _ (List.getElem_mem h2)).2.1, fun e2 => ?_⟩
      rcases Nat.lt_or_gt_of_ne e with h3 | h3
      · exact hn i j hi' h2 h3 e2.symm
      · exact hn j i h2 hi' h3 e2
  · obtain ⟨n, D, h1, h2⟩ := h.map
    refine ⟨n, D, map_turn h1 hT h.gm_lt.1 ?_, ?_⟩
    · simp only [List.mem_cons, List.not_mem_nil, or_false, not_or]
      exact ⟨h.gm_lt.2.1, fun e => h.gm_lt.2.2.1 (by rw [e]; exact List.getElem_mem hi')⟩
    · have : ((c.ac.set i a').map fun a => a.b.stay) = c.ac.map fun a => a.b.stay := by
        rw [List.map_set, hb]
        refine List.ext_getElem (by simp) fun k h1 h2 => ?_
        rw [List.getElem_set]
        split
        · next e => subst e; simp
        · rfl
      simp only [this]
      exact h2
  · exact h.ts.below (hT.below (by have := h.low; have := h.bk.lt; omega) hS)
theorem CIn.lookup {w : World} {gc gm base : Nat} {bl : List Nat} {V : Env} {At : Option Addr} {ct L : Nat} {c : Crs} {ev : Value} (h : CIn w gc gm base bl V At ct L c ev) (s : Int) (s0 : -9223372036854775808 ≤ s) (s1 : s ≤ 9223372036854775807) :
    (∀ i (hi : i < c.ac.length) (hi' : i < bl.length), c.ac[i].b.stay = s → (Instr.lookup 92 (.map (some gm)) (.int .i64 s) true).run Tryz.prog w = .ok (.tuple #[ptrV bl[i], .bool true]) w) ∧ (idxA c.ac s = none → (Instr.lookup 92 (.map (some gm)) (.int .i64 s) true).run Tryz.prog w = .ok (.tuple #[nilP, .bool false]) w) := by
  obtain ⟨n, D, hown, hM⟩ := h.map
  obtain ⟨v, ps, hrun, hv⟩ := hown.look_ok (t := 92) keyedI' Tryz.underlying92 (zero_acc w) (zd := .held nilP) (zp := []) rfl (key := .int .i64 s) (kl := .int .i64 s) (keyOf_int_mk Tryz.underlying3 (WalkArith.wf_i64 (by omega)))
  constructor
  · intro i hi hi' e
    obtain ⟨b, e1, e2, e3⟩ := (hM s).1 i (by simpa using hi) (by simpa using e)
    rw [e2] at hv
    rw [hrun, e3, rdV_inv hv]
    rw [List.getElem?_eq_getElem hi'] at e1
    injection e1 with e1
    rw [e1]
  · intro e
    obtain ⟨e2, e3⟩ := (hM s).2 (by
      intro hmem
      obtain ⟨a, ha, rfl⟩ := List.mem_map.1 hmem
      exact (idx_none.1 e) a ha rfl)
    rw [e2] at hv
    rw [hrun, e3, rdV_inv hv]
/-- The function of a rule. -/
def fnOf (k : Int) : Nat := if k = 2 then 109 else if k = 3 then 111 else if k = 5 then 112 else if k = 6 then 113 else if k = 7 then 114 else 110
theorem rule_bound {w : World} {gc : Nat} {k : Int} {fv : Value} (h : ruleF w gc k fv) (h1 : k ≠ 1) (h4 : k ≠ 4) : fv = .func (.func (fnOf k)) #[.pointer (some ⟨gc, 0, none⟩)] #[] := by
  unfold ruleF at h
  rcases h with ⟨rfl, _⟩ | ⟨rfl, e⟩ | ⟨rfl, e⟩ | ⟨rfl, _⟩ | ⟨rfl, e⟩ | ⟨rfl, e⟩ | ⟨rfl, e⟩ | ⟨rfl, e⟩
  · exact absurd rfl h1
  · exact e
  · exact e
  · exact absurd rfl h4
  · exact e
  · exact e
  · exact e
  · exact e
theorem rule_free {w : World} {gc : Nat} {k : Int} {fv : Value} (h : ruleF w gc k fv) (hk : k = 1 ∨ k = 4) : ∃ b, fv = .func (.func 122) #[] #[.pointer (some ⟨b, 0, none⟩)] ∧ b < w.heap.size ∧ w.cell? ⟨b, 0, none⟩ = some (.int .i64 (if k = 1 then 1 else 2)) := by
  unfold ruleF at h
  rcases h with ⟨rfl, h⟩ | ⟨rfl, e⟩ | ⟨rfl, e⟩ | ⟨rfl, h⟩ | ⟨rfl, e⟩ | ⟨rfl, e⟩ | ⟨rfl, e⟩ | ⟨rfl, e⟩
  · exact h
  · omega
  · omega
  · exact h
  · omega
  · omega
  · omega
  · omega
/-- The deed of a kind, as it is called. -/
theorem deed_fn (gc gm base : Nat) (V : Env) (At : Option Addr) (ct : Nat) (es : List Entry) (ev : Value) (g : Nat) (a : Acc) (x : Deed) (n L : Nat) (w : World) (h : Bk w gc gm base V At ct es x.day ev) (hA : AccIn w g a) (hg : g < base) (hne : g ≠ gc)
    (hl : es.length ≤ 3000) (hao : AccOk a n) (hn : n ≤ 500) (hce : CentsOk es) (hts : Sl w L 7 Tax.cs At V.ts) (hL : L ≤ w.heap.size) (htl : V.ts.length ≤ 1000000000000) (hpt : partOk V.p V.d = true)
    (k0 : 1 ≤ x.kind) (k1 : x.kind ≤ 8) (hk : x.kind ≠ 1 ∧ x.kind ≠ 4) (hc : x.kind = 2 ∨ x.kind = 8 ∨ x.kind = 7 → 1 ≤ x.cents ∧ x.cents ≤ 1000000000) :
    Calls Tryz.prog (fnOf x.kind) #[.pointer (some ⟨gc, 0, none⟩), .pointer (some ⟨g, 0, none⟩), x.v] w (Done gc gm base V At ct x.day ev g (deedD V es a x) es a w) := by
  have hkk : x.kind = 2 ∨ x.kind = 3 ∨ x.kind = 5 ∨ x.kind = 6 ∨ x.kind = 7 ∨ x.kind = 8 := by omega
  rcases hkk with hk | hk | hk | hk | hk | hk
  · have hc' := hc (by omega)
    rw [show fnOf x.kind = 109 by unfold fnOf; rw [hk]; rfl, show deedD V es a x = payD V es a x by unfold deedD; rw [hk]; rfl]
    exact pay_any' gc gm base V At ct es ev g a x n L w h hA hg hne hl hao hn hc'.1 hc'.2 hce hts hL htl
  · rw [show fnOf x.kind = 111 by unfold fnOf; rw [hk]; rfl, show deedD V es a x = .ok (cancelD es a x) by unfold deedD; rw [hk]; rfl]
    exact cancel_any gc gm base V At ct es ev g a x n w h hA hg hne hl hao hn
  · rw [show fnOf x.kind = 112 by unfold fnOf; rw [hk]; rfl, show deedD V es a x = leaveD V es a x by unfold deedD; rw [hk]; rfl]
    exact leave_any gc gm base V At ct es ev g a x n L w h hA hg hne hl hao hn hts hL htl hpt
  · rw [show fnOf x.kind = 113 by unfold fnOf; rw [hk]; rfl, show deedD V es a x = walkD V es a x by unfold deedD; rw [hk]; rfl]
    exact walk_any gc gm base V At ct es ev g a x n w h hA hg hne hl hao hn
  · have hc' := hc (by omega)
    rw [show fnOf x.kind = 114 by unfold fnOf; rw [hk]; rfl, show deedD V es a x = backD es a x by unfold deedD; rw [hk]; rfl]
    exact back_any gc gm base V At ct es ev g a x n w h hA hg hne hl hao hn hc'.1 hc'.2
  · have hc' := hc (by omega)
    rw [show fnOf x.kind = 110 by unfold fnOf; rw [hk]; rfl, show deedD V es a x = voucherD V es a x by unfold deedD; rw [hk]; rfl]
    exact voucher_any' gc gm base V At ct es ev g a x n L w h hA hg hne hl hao hn hc'.1 hc'.2 hts hL htl
end Go.Proofs.YtmlhoojcdidgkaaGreat
