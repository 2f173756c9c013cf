/-
  The law 'TaxNights': the walk.
-/
import Derived.Test.YtdbdjhgcmcbiaaaTaxArgs
namespace Go.Proofs.Ytdbdjhgcmcbiaaa
set_option linter.unusedSimpArgs false
set_option linter.unusedVariables false
open Go.RowKit Go.Maps
open Go.Sort (grow size_grow)

set_option maxHeartbeats 4000000
set_option maxRecDepth 100000

/-- The tax that the law looks at: by night alone. -/
def nightT (t : Tax) (b : Bill) : Tax := ⟨t.id, b.place, t.night, 0, 1, 0, t.round⟩
theorem night_cases (t : Tax) (b : Bill) : one (nightT t b) b = (0, 1) ∨ one (nightT t b) b = (0, 3) ∨
    ∃ x y, one (nightT t b) b = (y, 0) ∧ x = t.night * b.persons ∧ y = x * (b.til - b.frm) ∧ (0 ≤ x ∧ x ≤ 800000) ∧ (0 ≤ y ∧ y ≤ 48000000) ∧ 1 ≤ b.til - b.frm ∧ b.til - b.frm ≤ 60 := by
  rcases one_cases (nightT t b) b with h | ⟨_, _, hp, _⟩ | h | ⟨ht, hb, _, h, _⟩
  · exact .inl h
  · exact absurd rfl hp
  · exact .inr (.inl h)
  · refine .inr (.inr ⟨_, _, ?_, rfl, rfl, ?_⟩)
    · rw [h]
      obtain ⟨n1, n2, f0, f1, d0, d1, x0, x1, a0, a1, c0, c1, e0, e1, p0, p1, q0, q1⟩ := exB ht hb
      have hd : exD (nightT t b) b = b.til - b.frm := by simp [exD, nightT]
      have hf : firstN (nightT t b) b = b.til - b.frm := by simp [firstN, nightT]
      have hn : exN (nightT t b) b = t.night * b.persons * (b.til - b.frm) * (b.til - b.frm) := by
        unfold exN
        rw [hf, hd]
        simp only [nightT, Int.zero_mul, Int.add_zero]
        rw [Int.mul_assoc t.night, Int.mul_comm (b.til - b.frm) b.persons, ← Int.mul_assoc]
      refine congrArg (·, (0 : Int)) ?_
      show rnd _ _ _ = _
      rw [hn, hd]
      unfold rnd
      rw [Int.mul_emod_left, Int.mul_ediv_cancel _ (by omega), if_neg]
      rintro (⟨_, h1⟩ | ⟨_, h1 | ⟨h1, _⟩⟩) <;> omega
    · have h2 := (Tax.ok_iff.1 ht).2.2.2.2.1
      obtain ⟨g1, _, g3, _⟩ := Bill.ok_iff.1 hb
      have h2' : 0 ≤ t.night ∧ t.night ≤ 100000 := h2
      have x := mul_bd (a := t.night) (b := b.persons) (A := 100000) (B := 8) (by omega) (by omega) (by omega) (by omega)
      have y := mul_bd (b := b.til - b.frm) (B := 60) x.1 x.2 (by omega) (by omega)
      omega
theorem ni1 (t : Tax) (b : Bill) (w : World) (h : one (nightT t b) b = (0, 1)) : Calls Try.prog 9 #[t.v, b.v] w fun e w' => e = .returned (.bool true) ∧ Below w.heap.size w w' := by
  go_enter Try.func9, Try.ntmps9
  go_wp2_with (first
    | (go_at_call 15; refine (head29_any _).mono ?_; rintro e w1 ⟨rfl, hb1⟩; have hz1 := hb1.size; (try simp only [World.size_alloc, World.size_setCell, World.size_drew, size_drewN', size_grow, size_redrawn] at hz1); obtain ⟨hc1, hf1⟩ := bcellB (B := w.heap.size + 1 + 1) hb1 (by first | omega | (simp only [World.size_alloc, World.size_setCell, World.size_drew, size_drewN', size_grow, size_redrawn]; omega)); have la11 : w.heap.size + 1 < w1.heap.size := (by omega); have lb11 : w.heap.size + 1 < w1.heap.size + 1 := (by omega); have lc11 : w.heap.size + 1 < w1.heap.size + 1 + 1 := (by omega); have ld11 : w.heap.size + 1 < w1.heap.size + 1 + 1 + 1 := (by omega); have le11 : w.heap.size + 1 < w1.heap.size + 1 + 1 + 1 + 1 := (by omega); have la10 : w.heap.size < w1.heap.size := (by omega); have lb10 : w.heap.size < w1.heap.size + 1 := (by omega); have lc10 : w.heap.size < w1.heap.size + 1 + 1 := (by omega); have ld10 : w.heap.size < w1.heap.size + 1 + 1 + 1 := (by omega); have le10 : w.heap.size < w1.heap.size + 1 + 1 + 1 + 1 := (by omega)))
  go_cut [] (fun W => Below w.heap.size w W ∧ w.heap.size + 1 + 1 ≤ W.heap.size ∧ (∀ o, W.cell? ⟨w.heap.size, o, none⟩ = (#[.int .i64 t.id, .int .i64 b.place, .int .i64 t.night, .int .i64 0, .int .i64 1, .int .i64 0, .int .i64 t.round] : Array Value)[o]?) ∧ (∀ o, W.cell? ⟨w.heap.size + 1, o, none⟩ = (#[.int .i64 b.stay, .int .i64 b.channel, .int .i64 b.place, .int .i64 b.kind, .int .i64 b.frm, .int .i64 b.til, .int .i64 b.persons, .int .i64 b.price, .int .i64 b.keep] : Array Value)[o]?))
  case first =>
    rename_i J K2 hJ hK
    have c1 : ∀ o, w1.cell? ⟨w.heap.size, o, none⟩ = t.cs.toArray[o]? := box_below hb1 (by simp; omega) (box_old (box_new w _ _) (by simp) _)
    have c2 : ∀ o, w1.cell? ⟨w.heap.size + 1, o, none⟩ = b.cs.toArray[o]? := box_below hb1 (by simp) (by have := box_new (w.alloc (.cells t.cs.toArray 35)) b.cs.toArray 26; rw [World.size_alloc] at this; exact this)
    have hb0 : Below w.heap.size w w1 := by
      repeat' (first
        | (with_reducible exact Below.refl _ _)
        | (with_reducible assumption)
        | (with_reducible refine below_drewN ?_ _)
        | (with_reducible refine Below.drew ?_)
        | (with_reducible refine below_regrown_up _ _ ?_ ?_)
        | (with_reducible refine Below.alloc ?_ ?_ _)
        | (with_reducible refine Below.setCell ?_ ?_ _)
        | (with_reducible refine below_up ?_ ?_ (by assumption))
        | (with_reducible exact Nat.le_refl _)
        | omega
        | (simp; done)
        | (simp; omega))
    have C1 := Lib.hid c1
    have C2 := Lib.hid c2
    clear c1 c2
    go_region
    refine hK _ _ ?_
    go_meet
    refine ⟨?_, ?_, ?_, ?_⟩
    · refine Below.drew ?_
      repeat' (first
        | (with_reducible exact Below.refl _ _)
        | (with_reducible assumption)
        | (with_reducible refine below_drewN ?_ _)
        | (with_reducible refine Below.drew ?_)
        | (with_reducible refine below_regrown_up _ _ ?_ ?_)
        | (with_reducible refine Below.alloc ?_ ?_ _)
        | (with_reducible refine Below.setCell ?_ ?_ _)
        | (with_reducible refine below_up ?_ ?_ (by assumption))
        | (with_reducible exact Nat.le_refl _)
        | omega
        | (simp; done)
        | (simp; omega))
    · simp
      omega
    · exact box_set (box_set (box_set (box_set C1.out (i := 3) (by simp [Tax.cs]) _) (i := 4) (by simp [Tax.cs]) _) (i := 5) (by simp [Tax.cs]) _) (i := 1) (by simp [Tax.cs]) _
    · exact box_far (box_far (box_far (box_far C2.out (p := ⟨w.heap.size, 3, none⟩) (by simp only; omega) _) (p := ⟨w.heap.size, 4, none⟩) (by simp only; omega) _) (p := ⟨w.heap.size, 5, none⟩) (by simp only; omega) _) (p := ⟨w.heap.size, 1, none⟩) (by simp only; omega) _
  case rest =>
    obtain ⟨hbl, hsz, c1, c2⟩ := hcut
    go_wp2_with (first
      | (go_at_call 18; refine (one_any' (t := nightT t b) h _).mono ?_; rintro e w2 ⟨rfl, hb2⟩; have hz2 := hb2.size; (try simp only [World.size_alloc, World.size_setCell, World.size_drew, size_drewN', size_grow, size_redrawn] at hz2); obtain ⟨hc2, hf2⟩ := bcellB (B := w.heap.size + 1 + 1) hb2 (by first | omega | (simp only [World.size_alloc, World.size_setCell, World.size_drew, size_drewN', size_grow, size_redrawn]; omega)); skip))
    refine bodyPost_ret (v := .bool true) (by simp [results, Try.results9, go_sem]) rfl ⟨rfl, ?_⟩
    repeat' (first
      | (with_reducible exact Below.refl _ _)
      | (with_reducible assumption)
      | (with_reducible refine below_drewN ?_ _)
      | (with_reducible refine Below.drew ?_)
      | (with_reducible refine below_regrown_up _ _ ?_ ?_)
      | (with_reducible refine Below.alloc ?_ ?_ _)
      | (with_reducible refine Below.setCell ?_ ?_ _)
      | (with_reducible refine below_up ?_ ?_ (by assumption))
      | (with_reducible exact Nat.le_refl _)
      | omega
      | (simp; done)
      | (simp; omega))
theorem ni3 (t : Tax) (b : Bill) (w : World) (h : one (nightT t b) b = (0, 3)) : Calls Try.prog 9 #[t.v, b.v] w fun e w' => e = .returned (.bool true) ∧ Below w.heap.size w w' := by
  go_enter Try.func9, Try.ntmps9
  go_wp2_with (first
    | (go_at_call 15; refine (head29_any _).mono ?_; rintro e w1 ⟨rfl, hb1⟩; have hz1 := hb1.size; (try simp only [World.size_alloc, World.size_setCell, World.size_drew, size_drewN', size_grow, size_redrawn] at hz1); obtain ⟨hc1, hf1⟩ := bcellB (B := w.heap.size + 1 + 1) hb1 (by first | omega | (simp only [World.size_alloc, World.size_setCell, World.size_drew, size_drewN', size_grow, size_redrawn]; omega)); have la11 : w.heap.size + 1 < w1.heap.size := (by omega); have lb11 : w.heap.size + 1 < w1.heap.size + 1 := (by omega); have lc11 : w.heap.size + 1 < w1.heap.size + 1 + 1 := (by omega); have ld11 : w.heap.size + 1 < w1.heap.size + 1 + 1 + 1 := (by omega); have le11 : w.heap.size + 1 < w1.heap.size + 1 + 1 + 1 + 1 := (by omega); have la10 : w.heap.size < w1.heap.size := (by omega); have lb10 : w.heap.size < w1.heap.size + 1 := (by omega); have lc10 : w.heap.size < w1.heap.size + 1 + 1 := (by omega); have ld10 : w.heap.size < w1.heap.size + 1 + 1 + 1 := (by omega); have le10 : w.heap.size < w1.heap.size + 1 + 1 + 1 + 1 := (by omega)))
  go_cut [] (fun W => Below w.heap.size w W ∧ w.heap.size + 1 + 1 ≤ W.heap.size ∧ (∀ o, W.cell? ⟨w.heap.size, o, none⟩ = (#[.int .i64 t.id, .int .i64 b.place, .int .i64 t.night, .int .i64 0, .int .i64 1, .int .i64 0, .int .i64 t.round] : Array Value)[o]?) ∧ (∀ o, W.cell? ⟨w.heap.size + 1, o, none⟩ = (#[.int .i64 b.stay, .int .i64 b.channel, .int .i64 b.place, .int .i64 b.kind, .int .i64 b.frm, .int .i64 b.til, .int .i64 b.persons, .int .i64 b.price, .int .i64 b.keep] : Array Value)[o]?))
  case first =>
    rename_i J K2 hJ hK
    have c1 : ∀ o, w1.cell? ⟨w.heap.size, o, none⟩ = t.cs.toArray[o]? := box_below hb1 (by simp; omega) (box_old (box_new w _ _) (by simp) _)
    have c2 : ∀ o, w1.cell? ⟨w.heap.size + 1, o, none⟩ = b.cs.toArray[o]? := box_below hb1 (by simp) (by have := box_new (w.alloc (.cells t.cs.toArray 35)) b.cs.toArray 26; rw [World.size_alloc] at this; exact this)
    have hb0 : Below w.heap.size w w1 := by
      repeat' (first
        | (with_reducible exact Below.refl _ _)
        | (with_reducible assumption)
        | (with_reducible refine below_drewN ?_ _)
        | (with_reducible refine Below.drew ?_)
        | (with_reducible refine below_regrown_up _ _ ?_ ?_)
        | (with_reducible refine Below.alloc ?_ ?_ _)
        | (with_reducible refine Below.setCell ?_ ?_ _)
        | (with_reducible refine below_up ?_ ?_ (by assumption))
        | (with_reducible exact Nat.le_refl _)
        | omega
        | (simp; done)
        | (simp; omega))
    have C1 := Lib.hid c1
    have C2 := Lib.hid c2
    clear c1 c2
    go_region
    refine hK _ _ ?_
    go_meet
    refine ⟨?_, ?_, ?_, ?_⟩
    · refine Below.drew ?_
      repeat' (first
        | (with_reducible exact Below.refl _ _)
        | (with_reducible assumption)
        | (with_reducible refine below_drewN ?_ _)
        | (with_reducible refine Below.drew ?_)
        | (with_reducible refine below_regrown_up _ _ ?_ ?_)
        | (with_reducible refine Below.alloc ?_ ?_ _)
        | (with_reducible refine Below.setCell ?_ ?_ _)
        | (with_reducible refine below_up ?_ ?_ (by assumption))
        | (with_reducible exact Nat.le_refl _)
        | omega
        | (simp; done)
        | (simp; omega))
    · simp
      omega
    · exact box_set (box_set (box_set (box_set C1.out (i := 3) (by simp [Tax.cs]) _) (i := 4) (by simp [Tax.cs]) _) (i := 5) (by simp [Tax.cs]) _) (i := 1) (by simp [Tax.cs]) _
    · exact box_far (box_far (box_far (box_far C2.out (p := ⟨w.heap.size, 3, none⟩) (by simp only; omega) _) (p := ⟨w.heap.size, 4, none⟩) (by simp only; omega) _) (p := ⟨w.heap.size, 5, none⟩) (by simp only; omega) _) (p := ⟨w.heap.size, 1, none⟩) (by simp only; omega) _
  case rest =>
    obtain ⟨hbl, hsz, c1, c2⟩ := hcut
    go_wp2_with (first
      | (go_at_call 18; refine (one_any' (t := nightT t b) h _).mono ?_; rintro e w2 ⟨rfl, hb2⟩; have hz2 := hb2.size; (try simp only [World.size_alloc, World.size_setCell, World.size_drew, size_drewN', size_grow, size_redrawn] at hz2); obtain ⟨hc2, hf2⟩ := bcellB (B := w.heap.size + 1 + 1) hb2 (by first | omega | (simp only [World.size_alloc, World.size_setCell, World.size_drew, size_drewN', size_grow, size_redrawn]; omega)); skip))
    refine bodyPost_ret (v := .bool true) (by simp [results, Try.results9, go_sem]) rfl ⟨rfl, ?_⟩
    repeat' (first
      | (with_reducible exact Below.refl _ _)
      | (with_reducible assumption)
      | (with_reducible refine below_drewN ?_ _)
      | (with_reducible refine Below.drew ?_)
      | (with_reducible refine below_regrown_up _ _ ?_ ?_)
      | (with_reducible refine Below.alloc ?_ ?_ _)
      | (with_reducible refine Below.setCell ?_ ?_ _)
      | (with_reducible refine below_up ?_ ?_ (by assumption))
      | (with_reducible exact Nat.le_refl _)
      | omega
      | (simp; done)
      | (simp; omega))
theorem ni0 (t : Tax) (b : Bill) (w : World) (x y : Int) (h : one (nightT t b) b = (y, 0)) (hx : x = t.night * b.persons) (hy : y = x * (b.til - b.frm)) (x0 : 0 ≤ x) (x1 : x ≤ 800000) (y0 : 0 ≤ y) (y1 : y ≤ 48000000) (n0 : 1 ≤ b.til - b.frm) (n1 : b.til - b.frm ≤ 60) : Calls Try.prog 9 #[t.v, b.v] w fun e w' => e = .returned (.bool true) ∧ Below w.heap.size w w' := by
  have HX := Lib.hid hx
  have HY := Lib.hid hy
  clear hx hy
  go_enter Try.func9, Try.ntmps9
  go_wp2_with (first
    | (go_at_call 15; refine (head29_any _).mono ?_; rintro e w1 ⟨rfl, hb1⟩; have hz1 := hb1.size; (try simp only [World.size_alloc, World.size_setCell, World.size_drew, size_drewN', size_grow, size_redrawn] at hz1); obtain ⟨hc1, hf1⟩ := bcellB (B := w.heap.size + 1 + 1) hb1 (by first | omega | (simp only [World.size_alloc, World.size_setCell, World.size_drew, size_drewN', size_grow, size_redrawn]; omega)); have la11 : w.heap.size + 1 < w1.heap.size := (by omega); have lb11 : w.heap.size + 1 < w1.heap.size + 1 := (by omega); have lc11 : w.heap.size + 1 < w1.heap.size + 1 + 1 := (by omega); have ld11 : w.heap.size + 1 < w1.heap.size + 1 + 1 + 1 := (by omega); have le11 : w.heap.size + 1 < w1.heap.size + 1 + 1 + 1 + 1 := (by omega); have la10 : w.heap.size < w1.heap.size := (by omega); have lb10 : w.heap.size < w1.heap.size + 1 := (by omega); have lc10 : w.heap.size < w1.heap.size + 1 + 1 := (by omega); have ld10 : w.heap.size < w1.heap.size + 1 + 1 + 1 := (by omega); have le10 : w.heap.size < w1.heap.size + 1 + 1 + 1 + 1 := (by omega)))
  go_cut [] (fun W => Below w.heap.size w W ∧ w.heap.size + 1 + 1 ≤ W.heap.size ∧ (∀ o, W.cell? ⟨w.heap.size, o, none⟩ = (#[.int .i64 t.id, .int .i64 b.place, .int .i64 t.night, .int .i64 0, .int .i64 1, .int .i64 0, .int .i64 t.round] : Array Value)[o]?) ∧ (∀ o, W.cell? ⟨w.heap.size + 1, o, none⟩ = (#[.int .i64 b.stay, .int .i64 b.channel, .int .i64 b.place, .int .i64 b.kind, .int .i64 b.frm, .int .i64 b.til, .int .i64 b.persons, .int .i64 b.price, .int .i64 b.keep] : Array Value)[o]?))
  case first =>
    rename_i J K2 hJ hK
    have c1 : ∀ o, w1.cell? ⟨w.heap.size, o, none⟩ = t.cs.toArray[o]? := box_below hb1 (by simp; omega) (box_old (box_new w _ _) (by simp) _)
    have c2 : ∀ o, w1.cell? ⟨w.heap.size + 1, o, none⟩ = b.cs.toArray[o]? := box_below hb1 (by simp) (by have := box_new (w.alloc (.cells t.cs.toArray 35)) b.cs.toArray 26; rw [World.size_alloc] at this; exact this)
    have hb0 : Below w.heap.size w w1 := by
      repeat' (first
        | (with_reducible exact Below.refl _ _)
        | (with_reducible assumption)
        | (with_reducible refine below_drewN ?_ _)
        | (with_reducible refine Below.drew ?_)
        | (with_reducible refine below_regrown_up _ _ ?_ ?_)
        | (with_reducible refine Below.alloc ?_ ?_ _)
        | (with_reducible refine Below.setCell ?_ ?_ _)
        | (with_reducible refine below_up ?_ ?_ (by assumption))
        | (with_reducible exact Nat.le_refl _)
        | omega
        | (simp; done)
        | (simp; omega))
    have C1 := Lib.hid c1
    have C2 := Lib.hid c2
    clear c1 c2
    go_region
    refine hK _ _ ?_
    go_meet
    refine ⟨?_, ?_, ?_, ?_⟩
    · refine Below.drew ?_
      repeat' (first
        | (with_reducible exact Below.refl _ _)
        | (with_reducible assumption)
        | (with_reducible refine below_drewN ?_ _)
        | (with_reducible refine Below.drew ?_)
        | (with_reducible refine below_regrown_up _ _ ?_ ?_)
        | (with_reducible refine Below.alloc ?_ ?_ _)
        | (with_reducible refine Below.setCell ?_ ?_ _)
        | (with_reducible refine below_up ?_ ?_ (by assumption))
        | (with_reducible exact Nat.le_refl _)
        | omega
        | (simp; done)
        | (simp; omega))
    · simp
      omega
    · exact box_set (box_set (box_set (box_set C1.out (i := 3) (by simp [Tax.cs]) _) (i := 4) (by simp [Tax.cs]) _) (i := 5) (by simp [Tax.cs]) _) (i := 1) (by simp [Tax.cs]) _
    · exact box_far (box_far (box_far (box_far C2.out (p := ⟨w.heap.size, 3, none⟩) (by simp only; omega) _) (p := ⟨w.heap.size, 4, none⟩) (by simp only; omega) _) (p := ⟨w.heap.size, 5, none⟩) (by simp only; omega) _) (p := ⟨w.heap.size, 1, none⟩) (by simp only; omega) _
  case rest =>
    obtain ⟨hbl, hsz, c1, c2⟩ := hcut
    go_wp2_with (first
      | (go_at_call 18; refine (one_any' (t := nightT t b) h _).mono ?_; rintro e w2 ⟨rfl, hb2⟩; have hz2 := hb2.size; (try simp only [World.size_alloc, World.size_setCell, World.size_drew, size_drewN', size_grow, size_redrawn] at hz2); obtain ⟨hc2, hf2⟩ := bcellB (B := w.heap.size + 1 + 1) hb2 (by first | omega | (simp only [World.size_alloc, World.size_setCell, World.size_drew, size_drewN', size_grow, size_redrawn]; omega)); have hx := HX.out.symm; have hy := HY.out.symm))
    refine bodyPost_ret (v := .bool true) (by simp [results, Try.results9, go_sem]) rfl ⟨rfl, ?_⟩
    repeat' (first
      | (with_reducible exact Below.refl _ _)
      | (with_reducible assumption)
      | (with_reducible refine below_drewN ?_ _)
      | (with_reducible refine Below.drew ?_)
      | (with_reducible refine below_regrown_up _ _ ?_ ?_)
      | (with_reducible refine Below.alloc ?_ ?_ _)
      | (with_reducible refine Below.setCell ?_ ?_ _)
      | (with_reducible refine below_up ?_ ?_ (by assumption))
      | (with_reducible exact Nat.le_refl _)
      | omega
      | (simp; done)
      | (simp; omega))
theorem law_nights (t : Tax) (b : Bill) (w : World) : Calls Try.prog 9 #[t.v, b.v] w fun e w' => e = .returned (.bool true) ∧ Below w.heap.size w w' := by
  rcases night_cases t b with h | h | ⟨x, y, h, hx, hy, ⟨x0, x1⟩, ⟨y0, y1⟩, n0, n1⟩
  · exact ni1 t b w h
  · exact ni3 t b w h
  · exact ni0 t b w x y h hx hy x0 x1 y0 y1 n0 n1
end Go.Proofs.Ytdbdjhgcmcbiaaa
