/-
  The law 'CommissionUndone': the walk.
-/
import Derived.Test.YthnncojbckifnaaPostW
namespace Go.Proofs.Ythnncojbckifnaa
set_option linter.unusedSimpArgs false
set_option linter.unusedVariables false
open Go.RowKit
open Go.Sort (grow size_grow)

set_option maxHeartbeats 4000000
set_option maxRecDepth 100000
theorem cundone_no (p d : Int) (l : List Bill) (A : Option Addr) (c : Nat) (ch u : Int) (w : World) (hs : SlBill w A l) (hl0 : l.length ≤ maxLen) (hu : use30 p d l ch = false) :
    Calls Try.prog 12 #[.agg #[.int .i64 p, .int .i64 d], .slice A l.length c, .int .i64 ch, .int .u8 u] w fun e w' => e = .returned (.bool true) ∧ Below w.heap.size w w' := by
  go_enter Try.func12, Try.ntmps12
  go_wp2_with (first | (go_at_call 23; refine (head30_any _).mono ?_; rintro e w1 ⟨rfl, hb1⟩; have hz1 := hb1.size; (try simp only [World.size_alloc, World.size_setCell, World.size_drew, size_drewN', size_grow, size_redrawn] at hz1); obtain ⟨hc1, hf1⟩ := bcellB (B := w.heap.size + 1) hb1 (by first | omega | (simp only [World.size_alloc, World.size_setCell, World.size_drew, size_drewN', size_grow, size_redrawn]; omega))) | (go_at_call 32; refine (usable30_any p d l A c ch _ (hs.up (by repeat' (first | (with_reducible exact Below.refl _ _) | (with_reducible assumption) | (with_reducible refine below_drewN ?_ _) | (with_reducible refine Below.drew ?_) | (with_reducible refine below_regrown_up _ _ ?_ ?_) | (with_reducible refine Below.alloc ?_ ?_ _) | (with_reducible refine Below.setCell ?_ ?_ _) | (with_reducible refine below_up ?_ ?_ (by assumption)) | (with_reducible exact Nat.le_refl _) | omega | (simp; done) | (simp; omega)))) hl0).mono ?_; rintro e w2 ⟨rfl, hb2⟩; have hz2 := hb2.size; (try simp only [World.size_alloc, World.size_setCell, World.size_drew, size_drewN', size_grow, size_redrawn] at hz2); obtain ⟨hc2, hf2⟩ := bcellB (B := w.heap.size + 1) hb2 (by first | omega | (simp only [World.size_alloc, World.size_setCell, World.size_drew, size_drewN', size_grow, size_redrawn]; omega)); rw [hu]))
  go_ret
  refine ⟨ret_bool (by simp), ?_⟩
  repeat' (first
    | (with_reducible exact Below.refl _ _)
    | (with_reducible assumption)
    | (with_reducible refine below_drewN ?_ _)
    | (with_reducible refine Below.drew ?_)
    | (with_reducible refine below_regrown_up _ _ ?_ ?_)
    | (with_reducible refine Below.alloc ?_ ?_ _)
    | (with_reducible refine Below.setCell ?_ ?_ _)
    | (with_reducible refine below_up ?_ ?_ (by assumption))
    | (with_reducible exact Nat.le_refl _)
    | omega
    | (simp; done)
    | (simp; omega))
theorem comms_get {p d : Int} {l : List Bill} {k : Nat} (h : k < (comms p d l).length) (h' : k < l.length) : (comms p d l)[k] = comm p d l[k].price := List.getElem_map _
/-- What an undoing in the ledger of the posted commissions leaves. -/
structure UndoFacts (p d ch : Int) (l : List Bill) (R : List Int) (PO : List Entry) : Prop where
  len : PO.length ≤ 60
  ok : ledOk PO = true
  yes : agreesR p d l ch R PO = (true, 0)
  none_ : ∀ (k : Nat) (hk : k < (ofCh l ch).length) (hR : k < R.length), R[k] = 0 → undoR PO (ofCh l ch)[k].stay 366 = ([], 4)
  some_ : ∀ (k : Nat) (hk : k < (ofCh l ch).length) (hR : k < R.length), R[k] ≠ 0 → ∃ m, undoR PO (ofCh l ch)[k].stay 366 = (m, 0) ∧ m.length ≤ 5000 ∧ agreesR p d l ch R m = (false, 0)
theorem undoFacts {p d ch s : Int} {l : List Bill} {R : List Int} (h1 : partOk p d = true) (h2 : billsOk l = true) (c0 : 0 ≤ ch) (c1 : ch ≤ 29) (hl : l.length ≤ 60) (hr : stmtR p d l ch = (R, s, 0)) (hR : comms p d (ofCh l ch) = R) : UndoFacts p d ch l R (postsA p d ch 0 (ofCh l ch)) := by
  subst hR
  obtain ⟨hb, hn⟩ := billsOk_iff.1 h2
  have hb' : ∀ b ∈ ofCh l ch, b.ok = true := fun b h => hb b (List.mem_filter.1 h).1
  have hn' : (stays (ofCh l ch)).Nodup := stays_ofCh hn
  have hlo := ofCh_len l ch
  have hpl := postsA_len (p := p) (d := d) (ch := ch) (ofCh l ch) 0
  have hok := postsA_ok (p := p) (d := d) (ch := ch) (l := ofCh l ch) h1 hb' ⟨c0, c1⟩ (by omega)
  refine ⟨by omega, hok, ?_, fun k hk hR h => ?_, fun k hk hR h => ?_⟩
  · rw [agreesR_ok hr hok, agrees_posts h1 ⟨c0, c1⟩ hb' hn']
  · refine undo_none h1 ⟨c0, c1⟩ hb' hn' (by omega) hk ?_
    exact (comms_get hR hk).symm.trans h
  · have h' : comm p d (ofCh l ch)[k].price ≠ 0 := by
      intro e; exact h ((comms_get hR hk).trans e)
    obtain ⟨m, e1, e2, e3⟩ := undo_some h1 ⟨c0, c1⟩ hb' hn' (by omega) hk h'
    refine ⟨m, e1, (ledOk_iff.1 e2).1, ?_⟩
    rw [agreesR_ok hr e2, agrees_moved hk (by rw [e3]; exact fun e => h' e.symm)]
theorem cundone_far (p d : Int) (l : List Bill) (A : Option Addr) (c : Nat) (ch u : Int) (w : World) (hs : SlBill w A l) (hl0 : l.length ≤ maxLen) (hu : use30 p d l ch = true) (hr : stmtR p d l ch = ([], 0, 3)) :
    Calls Try.prog 12 #[.agg #[.int .i64 p, .int .i64 d], .slice A l.length c, .int .i64 ch, .int .u8 u] w fun e w' => e = .returned (.bool true) ∧ Below w.heap.size w w' := by
  have HS := Lib.hid hr
  clear hr
  go_enter Try.func12, Try.ntmps12
  go_wp2_with (first | (go_at_call 23; refine (head30_any _).mono ?_; rintro e w1 ⟨rfl, hb1⟩; have hz1 := hb1.size; (try simp only [World.size_alloc, World.size_setCell, World.size_drew, size_drewN', size_grow, size_redrawn] at hz1); obtain ⟨hc1, hf1⟩ := bcellB (B := w.heap.size + 1) hb1 (by first | omega | (simp only [World.size_alloc, World.size_setCell, World.size_drew, size_drewN', size_grow, size_redrawn]; omega))) | (go_at_call 32; refine (usable30_any p d l A c ch _ (hs.up (by repeat' (first | (with_reducible exact Below.refl _ _) | (with_reducible assumption) | (with_reducible refine below_drewN ?_ _) | (with_reducible refine Below.drew ?_) | (with_reducible refine below_regrown_up _ _ ?_ ?_) | (with_reducible refine Below.alloc ?_ ?_ _) | (with_reducible refine Below.setCell ?_ ?_ _) | (with_reducible refine below_up ?_ ?_ (by assumption)) | (with_reducible exact Nat.le_refl _) | omega | (simp; done) | (simp; omega)))) hl0).mono ?_; rintro e w2 ⟨rfl, hb2⟩; have hz2 := hb2.size; (try simp only [World.size_alloc, World.size_setCell, World.size_drew, size_drewN', size_grow, size_redrawn] at hz2); obtain ⟨hc2, hf2⟩ := bcellB (B := w.heap.size + 1) hb2 (by first | omega | (simp only [World.size_alloc, World.size_setCell, World.size_drew, size_drewN', size_grow, size_redrawn]; omega)); rw [hu]))
  have hB1 : Below w.heap.size w w1 := (by repeat' (first | (with_reducible exact Below.refl _ _) | (with_reducible assumption) | (with_reducible refine below_drewN ?_ _) | (with_reducible refine Below.drew ?_) | (with_reducible refine below_regrown_up _ _ ?_ ?_) | (with_reducible refine Below.alloc ?_ ?_ _) | (with_reducible refine Below.setCell ?_ ?_ _) | (with_reducible refine below_up ?_ ?_ (by assumption)) | (with_reducible exact Nat.le_refl _) | omega | (simp; done) | (simp; omega)))
  have hB2 := below_up hB1 (by omega) hb2
  refine (cstmt_lit HS.out A c _ (hs.up hB2) hl0).mono ?_
  rintro e w3 ⟨⟨A3, c3, rfl, hs3⟩, hb3⟩
  have hB3 := below_up hB2 (by omega) hb3
  go_wp2_with fail
  go_ret
  refine ⟨ret_bool (by simp), hB3⟩
theorem cundone_yes (p d : Int) (l : List Bill) (A : Option Addr) (c : Nat) (ch u : Int) (w : World) (hs : SlBill w A l) (hl0 : l.length ≤ maxLen) (hu : use30 p d l ch = true) (u0 : 0 ≤ u) (u1 : u ≤ 255)
    (R : List Int) (s : Int) (hr : stmtR p d l ch = (R, s, 0)) (hR : comms p d (ofCh l ch) = R) :
    Calls Try.prog 12 #[.agg #[.int .i64 p, .int .i64 d], .slice A l.length c, .int .i64 ch, .int .u8 u] w fun e w' => e = .returned (.bool true) ∧ Below w.heap.size w w' := by
  obtain ⟨h1, h0, h2, h3⟩ := use30_iff.1 hu
  obtain ⟨g0, g1⟩ := inB_iff.1 h3
  have HS := Lib.hid hr
  have HP := Lib.hid (undoFacts h1 h2 g0 g1 h0 hr hR)
  have HRR := Lib.hid hR
  have hPL := HP.out.len
  have hRl : R.length ≤ 60 := by
    have := ofCh_len l ch
    rw [← hR]; unfold comms; rw [List.length_map]; omega
  clear hr hR
  have hRm : R.length ≤ maxLen := by unfold maxLen; omega
  by_cases hn : 0 < R.length
  · have hn1 : ((R.length : Int) == 0) = false := by rw [beq_eq_false_iff_ne]; omega
    have hn2 : R.length ≠ 0 := by omega
    have hk0 : 0 ≤ u % (R.length : Int) := Int.emod_nonneg _ (by omega)
    have hk1 : u % (R.length : Int) < (R.length : Int) := Int.emod_lt_of_pos _ (by omega)
    obtain ⟨k, hkk⟩ : ∃ k : Nat, u % (R.length : Int) = k := ⟨(u % (R.length : Int)).toNat, by omega⟩
    rw [hkk] at hk0 hk1
    have hkR : k < R.length := by omega
    have hkO : k < (ofCh l ch).length := by
      have h9 := congrArg List.length HRR.out
      unfold comms at h9
      rw [List.length_map] at h9
      omega
    have hkI : (k : Int) < ((ofCh l ch).length : Int) := by omega
    go_enter Try.func12, Try.ntmps12
    go_wp2_with (first | (go_at_call 23; refine (head30_any _).mono ?_; rintro e w1 ⟨rfl, hb1⟩; have hz1 := hb1.size; (try simp only [World.size_alloc, World.size_setCell, World.size_drew, size_drewN', size_grow, size_redrawn] at hz1); obtain ⟨hc1, hf1⟩ := bcellB (B := w.heap.size + 1) hb1 (by first | omega | (simp only [World.size_alloc, World.size_setCell, World.size_drew, size_drewN', size_grow, size_redrawn]; omega))) | (go_at_call 32; refine (usable30_any p d l A c ch _ (hs.up (by repeat' (first | (with_reducible exact Below.refl _ _) | (with_reducible assumption) | (with_reducible refine below_drewN ?_ _) | (with_reducible refine Below.drew ?_) | (with_reducible refine below_regrown_up _ _ ?_ ?_) | (with_reducible refine Below.alloc ?_ ?_ _) | (with_reducible refine Below.setCell ?_ ?_ _) | (with_reducible refine below_up ?_ ?_ (by assumption)) | (with_reducible exact Nat.le_refl _) | omega | (simp; done) | (simp; omega)))) hl0).mono ?_; rintro e w2 ⟨rfl, hb2⟩; have hz2 := hb2.size; (try simp only [World.size_alloc, World.size_setCell, World.size_drew, size_drewN', size_grow, size_redrawn] at hz2); obtain ⟨hc2, hf2⟩ := bcellB (B := w.heap.size + 1) hb2 (by first | omega | (simp only [World.size_alloc, World.size_setCell, World.size_drew, size_drewN', size_grow, size_redrawn]; omega)); rw [hu]))
    have hB1 : Below w.heap.size w w1 := (by repeat' (first | (with_reducible exact Below.refl _ _) | (with_reducible assumption) | (with_reducible refine below_drewN ?_ _) | (with_reducible refine Below.drew ?_) | (with_reducible refine below_regrown_up _ _ ?_ ?_) | (with_reducible refine Below.alloc ?_ ?_ _) | (with_reducible refine Below.setCell ?_ ?_ _) | (with_reducible refine below_up ?_ ?_ (by assumption)) | (with_reducible exact Nat.le_refl _) | omega | (simp; done) | (simp; omega)))
    have hB2 := below_up hB1 (by omega) hb2
    refine (cstmt_lit HS.out A c _ (hs.up hB2) hl0).mono ?_
    rintro e w3 ⟨⟨A3, c3, rfl, hs3⟩, hb3⟩
    have hz3 := hb3.size
    obtain ⟨hc3, hf3⟩ := bcellB (B := w.heap.size + 1) hb3 (by omega)
    have hB3 := below_up hB2 (by omega) hb3
    have x0 : w3.cell? ⟨w.heap.size, 0, none⟩ = some (.int .i64 p) := by go_simp
    have x1 : w3.cell? ⟨w.heap.size, 1, none⟩ = some (.int .i64 d) := by go_simp
    have lt3 : w.heap.size < w3.heap.size := by omega
    go_wp2_with fail
    refine (posted_any p d l A c ch A3 c3 R _ (hs.up hB3) hs3 HRR.out h1 h2 g0 g1 h0).mono ?_
    generalize postsA p d ch 0 (ofCh l ch) = PO at *
    rintro e w4 ⟨⟨A4, c4, rfl, hs4⟩, hb4⟩
    have hz4 := hb4.size
    have hB4 := below_up hB3 (by omega) hb4
    have hse4 : PO.length ≤ 140737488355328 := by omega
    go_wp2_with fail
    refine (rlvalid_any PO A4 c4 _ hs4 hse4).mono ?_
    rintro e w5 ⟨rfl, hb5⟩; have hz5 := hb5.size; (try simp only [World.size_alloc, World.size_setCell, World.size_drew, size_drewN', size_grow, size_redrawn] at hz5); obtain ⟨hc5, hf5⟩ := bcellB (B := w.heap.size + 1) hb5 (by first | omega | (simp only [World.size_alloc, World.size_setCell, World.size_drew, size_drewN', size_grow, size_redrawn]; omega))
    rw [HP.out.ok]
    have hB5 := below_up hB4 (by omega) hb5
    have hb35 := below_up hb4 hz4 hb5
    go_wp2_with fail
    refine (rOf_any l A c ch _ (hs.up hB5) (by omega)).mono ?_
    rintro e w8 ⟨⟨v8, rfl, hown8⟩, hb8⟩
    have hz8 := hb8.size
    have hb38 := below_up hb35 (by omega) hb8
    have hB8 := below_up hB5 (by omega) hb8
    obtain ⟨A8, c8, rfl, _, _, hs8⟩ := hown8.sl bill_len
    obtain ⟨b8, o8, rfl, hbl8, hcell8⟩ := hs8.at_ hkO
    have t0 := hcell8 0 _ rfl
    rw [Nat.add_zero] at t0
    clear hcell8 hown8
    have HN := Lib.hid (HP.out.none_ k hkO hkR)
    have HM := Lib.hid (HP.out.some_ k hkO hkR)
    generalize (ofCh l ch)[k].stay = stay at *
    have lt8 : w.heap.size < w8.heap.size := by omega
    have v0 := (hb38.cell (p := ⟨w.heap.size, 0, none⟩) lt3).trans x0
    have v1 := (hb38.cell (p := ⟨w.heap.size, 1, none⟩) lt3).trans x1
    have hb48 := below_up hb5 hz5 hb8
    go_wp2_with fail
    by_cases hz : R[k] = 0
    · have hzb : (R[k] == 0) = true := by simpa using hz
      have HQ := Lib.hid (HN.out hz)
      clear hz
      refine (undo30 HQ.out A4 c4 _ (hs4.up hb48) hse4).mono ?_
      rintro e w9 ⟨⟨A9, c9, rfl, hs9⟩, hb9⟩
      have hz9 := hb9.size
      have hb39 := below_up hb38 (by omega) hb9
      have hb49 := below_up hb48 (by omega) hb9
      have hB9 := below_up hB8 (by omega) hb9
      have q0 := (hb9.cell (p := ⟨w.heap.size, 0, none⟩) lt8).trans v0
      have q1 := (hb9.cell (p := ⟨w.heap.size, 1, none⟩) lt8).trans v1
      have lt9 : w.heap.size < w9.heap.size := by omega
      have hs39 := hs3.up hb39
      obtain ⟨b3, o3, rfl, hbl3, hcell3⟩ := hs39.at_ hkR
      have s0 := hcell3 0 _ rfl
      rw [Nat.add_zero, Nat.mul_one] at s0
      clear hcell3
      go_wp2_with fail
      refine (cagrees_lit HP.out.yes A c (some ⟨b3, o3, none⟩) c3 A4 c4 _ (hs.up hB9) hl0 hs39 hRm (hs4.up hb49) hse4).mono ?_
      rintro e w11 ⟨rfl, hb11⟩; have hz11 := hb11.size; (try simp only [World.size_alloc, World.size_setCell, World.size_drew, size_drewN', size_grow, size_redrawn] at hz11); obtain ⟨hc11, hf11⟩ := bcellB (B := w.heap.size + 1) hb11 (by first | omega | (simp only [World.size_alloc, World.size_setCell, World.size_drew, size_drewN', size_grow, size_redrawn]; omega))
      go_wp2_with fail
      go_ret
      refine ⟨ret_bool (by simp), below_up hB9 (by omega) hb11⟩
    · have hzb : (R[k] == 0) = false := by simpa using hz
      obtain ⟨MO, hq, hml, hag⟩ := HM.out hz
      have HQ := Lib.hid hq
      have HAG := Lib.hid hag
      have hml' : MO.length ≤ 140737488355328 := by omega
      clear hz hq hag
      refine (undo30 HQ.out A4 c4 _ (hs4.up hb48) hse4).mono ?_
      rintro e w9 ⟨⟨A9, c9, rfl, hs9⟩, hb9⟩
      have hz9 := hb9.size
      have hb39 := below_up hb38 (by omega) hb9
      have hb49 := below_up hb48 (by omega) hb9
      have hB9 := below_up hB8 (by omega) hb9
      have q0 := (hb9.cell (p := ⟨w.heap.size, 0, none⟩) lt8).trans v0
      have q1 := (hb9.cell (p := ⟨w.heap.size, 1, none⟩) lt8).trans v1
      have lt9 : w.heap.size < w9.heap.size := by omega
      have hs39 := hs3.up hb39
      obtain ⟨b3, o3, rfl, hbl3, hcell3⟩ := hs39.at_ hkR
      have s0 := hcell3 0 _ rfl
      rw [Nat.add_zero, Nat.mul_one] at s0
      clear hcell3
      go_wp2_with fail
      refine (cagrees_lit HAG.out A c (some ⟨b3, o3, none⟩) c3 A9 c9 _ (hs.up hB9) hl0 hs39 hRm hs9 hml').mono ?_
      rintro e w11 ⟨rfl, hb11⟩; have hz11 := hb11.size; (try simp only [World.size_alloc, World.size_setCell, World.size_drew, size_drewN', size_grow, size_redrawn] at hz11); obtain ⟨hc11, hf11⟩ := bcellB (B := w.heap.size + 1) hb11 (by first | omega | (simp only [World.size_alloc, World.size_setCell, World.size_drew, size_drewN', size_grow, size_redrawn]; omega))
      go_wp2_with fail
      go_ret
      refine ⟨ret_bool (by simp), below_up hB9 (by omega) hb11⟩
  · have hn1 : ((R.length : Int) == 0) = true := by rw [beq_iff_eq]; omega
    have hn2 : R.length = 0 := by omega
    go_enter Try.func12, Try.ntmps12
    go_wp2_with (first | (go_at_call 23; refine (head30_any _).mono ?_; rintro e w1 ⟨rfl, hb1⟩; have hz1 := hb1.size; (try simp only [World.size_alloc, World.size_setCell, World.size_drew, size_drewN', size_grow, size_redrawn] at hz1); obtain ⟨hc1, hf1⟩ := bcellB (B := w.heap.size + 1) hb1 (by first | omega | (simp only [World.size_alloc, World.size_setCell, World.size_drew, size_drewN', size_grow, size_redrawn]; omega))) | (go_at_call 32; refine (usable30_any p d l A c ch _ (hs.up (by repeat' (first | (with_reducible exact Below.refl _ _) | (with_reducible assumption) | (with_reducible refine below_drewN ?_ _) | (with_reducible refine Below.drew ?_) | (with_reducible refine below_regrown_up _ _ ?_ ?_) | (with_reducible refine Below.alloc ?_ ?_ _) | (with_reducible refine Below.setCell ?_ ?_ _) | (with_reducible refine below_up ?_ ?_ (by assumption)) | (with_reducible exact Nat.le_refl _) | omega | (simp; done) | (simp; omega)))) hl0).mono ?_; rintro e w2 ⟨rfl, hb2⟩; have hz2 := hb2.size; (try simp only [World.size_alloc, World.size_setCell, World.size_drew, size_drewN', size_grow, size_redrawn] at hz2); obtain ⟨hc2, hf2⟩ := bcellB (B := w.heap.size + 1) hb2 (by first | omega | (simp only [World.size_alloc, World.size_setCell, World.size_drew, size_drewN', size_grow, size_redrawn]; omega)); rw [hu]))
    have hB1 : Below w.heap.size w w1 := (by repeat' (first | (with_reducible exact Below.refl _ _) | (with_reducible assumption) | (with_reducible refine below_drewN ?_ _) | (with_reducible refine Below.drew ?_) | (with_reducible refine below_regrown_up _ _ ?_ ?_) | (with_reducible refine Below.alloc ?_ ?_ _) | (with_reducible refine Below.setCell ?_ ?_ _) | (with_reducible refine below_up ?_ ?_ (by assumption)) | (with_reducible exact Nat.le_refl _) | omega | (simp; done) | (simp; omega)))
    have hB2 := below_up hB1 (by omega) hb2
    refine (cstmt_lit HS.out A c _ (hs.up hB2) hl0).mono ?_
    rintro e w3 ⟨⟨A3, c3, rfl, hs3⟩, hb3⟩
    have hB3 := below_up hB2 (by omega) hb3
    go_wp2_with fail
    go_ret
    refine ⟨ret_bool (by simp), hB3⟩
theorem law_cundone (p d : Int) (l : List Bill) (A : Option Addr) (c : Nat) (ch u : Int) (w : World) (hs : SlBill w A l) (hl0 : l.length ≤ maxLen) (u0 : 0 ≤ u) (u1 : u ≤ 255) :
    Calls Try.prog 12 #[.agg #[.int .i64 p, .int .i64 d], .slice A l.length c, .int .i64 ch, .int .u8 u] w fun e w' => e = .returned (.bool true) ∧ Below w.heap.size w w' := by
  cases hu : use30 p d l ch
  · exact cundone_no p d l A c ch u w hs hl0 hu
  · obtain ⟨h1, h0, h2, h3⟩ := use30_iff.1 hu
    by_cases hfar : 1000000000 < (comms p d (ofCh l ch)).sum
    · exact cundone_far p d l A c ch u w hs hl0 hu (stmtR_far (by omega) h1 h2 h3 hfar)
    · exact cundone_yes p d l A c ch u w hs hl0 hu u0 u1 _ _ (stmtR_ok (by omega) h1 h2 h3 hfar) rfl
end Go.Proofs.Ythnncojbckifnaa
