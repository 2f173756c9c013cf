/-
  A law of package deposit: a deposit that is posted, settled, and undone.
-/
import Derived.Test.YthnncojbckifnaaDep5
import Derived.Test.YthnncojbckifnaaSetP
namespace Go.Proofs.Ythnncojbckifnaa
set_option linter.unusedSimpArgs false
set_option linter.unusedVariables false
open Go.RowKit
open Go.Sort (grow size_grow)

set_option maxHeartbeats 4000000
set_option maxRecDepth 100000
theorem settles_no (l : List Entry) (A : Option Addr) (c : Nat) (b : Bill) (paid u : Int) (w : World) (hs : SlEnt w A l)
    (h : ¬ (l.length ≤ 40 ∧ ledOk l = true ∧ b.ok = true ∧ 1 ≤ paid ∧ amt paid = true)) :
    Calls Try.prog 11 #[.slice A l.length c, b.v, .int .i64 paid, .int .u16 u] w fun e w' => e = .returned (.bool true) ∧ Below w.heap.size w w' := by
  by_cases h0 : 40 < l.length
  · have h0' : (40 : Int) < (l.length : Int) := by omega
    go_enter Try.func11, Try.ntmps11
    go_wp2_with (first
      | (go_at_call 13; refine (head31_any _).mono ?_; rintro e w1 ⟨rfl, hb1⟩; have hz1 := hb1.size; (try simp only [World.size_alloc, World.size_setCell, World.size_drew, size_drewN', size_grow, size_redrawn] at hz1); obtain ⟨hc1, hf1⟩ := bcellB (B := w.heap.size + 1) hb1 (by first | omega | (simp only [World.size_alloc, World.size_setCell, World.size_drew, size_drewN', size_grow, size_redrawn]; omega)))
      | (go_at_call 36; refine (rlvalid_any l A c _ (hs.up (by repeat' (first | (with_reducible exact Below.refl _ _) | (with_reducible assumption) | (with_reducible refine below_drewN ?_ _) | (with_reducible refine Below.drew ?_) | (with_reducible refine below_regrown_up _ _ ?_ ?_) | (with_reducible refine Below.alloc ?_ ?_ _) | (with_reducible refine Below.setCell ?_ ?_ _) | (with_reducible refine below_up ?_ ?_ (by assumption)) | (with_reducible exact Nat.le_refl _) | omega | (simp; done) | (simp; omega)))) hl1).mono ?_; rintro e w2 ⟨rfl, hb2⟩; have hz2 := hb2.size; (try simp only [World.size_alloc, World.size_setCell, World.size_drew, size_drewN', size_grow, size_redrawn] at hz2); obtain ⟨hc2, hf2⟩ := bcellB (B := w.heap.size + 1) hb2 (by first | omega | (simp only [World.size_alloc, World.size_setCell, World.size_drew, size_drewN', size_grow, size_redrawn]; omega))); rw [h1]
      | (go_at_call 21; refine (rbill_any b _).mono ?_; rintro e w3 ⟨rfl, hb3⟩; have hz3 := hb3.size; (try simp only [World.size_alloc, World.size_setCell, World.size_drew, size_drewN', size_grow, size_redrawn] at hz3); obtain ⟨hc3, hf3⟩ := bcellB (B := w.heap.size + 1) hb3 (by first | omega | (simp only [World.size_alloc, World.size_setCell, World.size_drew, size_drewN', size_grow, size_redrawn]; omega))); rw [h2]
      | (go_at_call 22; refine (ramount_any _ _).mono ?_; rintro e w' ⟨rfl, rfl⟩); rw [h4])
    go_ret
    refine ⟨ret_bool (by simp), ?_⟩
    repeat' (first
      | (with_reducible exact Below.refl _ _)
      | (with_reducible assumption)
      | (with_reducible refine below_drewN ?_ _)
      | (with_reducible refine Below.drew ?_)
      | (with_reducible refine below_regrown_up _ _ ?_ ?_)
      | (with_reducible refine Below.alloc ?_ ?_ _)
      | (with_reducible refine Below.setCell ?_ ?_ _)
      | (with_reducible refine below_up ?_ ?_ (by assumption))
      | (with_reducible exact Nat.le_refl _)
      | omega
      | (simp; done)
      | (simp; omega))
  · have h0' : ¬ (40 : Int) < (l.length : Int) := by omega
    have hl1 : l.length ≤ 140737488355328 := by omega
    cases h1 : ledOk l
    · go_enter Try.func11, Try.ntmps11
      go_wp2_with (first
        | (go_at_call 13; refine (head31_any _).mono ?_; rintro e w1 ⟨rfl, hb1⟩; have hz1 := hb1.size; (try simp only [World.size_alloc, World.size_setCell, World.size_drew, size_drewN', size_grow, size_redrawn] at hz1); obtain ⟨hc1, hf1⟩ := bcellB (B := w.heap.size + 1) hb1 (by first | omega | (simp only [World.size_alloc, World.size_setCell, World.size_drew, size_drewN', size_grow, size_redrawn]; omega)))
        | (go_at_call 36; refine (rlvalid_any l A c _ (hs.up (by repeat' (first | (with_reducible exact Below.refl _ _) | (with_reducible assumption) | (with_reducible refine below_drewN ?_ _) | (with_reducible refine Below.drew ?_) | (with_reducible refine below_regrown_up _ _ ?_ ?_) | (with_reducible refine Below.alloc ?_ ?_ _) | (with_reducible refine Below.setCell ?_ ?_ _) | (with_reducible refine below_up ?_ ?_ (by assumption)) | (with_reducible exact Nat.le_refl _) | omega | (simp; done) | (simp; omega)))) hl1).mono ?_; rintro e w2 ⟨rfl, hb2⟩; have hz2 := hb2.size; (try simp only [World.size_alloc, World.size_setCell, World.size_drew, size_drewN', size_grow, size_redrawn] at hz2); obtain ⟨hc2, hf2⟩ := bcellB (B := w.heap.size + 1) hb2 (by first | omega | (simp only [World.size_alloc, World.size_setCell, World.size_drew, size_drewN', size_grow, size_redrawn]; omega))); rw [h1]
        | (go_at_call 21; refine (rbill_any b _).mono ?_; rintro e w3 ⟨rfl, hb3⟩; have hz3 := hb3.size; (try simp only [World.size_alloc, World.size_setCell, World.size_drew, size_drewN', size_grow, size_redrawn] at hz3); obtain ⟨hc3, hf3⟩ := bcellB (B := w.heap.size + 1) hb3 (by first | omega | (simp only [World.size_alloc, World.size_setCell, World.size_drew, size_drewN', size_grow, size_redrawn]; omega))); rw [h2]
        | (go_at_call 22; refine (ramount_any _ _).mono ?_; rintro e w' ⟨rfl, rfl⟩); rw [h4])
      go_ret
      refine ⟨ret_bool (by simp), ?_⟩
      repeat' (first
        | (with_reducible exact Below.refl _ _)
        | (with_reducible assumption)
        | (with_reducible refine below_drewN ?_ _)
        | (with_reducible refine Below.drew ?_)
        | (with_reducible refine below_regrown_up _ _ ?_ ?_)
        | (with_reducible refine Below.alloc ?_ ?_ _)
        | (with_reducible refine Below.setCell ?_ ?_ _)
        | (with_reducible refine below_up ?_ ?_ (by assumption))
        | (with_reducible exact Nat.le_refl _)
        | omega
        | (simp; done)
        | (simp; omega))
    · cases h2 : b.ok
      · go_enter Try.func11, Try.ntmps11
        go_wp2_with (first
          | (go_at_call 13; refine (head31_any _).mono ?_; rintro e w1 ⟨rfl, hb1⟩; have hz1 := hb1.size; (try simp only [World.size_alloc, World.size_setCell, World.size_drew, size_drewN', size_grow, size_redrawn] at hz1); obtain ⟨hc1, hf1⟩ := bcellB (B := w.heap.size + 1) hb1 (by first | omega | (simp only [World.size_alloc, World.size_setCell, World.size_drew, size_drewN', size_grow, size_redrawn]; omega)))
          | (go_at_call 36; refine (rlvalid_any l A c _ (hs.up (by repeat' (first | (with_reducible exact Below.refl _ _) | (with_reducible assumption) | (with_reducible refine below_drewN ?_ _) | (with_reducible refine Below.drew ?_) | (with_reducible refine below_regrown_up _ _ ?_ ?_) | (with_reducible refine Below.alloc ?_ ?_ _) | (with_reducible refine Below.setCell ?_ ?_ _) | (with_reducible refine below_up ?_ ?_ (by assumption)) | (with_reducible exact Nat.le_refl _) | omega | (simp; done) | (simp; omega)))) hl1).mono ?_; rintro e w2 ⟨rfl, hb2⟩; have hz2 := hb2.size; (try simp only [World.size_alloc, World.size_setCell, World.size_drew, size_drewN', size_grow, size_redrawn] at hz2); obtain ⟨hc2, hf2⟩ := bcellB (B := w.heap.size + 1) hb2 (by first | omega | (simp only [World.size_alloc, World.size_setCell, World.size_drew, size_drewN', size_grow, size_redrawn]; omega))); rw [h1]
          | (go_at_call 21; refine (rbill_any b _).mono ?_; rintro e w3 ⟨rfl, hb3⟩; have hz3 := hb3.size; (try simp only [World.size_alloc, World.size_setCell, World.size_drew, size_drewN', size_grow, size_redrawn] at hz3); obtain ⟨hc3, hf3⟩ := bcellB (B := w.heap.size + 1) hb3 (by first | omega | (simp only [World.size_alloc, World.size_setCell, World.size_drew, size_drewN', size_grow, size_redrawn]; omega))); rw [h2]
          | (go_at_call 22; refine (ramount_any _ _).mono ?_; rintro e w' ⟨rfl, rfl⟩); rw [h4])
        go_ret
        refine ⟨ret_bool (by simp), ?_⟩
        repeat' (first
          | (with_reducible exact Below.refl _ _)
          | (with_reducible assumption)
          | (with_reducible refine below_drewN ?_ _)
          | (with_reducible refine Below.drew ?_)
          | (with_reducible refine below_regrown_up _ _ ?_ ?_)
          | (with_reducible refine Below.alloc ?_ ?_ _)
          | (with_reducible refine Below.setCell ?_ ?_ _)
          | (with_reducible refine below_up ?_ ?_ (by assumption))
          | (with_reducible exact Nat.le_refl _)
          | omega
          | (simp; done)
          | (simp; omega))
      · by_cases h3 : paid < 1
        · go_enter Try.func11, Try.ntmps11
          go_wp2_with (first
            | (go_at_call 13; refine (head31_any _).mono ?_; rintro e w1 ⟨rfl, hb1⟩; have hz1 := hb1.size; (try simp only [World.size_alloc, World.size_setCell, World.size_drew, size_drewN', size_grow, size_redrawn] at hz1); obtain ⟨hc1, hf1⟩ := bcellB (B := w.heap.size + 1) hb1 (by first | omega | (simp only [World.size_alloc, World.size_setCell, World.size_drew, size_drewN', size_grow, size_redrawn]; omega)))
            | (go_at_call 36; refine (rlvalid_any l A c _ (hs.up (by repeat' (first | (with_reducible exact Below.refl _ _) | (with_reducible assumption) | (with_reducible refine below_drewN ?_ _) | (with_reducible refine Below.drew ?_) | (with_reducible refine below_regrown_up _ _ ?_ ?_) | (with_reducible refine Below.alloc ?_ ?_ _) | (with_reducible refine Below.setCell ?_ ?_ _) | (with_reducible refine below_up ?_ ?_ (by assumption)) | (with_reducible exact Nat.le_refl _) | omega | (simp; done) | (simp; omega)))) hl1).mono ?_; rintro e w2 ⟨rfl, hb2⟩; have hz2 := hb2.size; (try simp only [World.size_alloc, World.size_setCell, World.size_drew, size_drewN', size_grow, size_redrawn] at hz2); obtain ⟨hc2, hf2⟩ := bcellB (B := w.heap.size + 1) hb2 (by first | omega | (simp only [World.size_alloc, World.size_setCell, World.size_drew, size_drewN', size_grow, size_redrawn]; omega))); rw [h1]
            | (go_at_call 21; refine (rbill_any b _).mono ?_; rintro e w3 ⟨rfl, hb3⟩; have hz3 := hb3.size; (try simp only [World.size_alloc, World.size_setCell, World.size_drew, size_drewN', size_grow, size_redrawn] at hz3); obtain ⟨hc3, hf3⟩ := bcellB (B := w.heap.size + 1) hb3 (by first | omega | (simp only [World.size_alloc, World.size_setCell, World.size_drew, size_drewN', size_grow, size_redrawn]; omega))); rw [h2]
            | (go_at_call 22; refine (ramount_any _ _).mono ?_; rintro e w' ⟨rfl, rfl⟩); rw [h4])
          go_ret
          refine ⟨ret_bool (by simp), ?_⟩
          repeat' (first
            | (with_reducible exact Below.refl _ _)
            | (with_reducible assumption)
            | (with_reducible refine below_drewN ?_ _)
            | (with_reducible refine Below.drew ?_)
            | (with_reducible refine below_regrown_up _ _ ?_ ?_)
            | (with_reducible refine Below.alloc ?_ ?_ _)
            | (with_reducible refine Below.setCell ?_ ?_ _)
            | (with_reducible refine below_up ?_ ?_ (by assumption))
            | (with_reducible exact Nat.le_refl _)
            | omega
            | (simp; done)
            | (simp; omega))
        · cases h4 : amt paid
          · go_enter Try.func11, Try.ntmps11
            go_wp2_with (first
              | (go_at_call 13; refine (head31_any _).mono ?_; rintro e w1 ⟨rfl, hb1⟩; have hz1 := hb1.size; (try simp only [World.size_alloc, World.size_setCell, World.size_drew, size_drewN', size_grow, size_redrawn] at hz1); obtain ⟨hc1, hf1⟩ := bcellB (B := w.heap.size + 1) hb1 (by first | omega | (simp only [World.size_alloc, World.size_setCell, World.size_drew, size_drewN', size_grow, size_redrawn]; omega)))
              | (go_at_call 36; refine (rlvalid_any l A c _ (hs.up (by repeat' (first | (with_reducible exact Below.refl _ _) | (with_reducible assumption) | (with_reducible refine below_drewN ?_ _) | (with_reducible refine Below.drew ?_) | (with_reducible refine below_regrown_up _ _ ?_ ?_) | (with_reducible refine Below.alloc ?_ ?_ _) | (with_reducible refine Below.setCell ?_ ?_ _) | (with_reducible refine below_up ?_ ?_ (by assumption)) | (with_reducible exact Nat.le_refl _) | omega | (simp; done) | (simp; omega)))) hl1).mono ?_; rintro e w2 ⟨rfl, hb2⟩; have hz2 := hb2.size; (try simp only [World.size_alloc, World.size_setCell, World.size_drew, size_drewN', size_grow, size_redrawn] at hz2); obtain ⟨hc2, hf2⟩ := bcellB (B := w.heap.size + 1) hb2 (by first | omega | (simp only [World.size_alloc, World.size_setCell, World.size_drew, size_drewN', size_grow, size_redrawn]; omega))); rw [h1]
              | (go_at_call 21; refine (rbill_any b _).mono ?_; rintro e w3 ⟨rfl, hb3⟩; have hz3 := hb3.size; (try simp only [World.size_alloc, World.size_setCell, World.size_drew, size_drewN', size_grow, size_redrawn] at hz3); obtain ⟨hc3, hf3⟩ := bcellB (B := w.heap.size + 1) hb3 (by first | omega | (simp only [World.size_alloc, World.size_setCell, World.size_drew, size_drewN', size_grow, size_redrawn]; omega))); rw [h2]
              | (go_at_call 22; refine (ramount_any _ _).mono ?_; rintro e w' ⟨rfl, rfl⟩); rw [h4])
            go_ret
            refine ⟨ret_bool (by simp), ?_⟩
            repeat' (first
              | (with_reducible exact Below.refl _ _)
              | (with_reducible assumption)
              | (with_reducible refine below_drewN ?_ _)
              | (with_reducible refine Below.drew ?_)
              | (with_reducible refine below_regrown_up _ _ ?_ ?_)
              | (with_reducible refine Below.alloc ?_ ?_ _)
              | (with_reducible refine Below.setCell ?_ ?_ _)
              | (with_reducible refine below_up ?_ ?_ (by assumption))
              | (with_reducible exact Nat.le_refl _)
              | omega
              | (simp; done)
              | (simp; omega))
          · exact absurd ⟨by omega, h1, h2, by omega, h4⟩ h
theorem settles_state (l : List Entry) (A : Option Addr) (c : Nat) (b : Bill) (paid u : Int) (w : World) (hs : SlEnt w A l) (hl : l.length ≤ 40) (hl1 : l.length ≤ 140737488355328)
    (h1 : ledOk l = true) (h2 : b.ok = true) (h3 : 1 ≤ paid) (h4 : amt paid = true) (u0 : 0 ≤ u) (u1 : u ≤ 65535) (hp : postR l (paidE b paid (u % 367)) = ([], 6)) :
    Calls Try.prog 11 #[.slice A l.length c, b.v, .int .i64 paid, .int .u16 u] w fun e w' => e = .returned (.bool true) ∧ Below w.heap.size w w' := by
  have HP := Lib.hid hp
  clear hp
  have s2 := Bill.ok_iff.1 h2
  obtain ⟨_, _, _, ⟨s0, s1⟩, _, ⟨p0, p1⟩, ⟨r0, r1⟩, k0, k1⟩ := s2
  obtain ⟨_, a1⟩ := inB_iff.1 h4
  have h0' : ¬ (40 : Int) < (l.length : Int) := by omega
  have h3' : ¬ paid < 1 := by omega
  have s3 : 0 ≤ b.stay := by omega
  have hd40 : decide ((40 : Int) < (l.length : Int)) = false := by simp; omega
  go_enter Try.func11, Try.ntmps11
  go_wp2_with (first
    | (go_at_call 13; refine (head31_any _).mono ?_; rintro e w1 ⟨rfl, hb1⟩; have hz1 := hb1.size; (try simp only [World.size_alloc, World.size_setCell, World.size_drew, size_drewN', size_grow, size_redrawn] at hz1); obtain ⟨hc1, hf1⟩ := bcellB (B := w.heap.size + 1) hb1 (by first | omega | (simp only [World.size_alloc, World.size_setCell, World.size_drew, size_drewN', size_grow, size_redrawn]; omega)))
    | (go_at_call 36; refine (rlvalid_any l A c _ (hs.up (by repeat' (first | (with_reducible exact Below.refl _ _) | (with_reducible assumption) | (with_reducible refine below_drewN ?_ _) | (with_reducible refine Below.drew ?_) | (with_reducible refine below_regrown_up _ _ ?_ ?_) | (with_reducible refine Below.alloc ?_ ?_ _) | (with_reducible refine Below.setCell ?_ ?_ _) | (with_reducible refine below_up ?_ ?_ (by assumption)) | (with_reducible exact Nat.le_refl _) | omega | (simp; done) | (simp; omega)))) hl1).mono ?_; rintro e w2 ⟨rfl, hb2⟩; have hz2 := hb2.size; (try simp only [World.size_alloc, World.size_setCell, World.size_drew, size_drewN', size_grow, size_redrawn] at hz2); obtain ⟨hc2, hf2⟩ := bcellB (B := w.heap.size + 1) hb2 (by first | omega | (simp only [World.size_alloc, World.size_setCell, World.size_drew, size_drewN', size_grow, size_redrawn]; omega))); rw [h1]
    | (go_at_call 21; refine (rbill_any b _).mono ?_; rintro e w3 ⟨rfl, hb3⟩; have hz3 := hb3.size; (try simp only [World.size_alloc, World.size_setCell, World.size_drew, size_drewN', size_grow, size_redrawn] at hz3); obtain ⟨hc3, hf3⟩ := bcellB (B := w.heap.size + 1) hb3 (by first | omega | (simp only [World.size_alloc, World.size_setCell, World.size_drew, size_drewN', size_grow, size_redrawn]; omega))); rw [h2]
    | (go_at_call 22; refine (ramount_any _ _).mono ?_; rintro e w' ⟨rfl, rfl⟩); rw [h4])
  go_wp2_with fail
  have hgr := regrown_cells w3 (B := w.heap.size + 1) (by omega)
  refine wp_region_quiet_below (by kernel_rfl) (by kernel_rfl) ?_
  repeat (quiet_step ((first | (go_at_call 37; exact quiet_s (raccount_any _ _ s3 s1)) | (go_at_call 38; exact quiet_b (rhouse_any b _ p0 p1)))))
  refine wpQuiet_nil ?_
  intro _ hw'
  obtain ⟨⟨dq, osq⟩, hw''⟩ := hw'
  subst hw''
  have hb7 := below_regrown w3 dq osq
  clear hgr
  generalize grow (redrawn w3 dq) osq = w7 at hb7 ⊢
  have hz7 := hb7.size
  (try simp only [World.size_alloc, World.size_setCell, World.size_drew, size_drewN', size_grow, size_redrawn] at hz7)
  obtain ⟨hc7, hf7⟩ := bcellB (B := w.heap.size + 1) hb7 (by first | omega | (simp only [World.size_alloc, World.size_setCell, World.size_drew, size_drewN', size_grow, size_redrawn]; omega))
  go_wp2_with fail
  generalize u % 367 = d at *
  refine (post_lit HP.out A c _ (hs.up (by repeat' (first | (with_reducible exact Below.refl _ _) | (with_reducible assumption) | (with_reducible refine below_drewN ?_ _) | (with_reducible refine Below.drew ?_) | (with_reducible refine below_regrown_up _ _ ?_ ?_) | (with_reducible refine Below.alloc ?_ ?_ _) | (with_reducible refine Below.setCell ?_ ?_ _) | (with_reducible refine below_up ?_ ?_ (by assumption)) | (with_reducible exact Nat.le_refl _) | omega | (simp; done) | (simp; omega)))) hl1).mono ?_
  rintro e w8 ⟨⟨A8, c8, rfl, _, hs8⟩, hb8⟩
  go_wp2_with fail
  go_ret
  refine ⟨ret_bool (by simp), ?_⟩
  repeat' (first
    | (with_reducible exact Below.refl _ _)
    | (with_reducible assumption)
    | (with_reducible refine below_drewN ?_ _)
    | (with_reducible refine Below.drew ?_)
    | (with_reducible refine below_regrown_up _ _ ?_ ?_)
    | (with_reducible refine Below.alloc ?_ ?_ _)
    | (with_reducible refine Below.setCell ?_ ?_ _)
    | (with_reducible refine below_up ?_ ?_ (by assumption))
    | (with_reducible exact Nat.le_refl _)
    | omega
    | (simp; done)
    | (simp; omega))
def pairC (p : Int × Int) : List Value := [.int .i64 p.1, .int .i64 p.2]
theorem settles_ok (l es : List Entry) (A : Option Addr) (c : Nat) (b : Bill) (paid u back kept : Int) (w : World) (hs : SlEnt w A l) (hl : l.length ≤ 40) (hl1 : l.length ≤ 140737488355328)
    (h1 : ledOk l = true) (h2 : b.ok = true) (h3 : 1 ≤ paid) (h4 : amt paid = true) (u0 : 0 ≤ u) (u1 : u ≤ 65535) (hp : postR l (paidE b paid (u % 367)) = (l ++ [paidE b paid (u % 367)], 0))
    (hrf : refundR b paid = (back, kept, 0)) (hen : entriesR b paid (u % 367) = (es, 0)) (he1 : 1 ≤ es.length) (he2 : es.length ≤ 2) (hk0 : 0 ≤ kept) (hk1 : kept ≤ 1000000000)
    (hst : ∀ j (hj : j < es.length), postR (l ++ paidE b paid (u % 367) :: es.take j) es[j] = (l ++ paidE b paid (u % 367) :: es.take (j + 1), 0))
    (hmk : ledOk (l ++ paidE b paid (u % 367) :: es) = true)
    (hbl : ∀ z n, (z = 500 + b.stay % 100 ∧ n = 0) ∨ (z = 900 ∧ n = kept) ∨ (z = 300 + b.place ∧ n = -kept) → bal (fun a => a == z) (l ++ paidE b paid (u % 367) :: es) (u % 367) = bal (fun a => a == z) l (u % 367) + n)
    (hun : (undoR (l ++ paidE b paid (u % 367) :: es) b.stay (u % 367) = ([], 4) ∧ ∀ p, bal p (l ++ paidE b paid (u % 367) :: es) (u % 367) = bal p (others b.stay l) (u % 367)) ∨
      ∃ m, undoR (l ++ paidE b paid (u % 367) :: es) b.stay (u % 367) = (m, 0) ∧ ledOk m = true ∧ ∀ p, bal p m (u % 367) = bal p (others b.stay l) (u % 367)) :
    Calls Try.prog 11 #[.slice A l.length c, b.v, .int .i64 paid, .int .u16 u] w fun e w' => e = .returned (.bool true) ∧ Below w.heap.size w w' := by
  have HP := Lib.hid hp
  have HRF := Lib.hid hrf
  have HEN := Lib.hid hen
  have HST := Lib.hid hst
  have HBL := Lib.hid hbl
  have HUN := Lib.hid hun
  have d0 : 0 ≤ u % 367 ∧ u % 367 ≤ 366 := by omega
  clear hp hrf hen hst hbl hun
  have s2 := Bill.ok_iff.1 h2
  obtain ⟨_, _, _, ⟨s0, s1⟩, _, ⟨p0, p1⟩, ⟨r0, r1⟩, k0, k1⟩ := s2
  obtain ⟨_, a1⟩ := inB_iff.1 h4
  have h0' : ¬ (40 : Int) < (l.length : Int) := by omega
  have h3' : ¬ paid < 1 := by omega
  have s3 : 0 ≤ b.stay := by omega
  have hd40 : decide ((40 : Int) < (l.length : Int)) = false := by simp; omega
  go_enter Try.func11, Try.ntmps11
  go_wp2_with (first
    | (go_at_call 13; refine (head31_any _).mono ?_; rintro e w1 ⟨rfl, hb1⟩; have hz1 := hb1.size; (try simp only [World.size_alloc, World.size_setCell, World.size_drew, size_drewN', size_grow, size_redrawn] at hz1); obtain ⟨hc1, hf1⟩ := bcellB (B := w.heap.size + 1) hb1 (by first | omega | (simp only [World.size_alloc, World.size_setCell, World.size_drew, size_drewN', size_grow, size_redrawn]; omega)))
    | (go_at_call 36; refine (rlvalid_any l A c _ (hs.up (by repeat' (first | (with_reducible exact Below.refl _ _) | (with_reducible assumption) | (with_reducible refine below_drewN ?_ _) | (with_reducible refine Below.drew ?_) | (with_reducible refine below_regrown_up _ _ ?_ ?_) | (with_reducible refine Below.alloc ?_ ?_ _) | (with_reducible refine Below.setCell ?_ ?_ _) | (with_reducible refine below_up ?_ ?_ (by assumption)) | (with_reducible exact Nat.le_refl _) | omega | (simp; done) | (simp; omega)))) hl1).mono ?_; rintro e w2 ⟨rfl, hb2⟩; have hz2 := hb2.size; (try simp only [World.size_alloc, World.size_setCell, World.size_drew, size_drewN', size_grow, size_redrawn] at hz2); obtain ⟨hc2, hf2⟩ := bcellB (B := w.heap.size + 1) hb2 (by first | omega | (simp only [World.size_alloc, World.size_setCell, World.size_drew, size_drewN', size_grow, size_redrawn]; omega))); rw [h1]
    | (go_at_call 21; refine (rbill_any b _).mono ?_; rintro e w3 ⟨rfl, hb3⟩; have hz3 := hb3.size; (try simp only [World.size_alloc, World.size_setCell, World.size_drew, size_drewN', size_grow, size_redrawn] at hz3); obtain ⟨hc3, hf3⟩ := bcellB (B := w.heap.size + 1) hb3 (by first | omega | (simp only [World.size_alloc, World.size_setCell, World.size_drew, size_drewN', size_grow, size_redrawn]; omega))); rw [h2]
    | (go_at_call 22; refine (ramount_any _ _).mono ?_; rintro e w' ⟨rfl, rfl⟩); rw [h4])
  go_wp2_with fail
  have hgr := regrown_cells w3 (B := w.heap.size + 1) (by omega)
  refine wp_region_quiet_below (by kernel_rfl) (by kernel_rfl) ?_
  repeat (quiet_step ((first | (go_at_call 37; exact quiet_s (raccount_any _ _ s3 s1)) | (go_at_call 38; exact quiet_b (rhouse_any b _ p0 p1)))))
  refine wpQuiet_nil ?_
  intro _ hw'
  obtain ⟨⟨dq, osq⟩, hw''⟩ := hw'
  subst hw''
  have hb7 := below_regrown w3 dq osq
  clear hgr
  generalize grow (redrawn w3 dq) osq = w7 at hb7 ⊢
  have hz7 := hb7.size
  (try simp only [World.size_alloc, World.size_setCell, World.size_drew, size_drewN', size_grow, size_redrawn] at hz7)
  obtain ⟨hc7, hf7⟩ := bcellB (B := w.heap.size + 1) hb7 (by first | omega | (simp only [World.size_alloc, World.size_setCell, World.size_drew, size_drewN', size_grow, size_redrawn]; omega))
  go_wp2_with fail
  generalize u % 367 = d at *
  obtain ⟨d0, d1⟩ := d0
  refine (post_lit HP.out A c _ (hs.up (by repeat' (first | (with_reducible exact Below.refl _ _) | (with_reducible assumption) | (with_reducible refine below_drewN ?_ _) | (with_reducible refine Below.drew ?_) | (with_reducible refine below_regrown_up _ _ ?_ ?_) | (with_reducible refine Below.alloc ?_ ?_ _) | (with_reducible refine Below.setCell ?_ ?_ _) | (with_reducible refine below_up ?_ ?_ (by assumption)) | (with_reducible exact Nat.le_refl _) | omega | (simp; done) | (simp; omega)))) hl1).mono ?_
  rintro e w8 ⟨⟨A8, c8, rfl, hc8', hs8⟩, hb8⟩
  have hB7 : Below w.heap.size w w7 := (by repeat' (first | (with_reducible exact Below.refl _ _) | (with_reducible assumption) | (with_reducible refine below_drewN ?_ _) | (with_reducible refine Below.drew ?_) | (with_reducible refine below_regrown_up _ _ ?_ ?_) | (with_reducible refine Below.alloc ?_ ?_ _) | (with_reducible refine Below.setCell ?_ ?_ _) | (with_reducible refine below_up ?_ ?_ (by assumption)) | (with_reducible exact Nat.le_refl _) | omega | (simp; done) | (simp; omega)))
  have hB8 := below_up hB7 hB7.size hb8
  have hz8 : w.heap.size + 1 ≤ w8.heap.size := by have := hb8.size; omega
  obtain ⟨hc8b, hf8b⟩ := bcellB (B := w.heap.size + 1) hb8 (by omega)
  generalize paidE b paid d = x0 at *
  generalize hM0 : l ++ [x0] = M0 at *
  have HM0 := Lib.hid hM0
  clear hM0
  go_wp2_with fail
  refine (refund_lit HRF.out _).mono ?_
  rintro e w9 ⟨rfl, hb9⟩; have hz9 := hb9.size; (try simp only [World.size_alloc, World.size_setCell, World.size_drew, size_drewN', size_grow, size_redrawn] at hz9); obtain ⟨hc9, hf9⟩ := bcellB (B := w.heap.size + 1) hb9 (by first | omega | (simp only [World.size_alloc, World.size_setCell, World.size_drew, size_drewN', size_grow, size_redrawn]; omega))
  have hB9 := below_up hB8 (by omega) hb9
  go_wp2_with fail
  refine (entries_lit HEN.out _).mono ?_
  rintro e w10 ⟨⟨A10, c10, rfl, hc10', hs10⟩, hb10⟩
  have hB10 := below_up hB9 (by omega) hb10
  have hz10 : w.heap.size + 1 ≤ w10.heap.size := by have := hb10.size; omega
  obtain ⟨hc10, hf10⟩ := bcellB (B := w.heap.size + 1) hb10 (by omega)
  have hst10 : w10.cell? ⟨w.heap.size, 0, none⟩ = some (.int .i64 b.stay) := by
    rw [hc10 _ _ (by omega), hc9 _ _ (by omega), hc8b _ _ (by omega), hc7 _ _ (by omega)]
    go_simp
  have HS10 := Lib.hid hst10
  clear hst10
  have hx1 : ¬ es.length = 0 := by omega
  have hx2 : ((es.length : Int) == 0) = false := by rw [beq_eq_false_iff_ne]; omega
  have hx3 : ¬ (2 : Int) < (es.length : Int) := by omega
  have hx4 : decide ((2 : Int) < (es.length : Int)) = false := by simp; omega
  go_wp2_with fail
  go_loopw [13, 121] (fun mv i wr => ∃ (j : Nat) (M : List Entry) (Am : Option Addr) (cm : Nat), j ≤ es.length ∧ i = .int .i64 j ∧ mv = .slice Am M.length cm ∧ Hid (M = l ++ x0 :: es.take j) ∧ SlEnt wr Am M ∧ Below w10.heap.size w10 wr) (fun _ i _ => es.length - (intOf i).toNat)
  case atStart => exact ⟨0, M0, A8, c8, by omega, rfl, rfl, Lib.hid (by rw [← HM0.out]; simp), hs8.up (below_up hb9 hb9.size hb10), Below.refl _ _⟩
  case round =>
    obtain ⟨j, M, Am, cm, hj, rfl, rfl, HM, hsm, hbw⟩ := hrel
    have hbz := hbw.size
    have hB := below_up hB10 (by omega) hbw
    obtain ⟨hcw, hfw⟩ := bcellB (B := w.heap.size + 1) hbw (by omega)
    have hml : M.length ≤ 43 := by rw [HM.out]; simp; omega
    by_cases hlt : j < es.length
    · have hx5 : (0 : Int) ≤ (j : Int) := by omega
      have hx6 : (j : Int) < (es.length : Int) := by omega
      obtain ⟨be, oe, rfl, hbl, hcell⟩ := (hs10.up hbw).at_ hlt
      have q0 := hcell 0 _ rfl
      have q1 := hcell 1 _ rfl
      have q2 := hcell 2 _ rfl
      have q3 := hcell 3 _ rfl
      have q4 := hcell 4 _ rfl
      rw [Nat.add_zero] at q0
      clear hcell
      have hpost := HST.out j hlt
      rw [← HM.out] at hpost
      obtain ⟨M', hM'⟩ : ∃ M', l ++ x0 :: es.take (j + 1) = M' := ⟨_, rfl⟩
      rw [hM'] at hpost
      have HM' := Lib.hid hM'
      have HPO := Lib.hid hpost
      clear hM' hpost
      go_wp2_with fail
      refine (post_lit HPO.out Am cm _ (hsm.up (by repeat' (first | (with_reducible exact Below.refl _ _) | (with_reducible assumption) | (with_reducible refine below_drewN ?_ _) | (with_reducible refine Below.drew ?_) | (with_reducible refine below_regrown_up _ _ ?_ ?_) | (with_reducible refine Below.alloc ?_ ?_ _) | (with_reducible refine Below.setCell ?_ ?_ _) | (with_reducible refine below_up ?_ ?_ (by assumption)) | (with_reducible exact Nat.le_refl _) | omega | (simp; done) | (simp; omega)))) (by omega)).mono ?_
      rintro e w11 ⟨⟨A11, c11, rfl, hc11', hs11⟩, hb11⟩
      go_wp2_with fail
      go_roundw
      case rel => exact ⟨j + 1, M', A11, c11, by omega, by go_num, rfl, Lib.hid HM'.out.symm, hs11, (by repeat' (first | (with_reducible exact Below.refl _ _) | (with_reducible assumption) | (with_reducible refine below_drewN ?_ _) | (with_reducible refine Below.drew ?_) | (with_reducible refine below_regrown_up _ _ ?_ ?_) | (with_reducible refine Below.alloc ?_ ?_ _) | (with_reducible refine Below.setCell ?_ ?_ _) | (with_reducible refine below_up ?_ ?_ (by assumption)) | (with_reducible exact Nat.le_refl _) | omega | (simp; done) | (simp; omega)))⟩
      case measure => simp [intOf]; omega
    · obtain rfl : j = es.length := by omega
      rw [List.take_of_length_le (Nat.le_refl _)] at HM
      obtain ⟨wx, hwx⟩ : ∃ wx, wx = wr := ⟨_, rfl⟩
      subst hwx
      rw [← HM.out] at hmk HBL HUN
      have hac : 500 ≤ 500 + b.stay % 100 ∧ 500 + b.stay % 100 ≤ 599 := by omega
      have hwk : IntKind.i64.wrap (-kept) = -kept := IntWalk.i64_in _ (by omega)
      go_wp2_with fail
      have hsa : Sl (wx.alloc (.cells #[.int .i64 (500 + b.stay % 100), .int .i64 0, .int .i64 900, .int .i64 kept, .int .i64 (300 + b.place), .int .i64 (-kept)] 69)) (wx.heap.size + 1) 2 pairC (some ⟨wx.heap.size, 0, none⟩) [(500 + b.stay % 100, 0), (900, kept), (300 + b.place, -kept)] :=
        sl_of_box (cs := #[.int .i64 (500 + b.stay % 100), .int .i64 0, .int .i64 900, .int .i64 kept, .int .i64 (300 + b.place), .int .i64 (-kept)]) (fun _ => rfl) (fun o => World.cell?_alloc_new wx _ 69 o) (by simp) rfl
      have hacc : ∀ a ∈ [(500 + b.stay % 100, 0), (900, kept), (300 + b.place, -kept)], (100 ≤ a.1 ∧ a.1 ≤ 999) ∧ (-1000000000 ≤ a.2 ∧ a.2 ≤ 1000000000) ∧ bal (fun z => z == a.1) M d = bal (fun z => z == a.1) l d + a.2 := by
        intro a ha
        simp only [List.mem_cons, List.not_mem_nil, or_false] at ha
        rcases ha with rfl | rfl | rfl
        · exact ⟨by simp only; omega, by simp only; omega, HBL.out _ _ (.inl ⟨rfl, rfl⟩)⟩
        · exact ⟨by simp only; omega, by simp only; omega, HBL.out _ _ (.inr (.inl ⟨rfl, rfl⟩))⟩
        · exact ⟨by simp only; omega, by simp only; omega, HBL.out _ _ (.inr (.inr ⟨rfl, rfl⟩))⟩
      obtain ⟨acc, hae⟩ : ∃ acc, [(500 + b.stay % 100, (0 : Int)), (900, kept), (300 + b.place, -kept)] = acc := ⟨_, rfl⟩
      have hlen3 : acc.length = 3 := by rw [← hae]; rfl
      rw [hae] at hsa hacc
      have HL3 := Lib.hid hlen3
      have HACC := Lib.hid hacc
      clear hae hlen3 hacc
      have hbx : Below wx.heap.size wx (wx.alloc (.cells #[.int .i64 (500 + b.stay % 100), .int .i64 0, .int .i64 900, .int .i64 kept, .int .i64 (300 + b.place), .int .i64 (-kept)] 69)) := (Below.refl _ _).alloc (Nat.le_refl _) _
      refine name_world (fun w12 hw12 => ?_)
      rw [← hw12] at hsa hbx
      have hz12 : wx.heap.size + 1 = w12.heap.size := by rw [hw12]; simp
      have HW12 := Lib.hid hw12
      clear hw12
      rw [hz12] at hsa
      obtain ⟨hc12, hf12⟩ := bcellB (B := w.heap.size + 1) hbx (by omega)
      have hB12 := below_up hB (by omega) hbx
      go_loopw [9, 145] (fun up i wr => ∃ j : Nat, j ≤ 3 ∧ i = .int .i64 j ∧ up = .bool true ∧ Below w12.heap.size w12 wr) (fun _ i _ => 3 - (intOf i).toNat)
      case atStart => exact ⟨0, by omega, rfl, rfl, Below.refl _ _⟩
      case round =>
        obtain ⟨j, hj, rfl, rfl, hbw2⟩ := hrel
        have hbz2 := hbw2.size
        have hB13 := below_up hB12 (by omega) hbw2
        obtain ⟨hcw2, hfw2⟩ := bcellB (B := w.heap.size + 1) hbw2 (by omega)
        have hby : Below wx.heap.size wx wr := below_up hbx (by omega) hbw2
        have hsy := hsm.up hby
        by_cases hlt2 : j < 3
        · have hj3 : j < acc.length := by rw [HL3.out]; exact hlt2
          obtain ⟨hbg, hcell⟩ := (hsa.up hbw2).cells hj3
          have r0 := hcell 0 _ rfl
          have r1 := hcell 1 _ rfl
          rw [Nat.add_zero, Nat.zero_add] at r0
          rw [Nat.zero_add] at r1
          clear hcell
          have ha := HACC.out _ (List.getElem_mem hj3)
          generalize acc[j] = a at *
          obtain ⟨z, n⟩ := a
          obtain ⟨ha1, ⟨n0, n1⟩, hbal⟩ := ha
          simp only at ha1 n0 n1 hbal r0 r1
          have hx5 : (0 : Int) ≤ (j : Int) := by omega
          have hx6 : (j : Int) < 3 := by omega
          have H1 := Lib.hid (balR_ok (a := z) h1 ha1 ⟨d0, d1⟩)
          have H2 := Lib.hid (balR_ok (a := z) hmk ha1 ⟨d0, d1⟩)
          obtain ⟨y1, y2⟩ := bal_bd (fun y => y == z) (day := d) h1
          rw [hbal] at H2
          clear hbal
          generalize bal (fun y => y == z) l d = S at *
          have hws : IntKind.i64.wrap (S + n) = S + n := IntWalk.i64_in _ (by omega)
          go_wp2_with fail
          refine (bal_lit H1.out A c _ (hs.up (by repeat' (first | (with_reducible exact Below.refl _ _) | (with_reducible assumption) | (with_reducible refine below_drewN ?_ _) | (with_reducible refine Below.drew ?_) | (with_reducible refine below_regrown_up _ _ ?_ ?_) | (with_reducible refine Below.alloc ?_ ?_ _) | (with_reducible refine Below.setCell ?_ ?_ _) | (with_reducible refine below_up ?_ ?_ (by assumption)) | (with_reducible exact Nat.le_refl _) | omega | (simp; done) | (simp; omega)))) hl1).mono ?_
          rintro e w14 ⟨rfl, hb14⟩; have hz14 := hb14.size; (try simp only [World.size_alloc, World.size_setCell, World.size_drew, size_drewN', size_grow, size_redrawn] at hz14); obtain ⟨hc14, hf14⟩ := bcellB (B := wr.heap.size + 1) hb14 (by first | omega | (simp only [World.size_alloc, World.size_setCell, World.size_drew, size_drewN', size_grow, size_redrawn]; omega))
          go_wp2_with fail
          refine (bal_lit H2.out Am cm _ (hsy.up (by repeat' (first | (with_reducible exact Below.refl _ _) | (with_reducible assumption) | (with_reducible refine below_drewN ?_ _) | (with_reducible refine Below.drew ?_) | (with_reducible refine below_regrown_up _ _ ?_ ?_) | (with_reducible refine Below.alloc ?_ ?_ _) | (with_reducible refine Below.setCell ?_ ?_ _) | (with_reducible refine below_up ?_ ?_ (by assumption)) | (with_reducible exact Nat.le_refl _) | omega | (simp; done) | (simp; omega)))) (by omega)).mono ?_
          rintro e w15 ⟨rfl, hb15⟩; have hz15 := hb15.size; (try simp only [World.size_alloc, World.size_setCell, World.size_drew, size_drewN', size_grow, size_redrawn] at hz15); obtain ⟨hc15, hf15⟩ := bcellB (B := wr.heap.size + 1) hb15 (by first | omega | (simp only [World.size_alloc, World.size_setCell, World.size_drew, size_drewN', size_grow, size_redrawn]; omega))
          go_wp2_with fail
          go_roundw
          case rel => exact ⟨j + 1, by omega, by go_num, by simp, (by repeat' (first | (with_reducible exact Below.refl _ _) | (with_reducible assumption) | (with_reducible refine below_drewN ?_ _) | (with_reducible refine Below.drew ?_) | (with_reducible refine below_regrown_up _ _ ?_ ?_) | (with_reducible refine Below.alloc ?_ ?_ _) | (with_reducible refine Below.setCell ?_ ?_ _) | (with_reducible refine below_up ?_ ?_ (by assumption)) | (with_reducible exact Nat.le_refl _) | omega | (simp; done) | (simp; omega)))⟩
          case measure => simp [intOf]; omega
        · obtain rfl : j = 3 := by omega
          obtain ⟨wz, hwz⟩ : ∃ wz, wz = wr := ⟨_, rfl⟩
          subst hwz
          have hho : 100 ≤ 300 + b.place ∧ 300 + b.place ≤ 999 := by omega
          have hk' : ledOk (others b.stay l) = true := ledOk_sub h1 List.filter_sublist
          have hol : (others b.stay l).length ≤ 40 := Nat.le_trans (List.length_filter_le _ _) hl
          have H4 := Lib.hid (balR_ok (a := 300 + b.place) hk' hho ⟨d0, d1⟩)
          obtain ⟨S, hS⟩ : ∃ S, bal (fun z => z == 300 + b.place) (others b.stay l) d = S := ⟨_, rfl⟩
          rw [hS] at H4
          have hz13 : w.heap.size + 1 ≤ wz.heap.size := by omega
          rcases HUN.out with ⟨hu, hb'⟩ | ⟨m, hu, hmo, hb'⟩
          · have H3 := Lib.hid (balR_ok (a := 300 + b.place) hmk hho ⟨d0, d1⟩)
            rw [hb', hS] at H3
            have HU := Lib.hid hu
            clear hu hb' hS
            go_wp2_with fail
            refine (undo_lit HU.out Am cm _ hsy (by omega)).mono ?_
            rintro e w16 ⟨⟨A16, c16, rfl, hc16', hs16⟩, hb16⟩
            have hb16s := hb16.size
            obtain ⟨hc16, hf16⟩ := bcellB (B := w.heap.size + 1) hb16 (by omega)
            go_wp2_with fail
            refine (bal_lit H3.out Am cm _ (hsy.up hb16) (by omega)).mono ?_
            rintro e w17 ⟨rfl, hb17⟩; have hz17 := hb17.size; (try simp only [World.size_alloc, World.size_setCell, World.size_drew, size_drewN', size_grow, size_redrawn] at hz17); obtain ⟨hc17, hf17⟩ := bcellB (B := w.heap.size + 1) hb17 (by first | omega | (simp only [World.size_alloc, World.size_setCell, World.size_drew, size_drewN', size_grow, size_redrawn]; omega))
            have hB16 := below_up hB13 (by omega) hb16
            have hB17 := below_up hB16 (by omega) hb17
            have hz17' : w.heap.size + 1 ≤ w17.heap.size := by omega
            go_wp2_with fail
            go_loopw [34, 203] (fun ev i wr => ∃ j : Nat, j ≤ l.length ∧ i = .int .i64 j ∧ OwnE wr w17.heap.size ev (others b.stay (l.take j)) ∧ Below w17.heap.size w17 wr) (fun _ i _ => l.length - (intOf i).toNat)
            case atStart => exact ⟨0, by omega, rfl, OwnL.nil_, Below.refl _ _⟩
            case round =>
              obtain ⟨j, hj, rfl, hown, hbw4⟩ := hrel
              have hbz4 := hbw4.size
              have hB4 := below_up hB17 (by omega) hbw4
              obtain ⟨hcw4, hfw4⟩ := bcellB (B := w.heap.size + 1) hbw4 (by omega)
              by_cases hlt : j < l.length
              · have hx5 : (0 : Int) ≤ (j : Int) := by omega
                have hx6 : (j : Int) < (l.length : Int) := by omega
                have hlw1 : w.heap.size < wr.heap.size := by omega
                have hlw2 : w.heap.size < wr.heap.size + 1 := by omega
                have hstw : wr.cell? ⟨w.heap.size, 0, none⟩ = some (.int .i64 b.stay) := by
                  rw [hcw4 _ _ (by omega), hc17 _ _ (by omega), hc16 _ _ (by omega), hcw2 _ _ (by omega), hc12 _ _ (by omega), hcw _ _ (by omega)]
                  exact HS10.out
                obtain ⟨b6, o6, rfl, hbl, hcell⟩ := (hs.up hB4).at_ hlt
                have q0 := hcell 0 _ rfl
                have q1 := hcell 1 _ rfl
                have q2 := hcell 2 _ rfl
                have q3 := hcell 3 _ rfl
                have q4 := hcell 4 _ rfl
                rw [Nat.add_zero] at q0
                clear hcell
                have hst := others_step (ref := b.stay) hlt
                have hlen : (others b.stay (l.take j)).length ≤ 60 := Nat.le_trans (List.length_filter_le _ _) (by rw [List.length_take]; omega)
                generalize hout : others b.stay (l.take j) = out at *
                clear hout
                by_cases hd : l[j].ref = b.stay
                · have hrb : (l[j].ref != b.stay) = false := by simpa using hd
                  rw [if_pos hd] at hst
                  have HST2 := Lib.hid hst
                  clear hst hd
                  go_wp2_with fail
                  go_roundw
                  case rel =>
                    refine ⟨j + 1, by omega, by go_num, ?_, (by repeat' (first | (with_reducible exact Below.refl _ _) | (with_reducible assumption) | (with_reducible refine below_drewN ?_ _) | (with_reducible refine Below.drew ?_) | (with_reducible refine below_regrown_up _ _ ?_ ?_) | (with_reducible refine Below.alloc ?_ ?_ _) | (with_reducible refine Below.setCell ?_ ?_ _) | (with_reducible refine below_up ?_ ?_ (by assumption)) | (with_reducible exact Nat.le_refl _) | omega | (simp; done) | (simp; omega)))⟩
                    rw [HST2.out]
                    exact hown.alloc _
                  case measure => simp [intOf]; omega
                · have hrb : (l[j].ref != b.stay) = true := by simpa using hd
                  rw [if_neg hd] at hst
                  have HST2 := Lib.hid hst
                  clear hst hd
                  go_wp2_with (at_builtin; go_loud (refine wpList_push _ rfl (.tmp 212) (.tmp 214) 31 63 rfl w17.heap.size 5 40 Entry.cs elemEnt ent_len ent_one _ out rfl ((hown.alloc _).alloc _) _ 1 l[j] rfl (news_at _ _ _ rfl (by simp)) (by first | omega | (simp; done) | (simp; omega)) (by first | omega | (simp; done) | (simp; omega)) (by first | omega | (simp; done) | (simp; omega)) ?_); intro v2 w5 hown5 hgrow5)
                  have hb5 : Below w17.heap.size w17 w5 := below_push (by repeat' (first | (with_reducible exact Below.refl _ _) | (with_reducible assumption) | (with_reducible refine below_drewN ?_ _) | (with_reducible refine Below.drew ?_) | (with_reducible refine below_regrown_up _ _ ?_ ?_) | (with_reducible refine Below.alloc ?_ ?_ _) | (with_reducible refine Below.setCell ?_ ?_ _) | (with_reducible refine below_up ?_ ?_ (by assumption)) | (with_reducible exact Nat.le_refl _) | omega | (simp; done) | (simp; omega))) ((hown.alloc _).alloc _) hgrow5 (by first | omega | (simp; done) | (simp; omega))
                  go_roundw
                  case rel =>
                    refine ⟨j + 1, by omega, by go_num, ?_, hb5⟩
                    rw [HST2.out]
                    exact hown5
                  case measure => simp [intOf]; omega
              · obtain rfl : j = l.length := by omega
                rw [List.take_of_length_le (Nat.le_refl _)] at hown
                obtain ⟨A4, c4, rfl, hc4', _, hs4⟩ := hown.sl ent_len
                go_wp2_with fail
                refine (bal_lit H4.out A4 c4 _ hs4 (by omega)).mono ?_
                rintro e w18 ⟨rfl, hb18⟩; have hz18 := hb18.size; (try simp only [World.size_alloc, World.size_setCell, World.size_drew, size_drewN', size_grow, size_redrawn] at hz18); obtain ⟨hc18, hf18⟩ := bcellB (B := w.heap.size + 1) hb18 (by first | omega | (simp only [World.size_alloc, World.size_setCell, World.size_drew, size_drewN', size_grow, size_redrawn]; omega))
                go_wp2_with fail
                go_ret
                refine ⟨ret_bool (by simp), below_up hB4 (by omega) hb18⟩
          · have H3 := Lib.hid (balR_ok (a := 300 + b.place) hmo hho ⟨d0, d1⟩)
            rw [hb', hS] at H3
            have HU := Lib.hid hu
            have hml5 := (ledOk_iff.1 hmo).1
            clear hu hb' hS
            go_wp2_with fail
            refine (undo_lit HU.out Am cm _ hsy (by omega)).mono ?_
            rintro e w16 ⟨⟨A16, c16, rfl, hc16', hs16⟩, hb16⟩
            have hb16s := hb16.size
            obtain ⟨hc16, hf16⟩ := bcellB (B := w.heap.size + 1) hb16 (by omega)
            go_wp2_with fail
            refine (bal_lit H3.out A16 c16 _ hs16 (by omega)).mono ?_
            rintro e w17 ⟨rfl, hb17⟩; have hz17 := hb17.size; (try simp only [World.size_alloc, World.size_setCell, World.size_drew, size_drewN', size_grow, size_redrawn] at hz17); obtain ⟨hc17, hf17⟩ := bcellB (B := w.heap.size + 1) hb17 (by first | omega | (simp only [World.size_alloc, World.size_setCell, World.size_drew, size_drewN', size_grow, size_redrawn]; omega))
            have hB16 := below_up hB13 (by omega) hb16
            have hB17 := below_up hB16 (by omega) hb17
            have hz17' : w.heap.size + 1 ≤ w17.heap.size := by omega
            go_wp2_with fail
            go_loopw [34, 203] (fun ev i wr => ∃ j : Nat, j ≤ l.length ∧ i = .int .i64 j ∧ OwnE wr w17.heap.size ev (others b.stay (l.take j)) ∧ Below w17.heap.size w17 wr) (fun _ i _ => l.length - (intOf i).toNat)
            case atStart => exact ⟨0, by omega, rfl, OwnL.nil_, Below.refl _ _⟩
            case round =>
              obtain ⟨j, hj, rfl, hown, hbw4⟩ := hrel
              have hbz4 := hbw4.size
              have hB4 := below_up hB17 (by omega) hbw4
              obtain ⟨hcw4, hfw4⟩ := bcellB (B := w.heap.size + 1) hbw4 (by omega)
              by_cases hlt : j < l.length
              · have hx5 : (0 : Int) ≤ (j : Int) := by omega
                have hx6 : (j : Int) < (l.length : Int) := by omega
                have hlw1 : w.heap.size < wr.heap.size := by omega
                have hlw2 : w.heap.size < wr.heap.size + 1 := by omega
                have hstw : wr.cell? ⟨w.heap.size, 0, none⟩ = some (.int .i64 b.stay) := by
                  rw [hcw4 _ _ (by omega), hc17 _ _ (by omega), hc16 _ _ (by omega), hcw2 _ _ (by omega), hc12 _ _ (by omega), hcw _ _ (by omega)]
                  exact HS10.out
                obtain ⟨b6, o6, rfl, hbl, hcell⟩ := (hs.up hB4).at_ hlt
                have q0 := hcell 0 _ rfl
                have q1 := hcell 1 _ rfl
                have q2 := hcell 2 _ rfl
                have q3 := hcell 3 _ rfl
                have q4 := hcell 4 _ rfl
                rw [Nat.add_zero] at q0
                clear hcell
                have hst := others_step (ref := b.stay) hlt
                have hlen : (others b.stay (l.take j)).length ≤ 60 := Nat.le_trans (List.length_filter_le _ _) (by rw [List.length_take]; omega)
                generalize hout : others b.stay (l.take j) = out at *
                clear hout
                by_cases hd : l[j].ref = b.stay
                · have hrb : (l[j].ref != b.stay) = false := by simpa using hd
                  rw [if_pos hd] at hst
                  have HST2 := Lib.hid hst
                  clear hst hd
                  go_wp2_with fail
                  go_roundw
                  case rel =>
                    refine ⟨j + 1, by omega, by go_num, ?_, (by repeat' (first | (with_reducible exact Below.refl _ _) | (with_reducible assumption) | (with_reducible refine below_drewN ?_ _) | (with_reducible refine Below.drew ?_) | (with_reducible refine below_regrown_up _ _ ?_ ?_) | (with_reducible refine Below.alloc ?_ ?_ _) | (with_reducible refine Below.setCell ?_ ?_ _) | (with_reducible refine below_up ?_ ?_ (by assumption)) | (with_reducible exact Nat.le_refl _) | omega | (simp; done) | (simp; omega)))⟩
                    rw [HST2.out]
                    exact hown.alloc _
                  case measure => simp [intOf]; omega
                · have hrb : (l[j].ref != b.stay) = true := by simpa using hd
                  rw [if_neg hd] at hst
                  have HST2 := Lib.hid hst
                  clear hst hd
                  go_wp2_with (at_builtin; go_loud (refine wpList_push _ rfl (.tmp 212) (.tmp 214) 31 63 rfl w17.heap.size 5 40 Entry.cs elemEnt ent_len ent_one _ out rfl ((hown.alloc _).alloc _) _ 1 l[j] rfl (news_at _ _ _ rfl (by simp)) (by first | omega | (simp; done) | (simp; omega)) (by first | omega | (simp; done) | (simp; omega)) (by first | omega | (simp; done) | (simp; omega)) ?_); intro v2 w5 hown5 hgrow5)
                  have hb5 : Below w17.heap.size w17 w5 := below_push (by repeat' (first | (with_reducible exact Below.refl _ _) | (with_reducible assumption) | (with_reducible refine below_drewN ?_ _) | (with_reducible refine Below.drew ?_) | (with_reducible refine below_regrown_up _ _ ?_ ?_) | (with_reducible refine Below.alloc ?_ ?_ _) | (with_reducible refine Below.setCell ?_ ?_ _) | (with_reducible refine below_up ?_ ?_ (by assumption)) | (with_reducible exact Nat.le_refl _) | omega | (simp; done) | (simp; omega))) ((hown.alloc _).alloc _) hgrow5 (by first | omega | (simp; done) | (simp; omega))
                  go_roundw
                  case rel =>
                    refine ⟨j + 1, by omega, by go_num, ?_, hb5⟩
                    rw [HST2.out]
                    exact hown5
                  case measure => simp [intOf]; omega
              · obtain rfl : j = l.length := by omega
                rw [List.take_of_length_le (Nat.le_refl _)] at hown
                obtain ⟨A4, c4, rfl, hc4', _, hs4⟩ := hown.sl ent_len
                go_wp2_with fail
                refine (bal_lit H4.out A4 c4 _ hs4 (by omega)).mono ?_
                rintro e w18 ⟨rfl, hb18⟩; have hz18 := hb18.size; (try simp only [World.size_alloc, World.size_setCell, World.size_drew, size_drewN', size_grow, size_redrawn] at hz18); obtain ⟨hc18, hf18⟩ := bcellB (B := w.heap.size + 1) hb18 (by first | omega | (simp only [World.size_alloc, World.size_setCell, World.size_drew, size_drewN', size_grow, size_redrawn]; omega))
                go_wp2_with fail
                go_ret
                refine ⟨ret_bool (by simp), below_up hB4 (by omega) hb18⟩
theorem law_settles (l : List Entry) (A : Option Addr) (c : Nat) (b : Bill) (paid u : Int) (w : World) (hs : SlEnt w A l) (hl0 : l.length ≤ maxLen) (u0 : 0 ≤ u) (u1 : u ≤ 65535) :
    Calls Try.prog 11 #[.slice A l.length c, b.v, .int .i64 paid, .int .u16 u] w fun e w' => e = .returned (.bool true) ∧ Below w.heap.size w w' := by
  by_cases h : l.length ≤ 40 ∧ ledOk l = true ∧ b.ok = true ∧ 1 ≤ paid ∧ amt paid = true
  · obtain ⟨hl, h1, h2, h3, h4⟩ := h
    have hl1 : l.length ≤ 140737488355328 := by omega
    have d0 : 0 ≤ u % 367 := by omega
    have d1 : u % 367 ≤ 366 := by omega
    have hall := sets_all h2 h3 h4 d0 d1
    have hx := hall (paidE b paid (u % 367)) (by simp)
    obtain ⟨s0, s1⟩ := (Bill.ok_iff.1 h2).2.2.2.1
    obtain ⟨k0, k1⟩ := (Bill.ok_iff.1 h2).2.2.2.2.2.2.2
    obtain ⟨a0, a1⟩ := inB_iff.1 h4
    cases hb : begun l (u % 367)
    · have hsub : ∀ j, ∀ e ∈ paidE b paid (u % 367) :: (entriesL b (paid - min paid b.keep) (min paid b.keep) (u % 367)).take j, e ∈ paidE b paid (u % 367) :: entriesL b (paid - min paid b.keep) (min paid b.keep) (u % 367) := by
        intro j e he
        rcases List.mem_cons.1 he with rfl | he
        · simp
        · exact List.mem_cons_of_mem _ (List.mem_of_mem_take he)
      have hlen := entriesL_len b (paid - min paid b.keep) (min paid b.keep) (u % 367)
      have hok : ∀ j, ledOk (l ++ paidE b paid (u % 367) :: (entriesL b (paid - min paid b.keep) (min paid b.keep) (u % 367)).take j) = true := fun j =>
        ledOk_more h1 hb (fun e he => (hall e (hsub j e he)).1) (fun e he => (hall e (hsub j e he)).2.1) (by simp; omega)
      have hbe : ∀ j, begun (l ++ paidE b paid (u % 367) :: (entriesL b (paid - min paid b.keep) (min paid b.keep) (u % 367)).take j) (u % 367) = false := fun j =>
        begun_more hb (fun e he => (hall e (hsub j e he)).1)
      have hall2 := hok 2
      have hbe2 := hbe 2
      rw [List.take_of_length_le hlen] at hall2 hbe2
      refine settles_ok l (entriesL b (paid - min paid b.keep) (min paid b.keep) (u % 367)) A c b paid u _ _ w hs hl hl1 h1 h2 h3 h4 u0 u1 ?_ (refundR_ok h2 h4) (entriesR_ok h2 h4 (inB_iff.2 ⟨d0, d1⟩)) ?_ hlen (by omega) (by omega) ?_ hall2 ?_ ?_
      · exact postR_ok h1 hx.2.1 (by rw [hx.1]; exact hb) (by omega)
      · exact entriesL_pos (by omega)
      · intro j hj
        have hm : (entriesL b (paid - min paid b.keep) (min paid b.keep) (u % 367))[j] ∈ paidE b paid (u % 367) :: entriesL b (paid - min paid b.keep) (min paid b.keep) (u % 367) := List.mem_cons_of_mem _ (List.getElem_mem hj)
        have := postR_ok (hok j) (hall _ hm).2.1 (by rw [(hall _ hm).1]; exact hbe j) (by simp; omega)
        rw [this, List.take_succ_eq_append_getElem hj]
        simp
      · intro z n hz
        rw [bal_more _ (fun e he => (hall e he).1), sets_moves h2 h3 z n hz]
      · exact sets_undone hall2 hbe2 (by simp; omega) (fun e he => (hall e he).2.2) (inB_iff.2 ⟨s0, s1⟩) (inB_iff.2 ⟨d0, d1⟩)
    · exact settles_state l A c b paid u w hs hl hl1 h1 h2 h3 h4 u0 u1 (postR_state h1 hx.2.1 (by rw [hx.1]; exact hb))
  · exact settles_no l A c b paid u w hs h
end Go.Proofs.Ythnncojbckifnaa
