/-
  A ledger in which the commissions of a channel are posted: the walk.
-/
import Derived.Test.YthnncojbckifnaaPostP
namespace Go.Proofs.Ythnncojbckifnaa
set_option linter.unusedSimpArgs false
set_option linter.unusedVariables false
open Go.RowKit
open Go.Sort (grow size_grow)

set_option maxHeartbeats 4000000
set_option maxRecDepth 100000
theorem of_split {l : List Bill} {ch : Int} {m : Nat} (hlt : m < l.length) (h : l[m].channel = ch) : ofCh l ch = ofCh (l.take m) ch ++ l[m] :: ofCh (l.drop (m + 1)) ch := by
  have e : l = l.take m ++ l[m] :: l.drop (m + 1) := by
    have h1 := List.take_append_drop m l
    rw [List.drop_eq_getElem_cons hlt] at h1
    exact h1.symm
  have h2 : ofCh l ch = ofCh (l.take m ++ l[m] :: l.drop (m + 1)) ch := congrArg (ofCh · ch) e
  rw [h2]
  unfold ofCh
  rw [List.filter_append, List.filter_cons, if_pos (by simpa using h)]
theorem comms_at {p d ch : Int} {l : List Bill} {m : Nat} (hlt : m < l.length) (h : l[m].channel = ch) : ∃ hk : (ofCh (l.take m) ch).length < (comms p d (ofCh l ch)).length, (comms p d (ofCh l ch))[(ofCh (l.take m) ch).length] = comm p d l[m].price := by
  have h1 := of_split hlt h
  have h2 : comms p d (ofCh l ch) = comms p d (ofCh (l.take m) ch) ++ comm p d l[m].price :: comms p d (ofCh (l.drop (m + 1)) ch) := by
    rw [h1]; unfold comms; rw [List.map_append]; rfl
  have h3 : (comms p d (ofCh (l.take m) ch)).length = (ofCh (l.take m) ch).length := by unfold comms; rw [List.length_map]
  have hk : (ofCh (l.take m) ch).length < (comms p d (ofCh l ch)).length := by rw [h2, List.length_append, List.length_cons, h3]; omega
  refine ⟨hk, (List.getElem_of_eq h2 hk).trans ?_⟩
  rw [List.getElem_append_right (by omega)]
  simp [h3]
theorem post30 {l r : List Entry} {x : Entry} {er : Int} (h : postR l x = (r, er)) (A : Option Addr) (c : Nat) (w : World) (hs : SlEnt w A l) (hl : l.length ≤ 140737488355328) :
    Calls Try.prog 35 #[.slice A l.length c, x.v] w fun e w' => (∃ A' c', e = .returned (.tuple #[.slice A' r.length c', .int .i64 er]) ∧ SlEnt w' A' r) ∧ Below w.heap.size w w' := by
  have := post_any l x A c w hs hl
  rw [h] at this
  exact this.mono fun e w' ⟨⟨A', c', e1, _, e2⟩, hb⟩ => ⟨⟨A', c', e1, e2⟩, hb⟩
theorem undo30 {l r : List Entry} {ref day er : Int} (h : undoR l ref day = (r, er)) (A : Option Addr) (c : Nat) (w : World) (hs : SlEnt w A l) (hl : l.length ≤ 140737488355328) :
    Calls Try.prog 40 #[.slice A l.length c, .int .i64 ref, .int .i64 day] w fun e w' => (∃ A' c', e = .returned (.tuple #[.slice A' r.length c', .int .i64 er]) ∧ SlEnt w' A' r) ∧ Below w.heap.size w w' := by
  have := undo_any l A c ref day w hs hl
  rw [h] at this
  exact this.mono fun e w' ⟨⟨A', c', e1, _, e2⟩, hb⟩ => ⟨⟨A', c', e1, e2⟩, hb⟩
theorem posted_any (p d : Int) (l : List Bill) (A : Option Addr) (c : Nat) (ch : Int) (B : Option Addr) (cB : Nat) (R : List Int) (w : World) (hs : SlBill w A l) (hsB : SlInt w B R) (hR : comms p d (ofCh l ch) = R) (h1 : partOk p d = true) (h2 : billsOk l = true) (c0 : 0 ≤ ch) (c1 : ch ≤ 29) (hl : l.length ≤ 60) :
    Calls Try.prog 33 #[.slice A l.length c, .int .i64 ch, .slice B R.length cB] w fun e w' => (∃ A' c', e = .returned (.tuple #[.slice A' (postsA p d ch 0 (ofCh l ch)).length c', .bool true]) ∧ SlEnt w' A' (postsA p d ch 0 (ofCh l ch))) ∧ Below w.heap.size w w' := by
  have HOK := Lib.hid (billsOk_iff.1 h2).1
  have HR := Lib.hid hR
  clear hR
  go_enter Try.func33, Try.ntmps33
  go_wp2
  go_loopw [8, 9, 17] (fun ov kv i wr => ∃ m : Nat, m ≤ l.length ∧ i = .int .i64 m ∧ kv = .int .i64 (ofCh (l.take m) ch).length ∧ (∃ A' c', ov = .slice A' (postsA p d ch 0 (ofCh (l.take m) ch)).length c' ∧ SlEnt wr A' (postsA p d ch 0 (ofCh (l.take m) ch))) ∧ Below w.heap.size w wr) (fun _ _ i _ => l.length - (intOf i).toNat)
  case atStart => exact ⟨0, by omega, rfl, rfl, ⟨none, 0, rfl, Sl.nil_⟩, Below.refl _ _⟩
  case round =>
    obtain ⟨m, hm, rfl, rfl, ⟨A1, cc1, rfl, hs1⟩, hbw⟩ := hrel
    have hbz := hbw.size
    by_cases hlt : m < l.length
    · have hx1 : (0 : Int) ≤ (m : Int) := by omega
      have hx2 : (m : Int) < (l.length : Int) := by omega
      obtain ⟨b, off, rfl, hbl, hcell⟩ := (hs.up hbw).at_ hlt
      have q0 := hcell 0 _ rfl
      have q1 := hcell 1 _ rfl
      have q2 := hcell 2 _ rfl
      have q3 := hcell 3 _ rfl
      have q4 := hcell 4 _ rfl
      have q5 := hcell 5 _ rfl
      have q6 := hcell 6 _ rfl
      have q7 := hcell 7 _ rfl
      have q8 := hcell 8 _ rfl
      rw [Nat.add_zero] at q0
      clear hcell
      have hlo := ofCh_len (l.take m) ch
      rw [List.length_take] at hlo
      have hst := ofCh_step (ch := ch) hlt
      have HALL : Hid (∀ x ∈ ofCh (l.take m) ch, x.ok = true) := Lib.hid (fun x hx => HOK.out x (List.mem_of_mem_take (List.mem_filter.1 hx).1))
      have HBO := Lib.hid (HOK.out _ (List.getElem_mem hlt))
      have hplc := (Bill.ok_iff.1 HBO.out).2.2.2.2.2.1
      by_cases hd : l[m].channel = ch
      · have hrb : (l[m].channel != ch) = false := by simpa using hd
        obtain ⟨hk, hkv⟩ := comms_at (p := p) (d := d) hlt hd
        rw [if_pos hd] at hst
        have HST := Lib.hid hst
        have hk' : (ofCh (l.take m) ch).length < R.length := by rw [← HR.out]; exact hk
        have hkv' : R[(ofCh (l.take m) ch).length] = comm p d l[m].price := by rw [← hkv]; exact (List.getElem_of_eq HR.out hk).symm
        have HS1 := Lib.hid (post_step (p := p) (d := d) (ch := ch) (l := ofCh (l.take m) ch) (b := l[m]) h1 ⟨c0, c1⟩ (fun x hx => by
          rcases List.mem_append.1 hx with hx | hx
          · exact HALL.out x hx
          · simp at hx; rw [hx]; exact HBO.out) (by omega))
        have HS2 := Lib.hid (post_skip (p := p) (d := d) (ch := ch) (l := ofCh (l.take m) ch) (b := l[m]))
        have hpl := postsA_len (p := p) (d := d) (ch := ch) (ofCh (l.take m) ch) 0
        have hRl : R.length ≤ 60 := by
          rw [← HR.out]; unfold comms; rw [List.length_map]
          exact Nat.le_trans (ofCh_len l ch) hl
        clear hst hd hk hkv
        generalize hown : ofCh (l.take m) ch = own at *
        clear hown
        obtain ⟨b2, off2, rfl, hbl2, hcell2⟩ := (hsB.up hbw).at_ hk'
        have s0 := hcell2 0 _ rfl
        rw [Nat.add_zero, Nat.mul_one, hkv'] at s0
        clear hcell2 hkv'
        have hy1 : (0 : Int) ≤ (own.length : Int) := by omega
        have hy2 : (own.length : Int) < (R.length : Int) := by omega
        by_cases h0 : 0 < comm p d l[m].price
        · have h0' : decide (0 < comm p d l[m].price) = true := by simpa using h0
          have HP := Lib.hid (HS1.out h0)
          go_wp2_with fail
          refine (post30 HP.out A1 cc1 _ (hs1.up (by repeat' (first | (with_reducible exact Below.refl _ _) | (with_reducible assumption) | (with_reducible refine below_drewN ?_ _) | (with_reducible refine Below.drew ?_) | (with_reducible refine below_regrown_up _ _ ?_ ?_) | (with_reducible refine Below.alloc ?_ ?_ _) | (with_reducible refine Below.setCell ?_ ?_ _) | (with_reducible refine below_up ?_ ?_ (by assumption)) | (with_reducible exact Nat.le_refl _) | omega | (simp; done) | (simp; omega)))) (by omega)).mono ?_
          rintro e w4 ⟨⟨A4, c4, rfl, hs4⟩, hb4⟩
          have hb04 := below_up (hbw.alloc hbz _) (by simp; omega) hb4
          go_wp2_with fail
          go_roundw
          case rel =>
            refine ⟨m + 1, by omega, by go_num, ?_, ⟨A4, c4, ?_, ?_⟩, hb04⟩
            · rw [HST.out, List.length_append]; rfl
            · rw [HST.out]
            · rw [HST.out]; exact hs4
          case measure => simp [intOf]; omega
        · have h0' : decide (0 < comm p d l[m].price) = false := by simpa using h0
          have HP := Lib.hid (HS2.out h0)
          go_wp2_with fail
          go_roundw
          case rel =>
            refine ⟨m + 1, by omega, by go_num, ?_, ⟨A1, cc1, ?_, ?_⟩, (by repeat' (first | (with_reducible exact Below.refl _ _) | (with_reducible assumption) | (with_reducible refine below_drewN ?_ _) | (with_reducible refine Below.drew ?_) | (with_reducible refine below_regrown_up _ _ ?_ ?_) | (with_reducible refine Below.alloc ?_ ?_ _) | (with_reducible refine Below.setCell ?_ ?_ _) | (with_reducible refine below_up ?_ ?_ (by assumption)) | (with_reducible exact Nat.le_refl _) | omega | (simp; done) | (simp; omega)))⟩
            · rw [HST.out, List.length_append]; rfl
            · rw [HST.out, HP.out]
            · rw [HST.out, HP.out]; exact hs1.up (by repeat' (first | (with_reducible exact Below.refl _ _) | (with_reducible assumption) | (with_reducible refine below_drewN ?_ _) | (with_reducible refine Below.drew ?_) | (with_reducible refine below_regrown_up _ _ ?_ ?_) | (with_reducible refine Below.alloc ?_ ?_ _) | (with_reducible refine Below.setCell ?_ ?_ _) | (with_reducible refine below_up ?_ ?_ (by assumption)) | (with_reducible exact Nat.le_refl _) | omega | (simp; done) | (simp; omega)))
          case measure => simp [intOf]; omega
      · have hrb : (l[m].channel != ch) = true := by simpa using hd
        rw [if_neg hd] at hst
        have HST := Lib.hid hst
        clear hst hd
        go_wp2_with fail
        go_roundw
        case rel =>
          refine ⟨m + 1, by omega, by go_num, ?_, ⟨A1, cc1, ?_, ?_⟩, (by repeat' (first | (with_reducible exact Below.refl _ _) | (with_reducible assumption) | (with_reducible refine below_drewN ?_ _) | (with_reducible refine Below.drew ?_) | (with_reducible refine below_regrown_up _ _ ?_ ?_) | (with_reducible refine Below.alloc ?_ ?_ _) | (with_reducible refine Below.setCell ?_ ?_ _) | (with_reducible refine below_up ?_ ?_ (by assumption)) | (with_reducible exact Nat.le_refl _) | omega | (simp; done) | (simp; omega)))⟩
          · rw [HST.out]
          · rw [HST.out]
          · rw [HST.out]; exact hs1.up (by repeat' (first | (with_reducible exact Below.refl _ _) | (with_reducible assumption) | (with_reducible refine below_drewN ?_ _) | (with_reducible refine Below.drew ?_) | (with_reducible refine below_regrown_up _ _ ?_ ?_) | (with_reducible refine Below.alloc ?_ ?_ _) | (with_reducible refine Below.setCell ?_ ?_ _) | (with_reducible refine below_up ?_ ?_ (by assumption)) | (with_reducible exact Nat.le_refl _) | omega | (simp; done) | (simp; omega)))
        case measure => simp [intOf]; omega
    · obtain rfl : m = l.length := by omega
      rw [List.take_of_length_le (Nat.le_refl _)] at *
      go_wp2
      go_ret2
      exact ⟨⟨_, _, rfl, hs1⟩, hbw⟩
end Go.Proofs.Ythnncojbckifnaa
