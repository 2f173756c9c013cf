/-
  The law 'LedgerUndoes': the walk.
-/
import Derived.Test.YtdbdjhgcmcbiaaaLedDays
import Derived.Test.YtdbdjhgcmcbiaaaUndoP
namespace Go.Proofs.Ytdbdjhgcmcbiaaa
set_option linter.unusedSimpArgs false
set_option linter.unusedVariables false
open Go.RowKit
open Go.Sort (grow size_grow)

set_option maxHeartbeats 4000000
set_option maxRecDepth 100000
theorem undoes_no (l : List Entry) (A : Option Addr) (c : Nat) (ref day u : Int) (w : World) (hs : SlEnt w A l) (hl0 : l.length ≤ maxLen) (hus : (decide (l.length ≤ 60) && ledOk l) = false) :
    Calls Try.prog 13 #[.slice A l.length c, .int .i64 ref, .int .i64 day, .int .u16 u] w fun e w' => e = .returned (.bool true) ∧ Below w.heap.size w w' := by
  go_enter Try.func13, Try.ntmps13
  go_wp2_with (first
    | (go_at_call 24; refine (head28_any _).mono ?_; rintro e w1 ⟨rfl, hb1⟩; have hz1 := hb1.size; (try simp only [World.size_alloc, World.size_setCell, World.size_drew, size_drewN', size_grow, size_redrawn] at hz1); obtain ⟨hc1, hf1⟩ := bcellB (B := w.heap.size) hb1 (by first | omega | (simp only [World.size_alloc, World.size_setCell, World.size_drew, size_drewN', size_grow, size_redrawn]; omega)))
    | (go_at_call 37; refine (usable_any l A c _ (hs.up (by repeat' (first | (with_reducible exact Below.refl _ _) | (with_reducible assumption) | (with_reducible refine below_drewN ?_ _) | (with_reducible refine Below.drew ?_) | (with_reducible refine below_regrown_up _ _ ?_ ?_) | (with_reducible refine Below.alloc ?_ ?_ _) | (with_reducible refine Below.setCell ?_ ?_ _) | (with_reducible refine below_up ?_ ?_ (by assumption)) | (with_reducible exact Nat.le_refl _) | omega | (simp; done) | (simp; omega)))) hl0).mono ?_; rintro e w2 ⟨rfl, hb2⟩; have hz2 := hb2.size; (try simp only [World.size_alloc, World.size_setCell, World.size_drew, size_drewN', size_grow, size_redrawn] at hz2); obtain ⟨hc2, hf2⟩ := bcellB (B := w.heap.size) hb2 (by first | omega | (simp only [World.size_alloc, World.size_setCell, World.size_drew, size_drewN', size_grow, size_redrawn]; omega)); rw [hus]))
  have hB2 := below_up hb1 hb1.size hb2
  go_ret
  exact ⟨rfl, hB2⟩
theorem undoes_1 (l : List Entry) (A : Option Addr) (c : Nat) (ref day u : Int) (w : World) (hs : SlEnt w A l) (hl : l.length ≤ 60) (hus : (decide (l.length ≤ 60) && ledOk l) = true) (hp : undoR l ref day = ([], 1)) :
    Calls Try.prog 13 #[.slice A l.length c, .int .i64 ref, .int .i64 day, .int .u16 u] w fun e w' => e = .returned (.bool true) ∧ Below w.heap.size w w' := by
  have hl0 : l.length ≤ maxLen := by unfold maxLen; omega
  have HP := Lib.hid hp
  clear hp
  go_enter Try.func13, Try.ntmps13
  go_wp2_with (first
    | (go_at_call 24; refine (head28_any _).mono ?_; rintro e w1 ⟨rfl, hb1⟩; have hz1 := hb1.size; (try simp only [World.size_alloc, World.size_setCell, World.size_drew, size_drewN', size_grow, size_redrawn] at hz1); obtain ⟨hc1, hf1⟩ := bcellB (B := w.heap.size) hb1 (by first | omega | (simp only [World.size_alloc, World.size_setCell, World.size_drew, size_drewN', size_grow, size_redrawn]; omega)))
    | (go_at_call 37; refine (usable_any l A c _ (hs.up (by repeat' (first | (with_reducible exact Below.refl _ _) | (with_reducible assumption) | (with_reducible refine below_drewN ?_ _) | (with_reducible refine Below.drew ?_) | (with_reducible refine below_regrown_up _ _ ?_ ?_) | (with_reducible refine Below.alloc ?_ ?_ _) | (with_reducible refine Below.setCell ?_ ?_ _) | (with_reducible refine below_up ?_ ?_ (by assumption)) | (with_reducible exact Nat.le_refl _) | omega | (simp; done) | (simp; omega)))) hl0).mono ?_; rintro e w2 ⟨rfl, hb2⟩; have hz2 := hb2.size; (try simp only [World.size_alloc, World.size_setCell, World.size_drew, size_drewN', size_grow, size_redrawn] at hz2); obtain ⟨hc2, hf2⟩ := bcellB (B := w.heap.size) hb2 (by first | omega | (simp only [World.size_alloc, World.size_setCell, World.size_drew, size_drewN', size_grow, size_redrawn]; omega)); rw [hus]))
  have hB2 := below_up hb1 hb1.size hb2
  refine (undo_lit HP.out A c _ (hs.up hB2) (by omega)).mono ?_
  rintro e w3 ⟨⟨A3, c3, rfl, _, hs3⟩, hb3⟩
  go_wp2_with fail
  go_ret
  exact ⟨ret_bool (by simp), below_up hB2 hB2.size hb3⟩
theorem undoes_6 (l : List Entry) (A : Option Addr) (c : Nat) (ref day u : Int) (w : World) (hs : SlEnt w A l) (hl : l.length ≤ 60) (hus : (decide (l.length ≤ 60) && ledOk l) = true) (hp : undoR l ref day = ([], 6)) :
    Calls Try.prog 13 #[.slice A l.length c, .int .i64 ref, .int .i64 day, .int .u16 u] w fun e w' => e = .returned (.bool true) ∧ Below w.heap.size w w' := by
  have hl0 : l.length ≤ maxLen := by unfold maxLen; omega
  have HP := Lib.hid hp
  clear hp
  go_enter Try.func13, Try.ntmps13
  go_wp2_with (first
    | (go_at_call 24; refine (head28_any _).mono ?_; rintro e w1 ⟨rfl, hb1⟩; have hz1 := hb1.size; (try simp only [World.size_alloc, World.size_setCell, World.size_drew, size_drewN', size_grow, size_redrawn] at hz1); obtain ⟨hc1, hf1⟩ := bcellB (B := w.heap.size) hb1 (by first | omega | (simp only [World.size_alloc, World.size_setCell, World.size_drew, size_drewN', size_grow, size_redrawn]; omega)))
    | (go_at_call 37; refine (usable_any l A c _ (hs.up (by repeat' (first | (with_reducible exact Below.refl _ _) | (with_reducible assumption) | (with_reducible refine below_drewN ?_ _) | (with_reducible refine Below.drew ?_) | (with_reducible refine below_regrown_up _ _ ?_ ?_) | (with_reducible refine Below.alloc ?_ ?_ _) | (with_reducible refine Below.setCell ?_ ?_ _) | (with_reducible refine below_up ?_ ?_ (by assumption)) | (with_reducible exact Nat.le_refl _) | omega | (simp; done) | (simp; omega)))) hl0).mono ?_; rintro e w2 ⟨rfl, hb2⟩; have hz2 := hb2.size; (try simp only [World.size_alloc, World.size_setCell, World.size_drew, size_drewN', size_grow, size_redrawn] at hz2); obtain ⟨hc2, hf2⟩ := bcellB (B := w.heap.size) hb2 (by first | omega | (simp only [World.size_alloc, World.size_setCell, World.size_drew, size_drewN', size_grow, size_redrawn]; omega)); rw [hus]))
  have hB2 := below_up hb1 hb1.size hb2
  refine (undo_lit HP.out A c _ (hs.up hB2) (by omega)).mono ?_
  rintro e w3 ⟨⟨A3, c3, rfl, _, hs3⟩, hb3⟩
  go_wp2_with fail
  go_ret
  exact ⟨ret_bool (by simp), below_up hB2 hB2.size hb3⟩
theorem undoes_4 (l : List Entry) (A : Option Addr) (c : Nat) (ref day u : Int) (w : World) (hs : SlEnt w A l) (hl : l.length ≤ 60) (hus : (decide (l.length ≤ 60) && ledOk l) = true) (hp : undoR l ref day = ([], 4)) :
    Calls Try.prog 13 #[.slice A l.length c, .int .i64 ref, .int .i64 day, .int .u16 u] w fun e w' => e = .returned (.bool true) ∧ Below w.heap.size w w' := by
  have hl0 : l.length ≤ maxLen := by unfold maxLen; omega
  have HP := Lib.hid hp
  clear hp
  go_enter Try.func13, Try.ntmps13
  go_wp2_with (first
    | (go_at_call 24; refine (head28_any _).mono ?_; rintro e w1 ⟨rfl, hb1⟩; have hz1 := hb1.size; (try simp only [World.size_alloc, World.size_setCell, World.size_drew, size_drewN', size_grow, size_redrawn] at hz1); obtain ⟨hc1, hf1⟩ := bcellB (B := w.heap.size) hb1 (by first | omega | (simp only [World.size_alloc, World.size_setCell, World.size_drew, size_drewN', size_grow, size_redrawn]; omega)))
    | (go_at_call 37; refine (usable_any l A c _ (hs.up (by repeat' (first | (with_reducible exact Below.refl _ _) | (with_reducible assumption) | (with_reducible refine below_drewN ?_ _) | (with_reducible refine Below.drew ?_) | (with_reducible refine below_regrown_up _ _ ?_ ?_) | (with_reducible refine Below.alloc ?_ ?_ _) | (with_reducible refine Below.setCell ?_ ?_ _) | (with_reducible refine below_up ?_ ?_ (by assumption)) | (with_reducible exact Nat.le_refl _) | omega | (simp; done) | (simp; omega)))) hl0).mono ?_; rintro e w2 ⟨rfl, hb2⟩; have hz2 := hb2.size; (try simp only [World.size_alloc, World.size_setCell, World.size_drew, size_drewN', size_grow, size_redrawn] at hz2); obtain ⟨hc2, hf2⟩ := bcellB (B := w.heap.size) hb2 (by first | omega | (simp only [World.size_alloc, World.size_setCell, World.size_drew, size_drewN', size_grow, size_redrawn]; omega)); rw [hus]))
  have hB2 := below_up hb1 hb1.size hb2
  refine (undo_lit HP.out A c _ (hs.up hB2) (by omega)).mono ?_
  rintro e w3 ⟨⟨A3, c3, rfl, _, hs3⟩, hb3⟩
  go_wp2_with fail
  go_ret
  exact ⟨ret_bool (by simp), below_up hB2 hB2.size hb3⟩
theorem undoes_2 (l : List Entry) (A : Option Addr) (c : Nat) (ref day u : Int) (w : World) (hs : SlEnt w A l) (hl : l.length ≤ 60) (hus : (decide (l.length ≤ 60) && ledOk l) = true) (hp : undoR l ref day = ([], 2)) :
    Calls Try.prog 13 #[.slice A l.length c, .int .i64 ref, .int .i64 day, .int .u16 u] w fun e w' => e = .returned (.bool true) ∧ Below w.heap.size w w' := by
  have hl0 : l.length ≤ maxLen := by unfold maxLen; omega
  have HP := Lib.hid hp
  clear hp
  go_enter Try.func13, Try.ntmps13
  go_wp2_with (first
    | (go_at_call 24; refine (head28_any _).mono ?_; rintro e w1 ⟨rfl, hb1⟩; have hz1 := hb1.size; (try simp only [World.size_alloc, World.size_setCell, World.size_drew, size_drewN', size_grow, size_redrawn] at hz1); obtain ⟨hc1, hf1⟩ := bcellB (B := w.heap.size) hb1 (by first | omega | (simp only [World.size_alloc, World.size_setCell, World.size_drew, size_drewN', size_grow, size_redrawn]; omega)))
    | (go_at_call 37; refine (usable_any l A c _ (hs.up (by repeat' (first | (with_reducible exact Below.refl _ _) | (with_reducible assumption) | (with_reducible refine below_drewN ?_ _) | (with_reducible refine Below.drew ?_) | (with_reducible refine below_regrown_up _ _ ?_ ?_) | (with_reducible refine Below.alloc ?_ ?_ _) | (with_reducible refine Below.setCell ?_ ?_ _) | (with_reducible refine below_up ?_ ?_ (by assumption)) | (with_reducible exact Nat.le_refl _) | omega | (simp; done) | (simp; omega)))) hl0).mono ?_; rintro e w2 ⟨rfl, hb2⟩; have hz2 := hb2.size; (try simp only [World.size_alloc, World.size_setCell, World.size_drew, size_drewN', size_grow, size_redrawn] at hz2); obtain ⟨hc2, hf2⟩ := bcellB (B := w.heap.size) hb2 (by first | omega | (simp only [World.size_alloc, World.size_setCell, World.size_drew, size_drewN', size_grow, size_redrawn]; omega)); rw [hus]))
  have hB2 := below_up hb1 hb1.size hb2
  refine (undo_lit HP.out A c _ (hs.up hB2) (by omega)).mono ?_
  rintro e w3 ⟨⟨A3, c3, rfl, _, hs3⟩, hb3⟩
  go_wp2_with fail
  go_ret
  exact ⟨ret_bool (by simp), below_up hB2 hB2.size hb3⟩
theorem cell_alloc_at {w : World} {n : Nat} (h : w.heap.size = n) (cs : Array Value) (t : TypeId) (o : Nat) : (w.alloc (.cells cs t)).cell? ⟨n, o, none⟩ = cs[o]? := by
  subst h
  exact World.cell?_alloc_new _ _ _ _
theorem elemInt : Elem Try.prog 36 3 1 8 := elem_mk Try.underlying36 (by kernel_rfl)
theorem int_len (y : Int) : (intC y).length = 1 := rfl
theorem int_one (y : Int) : ∀ u ∈ intC y, u.oneCell' = true := by simp [intC, Value.oneCell']
def others (ref : Int) (l : List Entry) : List Entry := l.filter fun e => decide (e.ref ≠ ref)
theorem others_step {l : List Entry} {ref : Int} {j : Nat} (h : j < l.length) : others ref (l.take (j + 1)) = if l[j].ref = ref then others ref (l.take j) else others ref (l.take j) ++ [l[j]] := by
  unfold others
  rw [List.take_succ_eq_append_getElem h, List.filter_append]
  by_cases hd : l[j].ref = ref
  · rw [if_pos hd]; simp [hd]
  · rw [if_neg hd]; simp [hd]
theorem undoes_0 (l m r : List Entry) (A : Option Addr) (c : Nat) (ref day u : Int) (w : World) (hs : SlEnt w A l) (hl : l.length ≤ 60) (hus : (decide (l.length ≤ 60) && ledOk l) = true) (hp : undoR l ref day = (m, 0)) (hm2 : undoR m ref day = ([], 4))
    (hk : ledOk l = true) (hmk : ledOk m = true) (hm : m = l ++ r) (hr : ∀ x ∈ r, x.ref = ref ∧ x.day = day) (hr0 : 0 < r.length) (hbal : ∀ p, bal p m day = bal p (others ref l) day) (hd0 : 0 ≤ day) (hd1 : day ≤ 366) (u0 : 0 ≤ u) (u1 : u ≤ 65535) :
    Calls Try.prog 13 #[.slice A l.length c, .int .i64 ref, .int .i64 day, .int .u16 u] w fun e w' => e = .returned (.bool true) ∧ Below w.heap.size w w' := by
  have hl0 : l.length ≤ maxLen := by unfold maxLen; omega
  have hl1 : l.length ≤ 140737488355328 := by omega
  have hm5 := (ledOk_iff.1 hmk).1
  have HP := Lib.hid hp
  have HM2 := Lib.hid hm2
  have HM := Lib.hid hm
  have HR := Lib.hid hr
  have HBAL := Lib.hid hbal
  clear hp hm2 hm hr hbal
  go_enter Try.func13, Try.ntmps13
  go_wp2_with (first
    | (go_at_call 24; refine (head28_any _).mono ?_; rintro e w1 ⟨rfl, hb1⟩; have hz1 := hb1.size; (try simp only [World.size_alloc, World.size_setCell, World.size_drew, size_drewN', size_grow, size_redrawn] at hz1); obtain ⟨hc1, hf1⟩ := bcellB (B := w.heap.size) hb1 (by first | omega | (simp only [World.size_alloc, World.size_setCell, World.size_drew, size_drewN', size_grow, size_redrawn]; omega)))
    | (go_at_call 37; refine (usable_any l A c _ (hs.up (by repeat' (first | (with_reducible exact Below.refl _ _) | (with_reducible assumption) | (with_reducible refine below_drewN ?_ _) | (with_reducible refine Below.drew ?_) | (with_reducible refine below_regrown_up _ _ ?_ ?_) | (with_reducible refine Below.alloc ?_ ?_ _) | (with_reducible refine Below.setCell ?_ ?_ _) | (with_reducible refine below_up ?_ ?_ (by assumption)) | (with_reducible exact Nat.le_refl _) | omega | (simp; done) | (simp; omega)))) hl0).mono ?_; rintro e w2 ⟨rfl, hb2⟩; have hz2 := hb2.size; (try simp only [World.size_alloc, World.size_setCell, World.size_drew, size_drewN', size_grow, size_redrawn] at hz2); obtain ⟨hc2, hf2⟩ := bcellB (B := w.heap.size) hb2 (by first | omega | (simp only [World.size_alloc, World.size_setCell, World.size_drew, size_drewN', size_grow, size_redrawn]; omega)); rw [hus]))
  have hB2 := below_up hb1 hb1.size hb2
  refine (undo_lit HP.out A c _ (hs.up hB2) hl1).mono ?_
  rintro e w3 ⟨⟨A3, c3, rfl, hc3', hs3⟩, hb3⟩
  have hB3 := below_up hB2 hB2.size hb3
  have hz3' := hB3.size
  go_wp2_with fail
  go_loopw [12, 50] (fun ev i wr => ∃ j : Nat, j ≤ l.length ∧ i = .int .i64 j ∧ OwnE wr w3.heap.size ev (others ref (l.take j)) ∧ Below w3.heap.size w3 wr) (fun _ i _ => l.length - (intOf i).toNat)
  case atStart => exact ⟨0, by omega, rfl, OwnL.nil_, Below.refl _ _⟩
  case round =>
    obtain ⟨j, hj, rfl, hown, hbw⟩ := hrel
    have hbz := hbw.size
    have hB := below_up hB3 hz3' hbw
    by_cases hlt : j < l.length
    · have hx4 : (0 : Int) ≤ (j : Int) := by omega
      have hx5 : (j : Int) < (l.length : Int) := by omega
      obtain ⟨b, off, rfl, hbl, hcell⟩ := (hs.up hB).at_ hlt
      have q0 := hcell 0 _ rfl
      have q1 := hcell 1 _ rfl
      have q2 := hcell 2 _ rfl
      have q3 := hcell 3 _ rfl
      have q4 := hcell 4 _ rfl
      rw [Nat.add_zero] at q0
      clear hcell
      have hst := others_step (ref := ref) hlt
      have hlen : (others ref (l.take j)).length ≤ 60 := Nat.le_trans (List.length_filter_le _ _) (by rw [List.length_take]; omega)
      generalize hout : others ref (l.take j) = out at *
      clear hout
      by_cases hd : l[j].ref = ref
      · have hrb : (l[j].ref != ref) = false := by simpa using hd
        rw [if_pos hd] at hst
        have HST := Lib.hid hst
        clear hst hd
        go_wp2_with fail
        go_roundw
        case rel =>
          refine ⟨j + 1, by omega, by go_num, ?_, (by repeat' (first | (with_reducible exact Below.refl _ _) | (with_reducible assumption) | (with_reducible refine below_drewN ?_ _) | (with_reducible refine Below.drew ?_) | (with_reducible refine below_regrown_up _ _ ?_ ?_) | (with_reducible refine Below.alloc ?_ ?_ _) | (with_reducible refine Below.setCell ?_ ?_ _) | (with_reducible refine below_up ?_ ?_ (by assumption)) | (with_reducible exact Nat.le_refl _) | omega | (simp; done) | (simp; omega)))⟩
          rw [HST.out]
          exact hown.alloc _
        case measure => simp [intOf]; omega
      · have hrb : (l[j].ref != ref) = true := by simpa using hd
        rw [if_neg hd] at hst
        have HST := Lib.hid hst
        clear hst hd
        go_wp2_with (at_builtin; go_loud (refine wpList_push _ rfl (.tmp 58) (.tmp 60) 47 49 rfl w3.heap.size 5 40 Entry.cs elemEnt ent_len ent_one _ out rfl ((hown.alloc _).alloc _) _ 1 l[j] rfl (news_at _ _ _ rfl (by simp)) (by first | omega | (simp; done) | (simp; omega)) (by first | omega | (simp; done) | (simp; omega)) (by first | omega | (simp; done) | (simp; omega)) ?_); intro v2 w5 hown5 hgrow5)
        have hb5 : Below w3.heap.size w3 w5 := below_push (by repeat' (first | (with_reducible exact Below.refl _ _) | (with_reducible assumption) | (with_reducible refine below_drewN ?_ _) | (with_reducible refine Below.drew ?_) | (with_reducible refine below_regrown_up _ _ ?_ ?_) | (with_reducible refine Below.alloc ?_ ?_ _) | (with_reducible refine Below.setCell ?_ ?_ _) | (with_reducible refine below_up ?_ ?_ (by assumption)) | (with_reducible exact Nat.le_refl _) | omega | (simp; done) | (simp; omega))) ((hown.alloc _).alloc _) hgrow5 (by first | omega | (simp; done) | (simp; omega))
        go_roundw
        case rel =>
          refine ⟨j + 1, by omega, by go_num, ?_, hb5⟩
          rw [HST.out]
          exact hown5
        case measure => simp [intOf]; omega
    · obtain rfl : j = l.length := by omega
      rw [List.take_of_length_le (Nat.le_refl _)] at hown
      obtain ⟨A4, c4, rfl, hc4', _, hs4⟩ := hown.sl ent_len
      have hmlen : l.length + r.length = m.length := by rw [HM.out]; simp
      have hx1 : (l.length : Int) < (m.length : Int) := by omega
      have hx9 : ¬ m.length ≤ l.length := by omega
      have hx2 : (0 : Int) ≤ (l.length : Int) := by omega
      have hx3 : l.length ≤ c3 := by omega
      have hx4 : (l.length : Int) ≤ (m.length : Int) := by omega
      go_wp2_with fail
      refine (undo_lit HM2.out A3 c3 _ (hs3.up hbw) (by omega)).mono ?_
      rintro e w6 ⟨⟨A6, c6, rfl, hc6', hs6⟩, hb6⟩
      have hB6 := below_up hB hB.size hb6
      have hzB6 := hB6.size
      go_wp2_with fail
      have hb36 : Below w3.heap.size w3 w6 := below_up hbw hbz hb6
      have hsm := hs3.up hb36
      have hpre : SlEnt w6 A3 l := by
        have := hsm.take l.length
        rw [show m.take l.length = l by rw [HM.out]; simp] at this
        exact this
      refine (rsame_any l l A3 A c3 c _ hpre (hs.up hB6) hl1 hl1).mono ?_
      rintro e w7 ⟨rfl, hb7⟩; have hz7 := hb7.size; (try simp only [World.size_alloc, World.size_setCell, World.size_drew, size_drewN', size_grow, size_redrawn] at hz7); obtain ⟨hc7, hf7⟩ := bcellB (B := w.heap.size) hb7 (by first | omega | (simp only [World.size_alloc, World.size_setCell, World.size_drew, size_drewN', size_grow, size_redrawn]; omega))
      rw [decide_eq_true rfl]
      have hB7 := below_up hB6 hB6.size hb7
      have hzB7 := hB7.size
      go_wp2_with fail
      refine (lvalid_any m A3 c3 _ (hsm.up hb7) (by omega)).mono ?_
      rintro e w8 ⟨rfl, hb8⟩; have hz8 := hb8.size; (try simp only [World.size_alloc, World.size_setCell, World.size_drew, size_drewN', size_grow, size_redrawn] at hz8); obtain ⟨hc8, hf8⟩ := bcellB (B := w.heap.size) hb8 (by first | omega | (simp only [World.size_alloc, World.size_setCell, World.size_drew, size_drewN', size_grow, size_redrawn]; omega))
      rw [hmk]
      have hB8 := below_up hB7 hB7.size hb8
      have hb38 : Below w3.heap.size w3 w8 := below_up (below_up hb36 hb36.size hb7) (by have := hb36.size; omega) hb8
      obtain ⟨b3, o3, rfl, hbl3, _⟩ := (hs3.up hb38).at_ (k := 0) (by omega)
      obtain ⟨A', hA', hsr⟩ := (hs3.up hb38).cut l.length hc3'
      rw [show m.drop l.length = r by rw [HM.out]; simp] at hsr
      rw [if_neg (by omega)] at hA'
      subst hA'
      go_wp2_with fail
      have hrl : m.length - l.length = r.length := by omega
      rw [hrl]
      clear hrl
      go_loopw [9, 98] (fun up i wr2 => ∃ j : Nat, j ≤ r.length ∧ i = .int .i64 j ∧ up = .bool true ∧ Below w8.heap.size w8 wr2) (fun _ i _ => r.length - (intOf i).toNat)
      case atStart => exact ⟨0, by omega, rfl, rfl, Below.refl _ _⟩
      case round =>
        obtain ⟨j, hj, rfl, rfl, hbw2⟩ := hrel
        have hbz2 := hbw2.size
        by_cases hlt2 : j < r.length
        · have hy1 : (0 : Int) ≤ (j : Int) := by omega
          have hy2 : (j : Int) < (r.length : Int) := by omega
          obtain ⟨hbl5, hcell⟩ := (hsr.up hbw2).cells hlt2
          have hrx := HR.out _ (List.getElem_mem hlt2)
          obtain ⟨hr1, hr2⟩ := hrx
          have q0 := hcell 0 _ rfl
          have q1 := hcell 1 _ rfl
          have q2 := hcell 2 _ rfl
          have q3 := hcell 3 _ rfl
          have q4 := hcell 4 _ rfl
          rw [Nat.add_zero] at q0
          clear hcell
          rw [hr2] at q0
          rw [hr1] at q4
          clear hr1 hr2
          go_wp2_with fail
          go_roundw
          case rel => exact ⟨j + 1, by omega, by go_num, by simp, (by repeat' (first | (with_reducible exact Below.refl _ _) | (with_reducible assumption) | (with_reducible refine below_drewN ?_ _) | (with_reducible refine Below.drew ?_) | (with_reducible refine below_regrown_up _ _ ?_ ?_) | (with_reducible refine Below.alloc ?_ ?_ _) | (with_reducible refine Below.setCell ?_ ?_ _) | (with_reducible refine below_up ?_ ?_ (by assumption)) | (with_reducible exact Nat.le_refl _) | omega | (simp; done) | (simp; omega)))⟩
          case measure => simp [intOf]; omega
        · obtain rfl : j = r.length := by omega
          go_wp2_with fail
          obtain ⟨wx, hwx⟩ : ∃ wx, wx = wr := ⟨_, rfl⟩
          subst hwx
          have hba : Below w8.heap.size w8 (wx.alloc (.cells #[.int .i64 (100 + u % 900)] 3)) := hbw2.alloc hbz2 _
          go_loopw [19, 123] (fun ac i wr3 => ∃ (j : Nat) (acc : List Int), j ≤ l.length ∧ i = .int .i64 j ∧ OwnL wr3 wx.heap.size 3 1 intC ac acc ∧ acc.length = 1 + 2 * j ∧ (∀ a ∈ acc, 100 ≤ a ∧ a ≤ 999) ∧ Below wx.heap.size wx wr3) (fun _ i _ => l.length - (intOf i).toNat)
          case atStart =>
            refine ⟨0, [100 + u % 900], by omega, rfl, OwnL.of_block (cs := #[.int .i64 (100 + u % 900)]) (heap_alloc_new _ _) (Nat.le_refl _) rfl (by unfold maxLen; simp) rfl (fun _ => rfl), rfl, by simp; omega, (Below.refl _ _).alloc (Nat.le_refl _) _⟩
          case round =>
            obtain ⟨j, acc, hj, rfl, hown3, hla, hacc, hbw3⟩ := hrel
            have hbz3 := hbw3.size
            by_cases hlt3 : j < l.length
            · have hx6 : (0 : Int) ≤ (j : Int) := by omega
              have hx7 : (j : Int) < (l.length : Int) := by omega
              have hB9 := below_up (below_up hB8 hB8.size hbw2) (by have := hB8.size; omega) hbw3
              obtain ⟨b, off, rfl, hbl, hcell⟩ := (hs.up hB9).at_ hlt3
              have q0 := hcell 0 _ rfl
              have q1 := hcell 1 _ rfl
              have q2 := hcell 2 _ rfl
              have q3 := hcell 3 _ rfl
              have q4 := hcell 4 _ rfl
              rw [Nat.add_zero] at q0
              clear hcell
              have hxok := (ledOk_iff.1 hk).2.1 _ (List.getElem_mem hlt3)
              obtain ⟨_, ⟨x1, x2⟩, ⟨x3, x4⟩, _⟩ := Entry.ok_iff.1 hxok
              clear hxok
              go_wp2_with (at_builtin; go_loud (refine wpList_append_all _ rfl (.tmp 127) (.tmp 132) 36 3 rfl wx.heap.size 1 8 intC elemInt int_len int_one _ acc rfl ((hown3.alloc _).alloc _) _ _ (wr.heap.size + 2) [l[j].debit, l[j].credit] rfl (sl_of_box (cs := #[.int .i64 l[j].debit, .int .i64 l[j].credit]) (fun _ => rfl) (fun o => cell_alloc_at (by simp) _ _ o) (by first | omega | (simp; done) | (simp; omega)) rfl) (by rw [hla]; simp; omega) (by first | omega | (simp; done) | (simp; omega)) (by first | omega | (simp; done) | (simp; omega)) ?_); intro v4 w4 hown4 hgrow4 _)
              have hb4 : Below wx.heap.size wx w4 := below_push (by repeat' (first | (with_reducible exact Below.refl _ _) | (with_reducible assumption) | (with_reducible refine below_drewN ?_ _) | (with_reducible refine Below.drew ?_) | (with_reducible refine below_regrown_up _ _ ?_ ?_) | (with_reducible refine Below.alloc ?_ ?_ _) | (with_reducible refine Below.setCell ?_ ?_ _) | (with_reducible refine below_up ?_ ?_ (by assumption)) | (with_reducible exact Nat.le_refl _) | omega | (simp; done) | (simp; omega))) ((hown3.alloc _).alloc _) hgrow4 (by first | omega | (simp; done) | (simp; omega))
              go_roundw
              case rel =>
                refine ⟨j + 1, acc ++ [l[j].debit, l[j].credit], by omega, by go_num, hown4, by rw [List.length_append, hla]; simp; omega, ?_, hb4⟩
                intro a ha
                rcases List.mem_append.1 ha with ha | ha
                · exact hacc a ha
                · simp at ha
                  rcases ha with rfl | rfl <;> omega
              case measure => simp [intOf]; omega
            · obtain rfl : j = l.length := by omega
              obtain ⟨A5, c5, rfl, hc5', _, hs5⟩ := hown3.sl int_len
              have HACC := Lib.hid hacc
              have hal : acc.length ≤ 140737488355328 := by omega
              clear hacc hla
              have hB9 := below_up (below_up hB8 hB8.size hbw2) (by have := hB8.size; omega) hbw3
              obtain ⟨wy, hwy⟩ : ∃ wy, wy = wr := ⟨_, rfl⟩
              subst hwy
              have hk' : ledOk (others ref l) = true := ledOk_sub hk List.filter_sublist
              have hol : (others ref l).length ≤ 60 := Nat.le_trans (List.length_filter_le _ _) hl
              have hbx : Below w3.heap.size w3 wy := below_up (below_up hb38 hb38.size hbw2) (by have := hb38.size; omega) hbw3
              have hsy := hs3.up hbx
              have hsl4 := hs4.up (below_up hb6 hb6.size (below_up (below_up hb7 hb7.size hb8) (by have := hb7.size; omega) (below_up hbw2 hbz2 hbw3)))
              go_wp2_with fail
              go_loopw [9, 137] (fun up i wr2 => ∃ j : Nat, j ≤ acc.length ∧ i = .int .i64 j ∧ up = .bool true ∧ Below wy.heap.size wy wr2) (fun _ i _ => acc.length - (intOf i).toNat)
              case atStart => exact ⟨0, by omega, rfl, rfl, Below.refl _ _⟩
              case round =>
                obtain ⟨j, hj, rfl, rfl, hbw4⟩ := hrel
                have hbz4 := hbw4.size
                have hzy : w.heap.size ≤ wy.heap.size := hB9.size
                by_cases hlt4 : j < acc.length
                · obtain ⟨b5, o5, rfl, hbl6, hcell⟩ := (hs5.up hbw4).at_ hlt4
                  have r0 := hcell 0 _ rfl
                  rw [Nat.add_zero, Nat.mul_one] at r0
                  clear hcell
                  obtain ⟨ha0, ha1⟩ := HACC.out _ (List.getElem_mem hlt4)
                  generalize acc[j] = a at *
                  have hx6 : (0 : Int) ≤ (j : Int) := by omega
                  have hx7 : (j : Int) < (acc.length : Int) := by omega
                  have H1 := Lib.hid (balR_ok (a := a) hmk ⟨ha0, ha1⟩ ⟨hd0, hd1⟩)
                  have H2 := Lib.hid (balR_ok (a := a) hk' ⟨ha0, ha1⟩ ⟨hd0, hd1⟩)
                  have HH := HBAL.out (fun z => z == a)
                  rw [HH] at H1
                  clear HH
                  generalize bal (fun z => z == a) (others ref l) day = S at *
                  go_wp2_with fail
                  refine (bal_lit H1.out _ c3 _ (hsy.up hbw4) (by omega)).mono ?_
                  rintro e w11 ⟨rfl, hb11⟩; have hz11 := hb11.size; (try simp only [World.size_alloc, World.size_setCell, World.size_drew, size_drewN', size_grow, size_redrawn] at hz11); obtain ⟨hc11, hf11⟩ := bcellB (B := w.heap.size) hb11 (by first | omega | (simp only [World.size_alloc, World.size_setCell, World.size_drew, size_drewN', size_grow, size_redrawn]; omega))
                  go_wp2_with fail
                  refine (bal_lit H2.out A4 c4 _ ((hsl4.up hbw4).up hb11) (by omega)).mono ?_
                  rintro e w12 ⟨rfl, hb12⟩; have hz12 := hb12.size; (try simp only [World.size_alloc, World.size_setCell, World.size_drew, size_drewN', size_grow, size_redrawn] at hz12); obtain ⟨hc12, hf12⟩ := bcellB (B := w.heap.size) hb12 (by first | omega | (simp only [World.size_alloc, World.size_setCell, World.size_drew, size_drewN', size_grow, size_redrawn]; omega))
                  go_wp2_with fail
                  go_roundw
                  case rel => exact ⟨j + 1, by omega, by go_num, by simp, (by repeat' (first | (with_reducible exact Below.refl _ _) | (with_reducible assumption) | (with_reducible refine below_drewN ?_ _) | (with_reducible refine Below.drew ?_) | (with_reducible refine below_regrown_up _ _ ?_ ?_) | (with_reducible refine Below.alloc ?_ ?_ _) | (with_reducible refine Below.setCell ?_ ?_ _) | (with_reducible refine below_up ?_ ?_ (by assumption)) | (with_reducible exact Nat.le_refl _) | omega | (simp; done) | (simp; omega)))⟩
                  case measure => simp [intOf]; omega
                · obtain rfl : j = acc.length := by omega
                  go_wp2_with fail
                  go_ret
                  exact ⟨rfl, below_up hB9 hB9.size hbw4⟩
theorem law_undoes (l : List Entry) (A : Option Addr) (c : Nat) (ref day u : Int) (w : World) (hs : SlEnt w A l) (hl0 : l.length ≤ maxLen) (u0 : 0 ≤ u) (u1 : u ≤ 65535) :
    Calls Try.prog 13 #[.slice A l.length c, .int .i64 ref, .int .i64 day, .int .u16 u] w fun e w' => e = .returned (.bool true) ∧ Below w.heap.size w w' := by
  by_cases h : (decide (l.length ≤ 60) && ledOk l) = true
  · have h' := h
    rw [Bool.and_eq_true, decide_eq_true_eq] at h'
    rcases undoR_cases l ref day with ⟨_, hr⟩ | ⟨hk, h1, h2, h3⟩
    · exact undoes_1 l A c ref day u w hs h'.1 h hr
    · rcases h3 with ⟨_, hr⟩ | ⟨_, _, hr⟩ | ⟨_, _, _, hr⟩ | ⟨h4, h5, h6, hr⟩
      · exact undoes_6 l A c ref day u w hs h'.1 h hr
      · exact undoes_4 l A c ref day u w hs h'.1 h hr
      · exact undoes_2 l A c ref day u w hs h'.1 h hr
      · obtain ⟨d1, d2, _, d4, d5⟩ := undo_done hk h1 h2 h4 h5 h6
        obtain ⟨b0, b1⟩ := inB_iff.1 h2
        exact undoes_0 l _ _ A c ref day u w hs h'.1 h hr d2 hk d1 rfl d5 (by rw [List.length_map]; exact List.length_pos_iff.2 h5) d4 b0 b1 u0 u1
  · exact undoes_no l A c ref day u w hs hl0 (by simpa using h)
end Go.Proofs.Ytdbdjhgcmcbiaaa
