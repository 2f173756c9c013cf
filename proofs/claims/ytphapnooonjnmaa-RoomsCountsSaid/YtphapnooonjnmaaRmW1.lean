/-
  Package rooms and its reference: what is well-formed; the index of a room.
-/
import Derived.Test.YtphapnooonjnmaaRmP
import Derived.Test.YtphapnooonjnmaaSpW3
namespace Go.Proofs.Ytphapnooonjnmaa
set_option linter.unusedSimpArgs false
set_option linter.unusedVariables false
open Go.RowKit
open Go.Sort (grow size_grow)

set_option maxHeartbeats 2000000
set_option maxRecDepth 100000
def Room.cs (r : Room) (A : Option Addr) (c : Nat) : List Value := [.int .i64 r.id, .int .i64 r.house, .int .i64 r.kind, .int .i64 r.joins, .bool r.acc, .slice A r.blk.length c]
abbrev Room.v (r : Room) (A : Option Addr) (c : Nat) : Value := .agg #[.int .i64 r.id, .int .i64 r.house, .int .i64 r.kind, .int .i64 r.joins, .bool r.acc, .slice A r.blk.length c]
/-- A slice of rooms that reads as a list, with the spans of each. -/
def SlRoom (w : World) (A : Option Addr) (l : List Room) : Prop :=
  l ≠ [] → ∃ b off, A = some ⟨b, off, none⟩ ∧ b < w.heap.size ∧ ∀ k (h : k < l.length), ∃ A' c', (∀ j v, (l[k].cs A' c')[j]? = some v → w.cell? ⟨b, off + k * 6 + j, none⟩ = some v) ∧ SlSpn w A' l[k].blk
theorem SlRoom.nil_ {w : World} {A : Option Addr} : SlRoom w A [] := fun h => absurd rfl h
theorem SlRoom.at_ {w : World} {A : Option Addr} {l : List Room} {k : Nat} (h : SlRoom w A l) (hk : k < l.length) :
    ∃ b off A' c', A = some ⟨b, off, none⟩ ∧ b < w.heap.size ∧ (∀ j v, (l[k].cs A' c')[j]? = some v → w.cell? ⟨b, off + k * 6 + j, none⟩ = some v) ∧ SlSpn w A' l[k].blk := by
  obtain ⟨b, off, e, hb, hc⟩ := h (by rintro rfl; simp at hk)
  obtain ⟨A', c', h1, h2⟩ := hc k hk
  exact ⟨b, off, A', c', e, hb, h1, h2⟩
theorem SlRoom.up {w w' : World} {A : Option Addr} {l : List Room} (h : SlRoom w A l) (hb : Below w.heap.size w w') : SlRoom w' A l := fun hl => by
  obtain ⟨b, off, e, hlt, hc⟩ := h hl
  refine ⟨b, off, e, Nat.lt_of_lt_of_le hlt hb.size, fun k hk => ?_⟩
  obtain ⟨A', c', h1, h2⟩ := hc k hk
  exact ⟨A', c', fun j v hv => (hb.cell (p := ⟨b, _, none⟩) hlt).trans (h1 j v hv), h2.up hb⟩
def Tame (l : List Room) : Prop := ∀ r ∈ l, r.blk.length ≤ 400 ∧ -9223372036854775808 ≤ r.id ∧ r.id ≤ 9223372036854775807
theorem Tame.at_ {l : List Room} (h : Tame l) {k : Nat} (hk : k < l.length) : l[k].blk.length ≤ 400 := (h _ (List.getElem_mem hk)).1
theorem Tame.id_ {l : List Room} (h : Tame l) {k : Nat} (hk : k < l.length) : -9223372036854775808 ≤ l[k].id ∧ l[k].id ≤ 9223372036854775807 := (h _ (List.getElem_mem hk)).2
theorem rm_within_any (n lo hi : Int) (w : World) :
    Calls Try.prog 28 #[.int .i64 n, .int .i64 lo, .int .i64 hi] w fun e w' => e = .returned (.bool (inB n lo hi)) ∧ w = w' := by
  by_cases h1 : lo ≤ n
  · by_cases h2 : n ≤ hi
    · go_enter Try.func28, Try.ntmps28
      go_wp2
      go_ret
      exact ⟨ret_bool (by rw [inB_t h1 h2]), rfl⟩
    · go_enter Try.func28, Try.ntmps28
      go_wp2
      go_ret
      exact ⟨ret_bool (by rw [inB_f (by omega)]), rfl⟩
  · go_enter Try.func28, Try.ntmps28
    go_wp2
    go_ret
    exact ⟨ret_bool (by rw [inB_f (by omega)]), rfl⟩
theorem r16_in_any (n lo hi : Int) (w : World) :
    Calls Try.prog 30 #[.int .i64 n, .int .i64 lo, .int .i64 hi] w fun e w' => e = .returned (.bool (inB n lo hi)) ∧ w = w' := by
  by_cases h1 : lo ≤ n
  · by_cases h2 : n ≤ hi
    · go_enter Try.func30, Try.ntmps30
      go_wp2
      go_ret
      exact ⟨ret_bool (by rw [inB_t h1 h2]), rfl⟩
    · go_enter Try.func30, Try.ntmps30
      go_wp2
      go_ret
      exact ⟨ret_bool (by rw [inB_f (by omega)]), rfl⟩
  · go_enter Try.func30, Try.ntmps30
    go_wp2
    go_ret
    exact ⟨ret_bool (by rw [inB_f (by omega)]), rfl⟩
theorem spn_ok_per {s : Spn} : perOk s = (s.ok && decide (s.til ≤ 366)) := by
  rw [Bool.eq_iff_iff, Bool.and_eq_true, decide_eq_true_eq, perOk_iff, Spn.ok_iff]
  omega
theorem setOk_one (s : Spn) : setOk [s] = s.ok := by
  unfold setOk
  simp
theorem rperiod_any (s : Spn) (w : World) : Calls Try.prog 23 #[s.v] w fun e w' => e = .returned (.bool (perOk s)) ∧ Below w.heap.size w w' := by
  cases h0 : decide (0 ≤ s.frm) <;> cases h1 : decide (s.frm < s.til) <;> cases h2 : decide (s.til ≤ 366)
  all_goals
    go_enter Try.func23, Try.ntmps23
    go_wp2
    go_ret
    refine ⟨ret_bool ?_, ?_⟩
    · simp only [decide_eq_true_eq, decide_eq_false_iff_not] at h0 h1 h2
      first
        | exact (perOk_iff.2 (by omega)).symm
        | exact (show perOk s = false by rw [← Bool.not_eq_true, perOk_iff]; omega).symm
    · repeat' (first
        | (with_reducible exact Below.refl _ _)
        | (with_reducible assumption)
        | (with_reducible refine below_drewN ?_ _)
        | (with_reducible refine Below.drew ?_)
        | (with_reducible refine below_regrown_up _ _ ?_ ?_)
        | (with_reducible refine Below.alloc ?_ ?_ _)
        | (with_reducible refine Below.setCell ?_ ?_ _)
        | (with_reducible refine below_up ?_ ?_ (by assumption))
        | (with_reducible exact Nat.le_refl _)
        | omega
        | (simp; done)
        | (simp; omega))
theorem oneSpn (s : Spn) (w : World) (n : Nat) (h : w.heap.size = n) : SlSpn (w.alloc (.cells #[.int .i64 s.frm, .int .i64 s.til] 27)) (some ⟨n, 0, none⟩) [s] := by
  subst h
  exact sl_of_box spn_len (fun o => World.cell?_alloc_new w _ _ o) (by simp) rfl
theorem isPeriod_any (s : Spn) (w : World) : Calls Try.prog 32 #[s.v] w fun e w' => e = .returned (.bool (perOk s)) ∧ Below w.heap.size w w' := by
  have HP := Lib.hid (spn_ok_per (s := s))
  have HS := Lib.hid (setOk_one s)
  cases hv : s.ok <;> cases h2 : decide (s.til ≤ 366)
  all_goals
    go_enter Try.func32, Try.ntmps32
    go_wp2_with fail
    refine (valid_any [s] (some ⟨w.heap.size + 1, 0, none⟩) 1 _ (oneSpn s _ _ (by simp)) (by simp)).mono ?_
    rintro e w1 ⟨rfl, hb1⟩; have hz1 := hb1.size; (try simp only [World.size_alloc, World.size_setCell, World.size_drew, size_drewN', size_grow, size_redrawn] at hz1); obtain ⟨hc1, hf1⟩ := bcellB (B := w.heap.size + 1) hb1 (by first | omega | (simp only [World.size_alloc, World.size_setCell, World.size_drew, size_drewN', size_grow, size_redrawn]; omega))
    rw [HS.out, hv]
    go_wp2_with fail
    go_ret
    refine ⟨ret_bool (by rw [HP.out, hv, h2]; rfl), ?_⟩
    repeat' (first
      | (with_reducible exact Below.refl _ _)
      | (with_reducible assumption)
      | (with_reducible refine below_drewN ?_ _)
      | (with_reducible refine Below.drew ?_)
      | (with_reducible refine below_regrown_up _ _ ?_ ?_)
      | (with_reducible refine Below.alloc ?_ ?_ _)
      | (with_reducible refine Below.setCell ?_ ?_ _)
      | (with_reducible refine below_up ?_ ?_ (by assumption))
      | (with_reducible exact Nat.le_refl _)
      | omega
      | (simp; done)
      | (simp; omega))
theorem late_any (s : Spn) (w : World) : Calls Try.prog 42 #[s.v] w fun e w' => e = .returned (.bool (lateS s)) ∧ Below w.heap.size w w' := by
  go_enter Try.func42, Try.ntmps42
  go_wp2
  go_ret
  refine ⟨rfl, ?_⟩
  repeat' (first
    | (with_reducible exact Below.refl _ _)
    | (with_reducible assumption)
    | (with_reducible refine below_drewN ?_ _)
    | (with_reducible refine Below.drew ?_)
    | (with_reducible refine below_regrown_up _ _ ?_ ?_)
    | (with_reducible refine Below.alloc ?_ ?_ _)
    | (with_reducible refine Below.setCell ?_ ?_ _)
    | (with_reducible refine below_up ?_ ?_ (by assumption))
    | (with_reducible exact Nat.le_refl _)
    | omega
    | (simp; done)
    | (simp; omega))
theorem ixlate_any (l : List Spn) (A : Option Addr) (c : Nat) (w : World) (hs : SlSpn w A l) (hl : l.length ≤ 140737488355328) :
    Calls Try.prog 53 #[.slice A l.length c, .func (.func 42) #[] #[]] w fun e w' => e = .returned (.int .i64 (ixOf lateS l)) ∧ Below w.heap.size w w' := by
  go_enter Try.func53, Try.ntmps53
  go_wp2
  go_loopw [8] (fun k wr => ∃ m : Nat, m ≤ l.length ∧ k = .int .i64 m ∧ Hid (∀ j (h : j < l.length), j < m → lateS l[j] = false) ∧ Below w.heap.size w wr) (fun k _ => l.length - (intOf k).toNat)
  case atStart => exact ⟨0, by omega, rfl, Lib.hid (fun j _ h => absurd h (by omega)), Below.refl _ _⟩
  case round =>
    obtain ⟨m, hm, rfl, hn, hbw⟩ := hrel
    have hbz := hbw.size
    by_cases hlt : m < l.length
    · obtain ⟨b, off, rfl, hbl, hcell⟩ := (hs.below hbw).at_ hlt
      have q0 := hcell 0 _ rfl
      have q1 := hcell 1 _ rfl
      rw [Nat.add_zero] at q0
      clear hcell
      go_wp2_with (go_at_call 42; refine (late_any l[m] _).mono ?_; rintro e w1 ⟨rfl, hb1⟩)
      · have hok : lateS l[m] = true := by first | assumption | simp [*]
        go_ret
        refine ⟨ret_int ?_, ?_⟩
        · exact (ixOf_found hlt hok hn.out).symm
        · repeat' (first
            | (with_reducible exact Below.refl _ _)
            | (with_reducible assumption)
            | (with_reducible refine below_drewN ?_ _)
            | (with_reducible refine Below.drew ?_)
            | (with_reducible refine below_regrown_up _ _ ?_ ?_)
            | (with_reducible refine Below.alloc ?_ ?_ _)
            | (with_reducible refine Below.setCell ?_ ?_ _)
            | (with_reducible refine below_up ?_ ?_ (by assumption))
            | (with_reducible exact Nat.le_refl _)
            | omega
            | (simp; done)
            | (simp; omega))
      · have hok : lateS l[m] = false := by first | assumption | simp [*]
        go_roundw
        case rel =>
          refine ⟨m + 1, by omega, by go_num, Lib.hid (fun j h hj => ?_), ?_⟩
          · by_cases e : j = m
            · subst e; exact hok
            · exact hn.out j h (by omega)
          · repeat' (first
              | (with_reducible exact Below.refl _ _)
              | (with_reducible assumption)
              | (with_reducible refine below_drewN ?_ _)
              | (with_reducible refine Below.drew ?_)
              | (with_reducible refine below_regrown_up _ _ ?_ ?_)
              | (with_reducible refine Below.alloc ?_ ?_ _)
              | (with_reducible refine Below.setCell ?_ ?_ _)
              | (with_reducible refine below_up ?_ ?_ (by assumption))
              | (with_reducible exact Nat.le_refl _)
              | omega
              | (simp; done)
              | (simp; omega))
        case measure => simp [intOf]; omega
    · obtain rfl : m = l.length := by omega
      go_wp2
      go_ret
      refine ⟨ret_int ?_, ?_⟩
      · exact (ixOf_none fun j h => hn.out j h h).symm
      · repeat' (first
          | (with_reducible exact Below.refl _ _)
          | (with_reducible assumption)
          | (with_reducible refine below_drewN ?_ _)
          | (with_reducible refine Below.drew ?_)
          | (with_reducible refine below_regrown_up _ _ ?_ ?_)
          | (with_reducible refine Below.alloc ?_ ?_ _)
          | (with_reducible refine Below.setCell ?_ ?_ _)
          | (with_reducible refine below_up ?_ ?_ (by assumption))
          | (with_reducible exact Nat.le_refl _)
          | omega
          | (simp; done)
          | (simp; omega))
theorem conlate_any (l : List Spn) (A : Option Addr) (c : Nat) (w : World) (hs : SlSpn w A l) (hl : l.length ≤ 140737488355328) :
    Calls Try.prog 44 #[.slice A l.length c, .func (.func 42) #[] #[]] w fun e w' => e = .returned (.bool (l.any lateS)) ∧ Below w.heap.size w w' := by
  have H := Lib.hid (ixOf_any lateS l)
  go_enter Try.func44, Try.ntmps44
  go_wp2_with (go_at_call 53; refine (ixlate_any l A c _ hs hl).mono ?_; rintro e w1 ⟨rfl, hb1⟩)
  go_ret
  exact ⟨ret_bool (by rw [← H.out]), hb1⟩
theorem late_neg (t : Int) : decide (366 < t) = !decide (t ≤ 366) := by
  by_cases h : t ≤ 366
  · rw [decide_eq_true h, decide_eq_false (by omega)]; rfl
  · rw [decide_eq_false h, decide_eq_true (by omega)]; rfl
theorem formed_any (r : Room) (A : Option Addr) (c : Nat) (w : World) (hs : SlSpn w A r.blk) (hl : r.blk.length ≤ 400) :
    Calls Try.prog 31 #[r.v A c] w fun e w' => e = .returned (.bool r.ok) ∧ Below w.heap.size w w' := by
  cases hv : setOk r.blk <;> cases ht : r.blk.any lateS
  all_goals
    go_enter Try.func31, Try.ntmps31
    go_wp2_with (first
      | (go_at_call 28; refine (rm_within_any _ _ _ _).mono ?_; rintro e w1 ⟨rfl, rfl⟩)
      | (go_at_call 43; refine (valid_any r.blk A c _ (hs.up (by repeat' (first | (with_reducible exact Below.refl _ _) | (with_reducible assumption) | (with_reducible refine below_drewN ?_ _) | (with_reducible refine Below.drew ?_) | (with_reducible refine below_regrown_up _ _ ?_ ?_) | (with_reducible refine Below.alloc ?_ ?_ _) | (with_reducible refine Below.setCell ?_ ?_ _) | (with_reducible refine below_up ?_ ?_ (by assumption)) | (with_reducible exact Nat.le_refl _) | omega | (simp; done) | (simp; omega)))) (by omega)).mono ?_; rintro e w1 ⟨rfl, hb1⟩; have hz1 := hb1.size; (try simp only [World.size_alloc, World.size_setCell, World.size_drew, size_drewN', size_grow, size_redrawn] at hz1); obtain ⟨hc1, hf1⟩ := bcellB (B := w.heap.size + 1) hb1 (by first | omega | (simp only [World.size_alloc, World.size_setCell, World.size_drew, size_drewN', size_grow, size_redrawn]; omega)); rw [hv])
      | (go_at_call 44; refine (conlate_any r.blk A c _ (hs.up (by repeat' (first | (with_reducible exact Below.refl _ _) | (with_reducible assumption) | (with_reducible refine below_drewN ?_ _) | (with_reducible refine Below.drew ?_) | (with_reducible refine below_regrown_up _ _ ?_ ?_) | (with_reducible refine Below.alloc ?_ ?_ _) | (with_reducible refine Below.setCell ?_ ?_ _) | (with_reducible refine below_up ?_ ?_ (by assumption)) | (with_reducible exact Nat.le_refl _) | omega | (simp; done) | (simp; omega)))) (by omega)).mono ?_; rintro e w2 ⟨rfl, hb2⟩; have hz2 := hb2.size; (try simp only [World.size_alloc, World.size_setCell, World.size_drew, size_drewN', size_grow, size_redrawn] at hz2); obtain ⟨hc2, hf2⟩ := bcellB (B := w.heap.size + 1) hb2 (by first | omega | (simp only [World.size_alloc, World.size_setCell, World.size_drew, size_drewN', size_grow, size_redrawn]; omega)); rw [ht]))
    all_goals
      go_ret
      refine ⟨ret_bool ?_, ?_⟩
      · unfold Room.ok Room.okN
        first | (simp [*]; done) | (simp_all; done) | (simp [*]; intros; omega)
      · repeat' (first
          | (with_reducible exact Below.refl _ _)
          | (with_reducible assumption)
          | (with_reducible refine below_drewN ?_ _)
          | (with_reducible refine Below.drew ?_)
          | (with_reducible refine below_regrown_up _ _ ?_ ?_)
          | (with_reducible refine Below.alloc ?_ ?_ _)
          | (with_reducible refine Below.setCell ?_ ?_ _)
          | (with_reducible refine below_up ?_ ?_ (by assumption))
          | (with_reducible exact Nat.le_refl _)
          | omega
          | (simp; done)
          | (simp; omega))
theorem rroom_any (r : Room) (A : Option Addr) (c : Nat) (w : World) (hs : SlSpn w A r.blk) (hl : r.blk.length ≤ 400) :
    Calls Try.prog 25 #[r.v A c] w fun e w' => e = .returned (.bool r.ok) ∧ Below w.heap.size w w' := by
  cases hv : setOk r.blk
  · go_enter Try.func25, Try.ntmps25
    go_wp2_with (go_at_call 39; refine (rvalid_any r.blk A c _ (hs.up (by repeat' (first | (with_reducible exact Below.refl _ _) | (with_reducible assumption) | (with_reducible refine below_drewN ?_ _) | (with_reducible refine Below.drew ?_) | (with_reducible refine below_regrown_up _ _ ?_ ?_) | (with_reducible refine Below.alloc ?_ ?_ _) | (with_reducible refine Below.setCell ?_ ?_ _) | (with_reducible refine below_up ?_ ?_ (by assumption)) | (with_reducible exact Nat.le_refl _) | omega | (simp; done) | (simp; omega)))) (by omega)).mono ?_; rintro e w1 ⟨rfl, hb1⟩; have hz1 := hb1.size; (try simp only [World.size_alloc, World.size_setCell, World.size_drew, size_drewN', size_grow, size_redrawn] at hz1); obtain ⟨hc1, hf1⟩ := bcellB (B := w.heap.size + 1) hb1 (by first | omega | (simp only [World.size_alloc, World.size_setCell, World.size_drew, size_drewN', size_grow, size_redrawn]; omega)); rw [hv])
    go_ret
    refine ⟨ret_bool ?_, ?_⟩
    · unfold Room.ok
      rw [hv]
      simp
    · repeat' (first
        | (with_reducible exact Below.refl _ _)
        | (with_reducible assumption)
        | (with_reducible refine below_drewN ?_ _)
        | (with_reducible refine Below.drew ?_)
        | (with_reducible refine below_regrown_up _ _ ?_ ?_)
        | (with_reducible refine Below.alloc ?_ ?_ _)
        | (with_reducible refine Below.setCell ?_ ?_ _)
        | (with_reducible refine below_up ?_ ?_ (by assumption))
        | (with_reducible exact Nat.le_refl _)
        | omega
        | (simp; done)
        | (simp; omega))
  · rcases Nat.eq_zero_or_pos r.blk.length with h0 | h0
    · have hnil : r.blk = [] := List.eq_nil_of_length_eq_zero h0
      have ht : r.blk.any lateS = false := by rw [hnil]; rfl
      have hz0 : ((r.blk.length : Int) == 0) = true := by rw [beq_iff_eq]; omega
      clear h0 hnil
      go_enter Try.func25, Try.ntmps25
      go_wp2_with (first
        | (go_at_call 39; refine (rvalid_any r.blk A c _ (hs.up (by repeat' (first | (with_reducible exact Below.refl _ _) | (with_reducible assumption) | (with_reducible refine below_drewN ?_ _) | (with_reducible refine Below.drew ?_) | (with_reducible refine below_regrown_up _ _ ?_ ?_) | (with_reducible refine Below.alloc ?_ ?_ _) | (with_reducible refine Below.setCell ?_ ?_ _) | (with_reducible refine below_up ?_ ?_ (by assumption)) | (with_reducible exact Nat.le_refl _) | omega | (simp; done) | (simp; omega)))) (by omega)).mono ?_; rintro e w1 ⟨rfl, hb1⟩; have hz1 := hb1.size; (try simp only [World.size_alloc, World.size_setCell, World.size_drew, size_drewN', size_grow, size_redrawn] at hz1); obtain ⟨hc1, hf1⟩ := bcellB (B := w.heap.size + 1) hb1 (by first | omega | (simp only [World.size_alloc, World.size_setCell, World.size_drew, size_drewN', size_grow, size_redrawn]; omega)); rw [hv])
        | (go_at_call 30; refine (r16_in_any _ _ _ _).mono ?_; rintro e w1 ⟨rfl, rfl⟩))
      all_goals
        go_ret
        refine ⟨ret_bool ?_, ?_⟩
        · unfold Room.ok Room.okN
          first | (simp [*]; done) | (simp_all; done) | (simp [*]; intros; omega)
        · repeat' (first
            | (with_reducible exact Below.refl _ _)
            | (with_reducible assumption)
            | (with_reducible refine below_drewN ?_ _)
            | (with_reducible refine Below.drew ?_)
            | (with_reducible refine below_regrown_up _ _ ?_ ?_)
            | (with_reducible refine Below.alloc ?_ ?_ _)
            | (with_reducible refine Below.setCell ?_ ?_ _)
            | (with_reducible refine below_up ?_ ?_ (by assumption))
            | (with_reducible exact Nat.le_refl _)
            | omega
            | (simp; done)
            | (simp; omega))
    · obtain ⟨m, hm⟩ : ∃ m, r.blk.length = m + 1 := ⟨r.blk.length - 1, by omega⟩
      have HT := Lib.hid (late_last hv hm.symm)
      obtain ⟨b, off, rfl, hbl, hcell⟩ := hs.at_ (show m < r.blk.length by omega)
      have q0 := hcell 0 _ rfl
      have q1 := hcell 1 _ rfl
      rw [Nat.add_zero] at q0
      clear hcell
      have hwr : IntKind.i64.wrap ((r.blk.length : Int) - 1) = (m : Int) := by rw [IntWalk.i64_in _ (by omega)]; omega
      generalize (r.blk[m]'(by omega)).til = tl at q1 HT
      have hne : ((r.blk.length : Int) == 0) = false := by rw [beq_eq_false_iff_ne]; omega
      have hlt : (m : Int) < (r.blk.length : Int) := by omega
      have hm0 : (0 : Int) ≤ (m : Int) := by omega
      clear q0 hm h0
      go_enter Try.func25, Try.ntmps25
      go_wp2_with (first
        | (go_at_call 39; refine (rvalid_any r.blk _ c _ (hs.up (by repeat' (first | (with_reducible exact Below.refl _ _) | (with_reducible assumption) | (with_reducible refine below_drewN ?_ _) | (with_reducible refine Below.drew ?_) | (with_reducible refine below_regrown_up _ _ ?_ ?_) | (with_reducible refine Below.alloc ?_ ?_ _) | (with_reducible refine Below.setCell ?_ ?_ _) | (with_reducible refine below_up ?_ ?_ (by assumption)) | (with_reducible exact Nat.le_refl _) | omega | (simp; done) | (simp; omega)))) (by omega)).mono ?_; rintro e w1 ⟨rfl, hb1⟩; have hz1 := hb1.size; (try simp only [World.size_alloc, World.size_setCell, World.size_drew, size_drewN', size_grow, size_redrawn] at hz1); obtain ⟨hc1, hf1⟩ := bcellB (B := w.heap.size + 1) hb1 (by first | omega | (simp only [World.size_alloc, World.size_setCell, World.size_drew, size_drewN', size_grow, size_redrawn]; omega)); rw [hv])
        | (go_at_call 30; refine (r16_in_any _ _ _ _).mono ?_; rintro e w1 ⟨rfl, rfl⟩))
      all_goals
        go_ret
        refine ⟨ret_bool ?_, ?_⟩
        · unfold Room.ok Room.okN
          rw [HT.out, late_neg]
          first | (simp [*]; done) | (simp_all; done) | (simp [*]; intros; omega)
        · repeat' (first
            | (with_reducible exact Below.refl _ _)
            | (with_reducible assumption)
            | (with_reducible refine below_drewN ?_ _)
            | (with_reducible refine Below.drew ?_)
            | (with_reducible refine below_regrown_up _ _ ?_ ?_)
            | (with_reducible refine Below.alloc ?_ ?_ _)
            | (with_reducible refine Below.setCell ?_ ?_ _)
            | (with_reducible refine below_up ?_ ?_ (by assumption))
            | (with_reducible exact Nat.le_refl _)
            | omega
            | (simp; done)
            | (simp; omega))
theorem index1_any (r : Room) (A : Option Addr) (c g : Nat) (a : Int) (w : World) (hg : w.cell? ⟨g, 0, none⟩ = some (.int .i64 a)) (hgl : g < w.heap.size) :
    Calls Try.prog 41 #[r.v A c, .pointer (some ⟨g, 0, none⟩)] w fun e w' => e = .returned (.bool (isId a r)) ∧ Below w.heap.size w w' := by
  go_enter Try.func41, Try.ntmps41
  go_wp2
  go_ret
  refine ⟨ret_bool ?_, ?_⟩
  · unfold isId
    first | rfl | (rw [Bool.eq_iff_iff, beq_iff_eq, decide_eq_true_eq])
  · repeat' (first
      | (with_reducible exact Below.refl _ _)
      | (with_reducible assumption)
      | (with_reducible refine below_drewN ?_ _)
      | (with_reducible refine Below.drew ?_)
      | (with_reducible refine below_regrown_up _ _ ?_ ?_)
      | (with_reducible refine Below.alloc ?_ ?_ _)
      | (with_reducible refine Below.setCell ?_ ?_ _)
      | (with_reducible refine below_up ?_ ?_ (by assumption))
      | (with_reducible exact Nat.le_refl _)
      | omega
      | (simp; done)
      | (simp; omega))
theorem isId_at {l : List Room} {a : Int} {m : Nat} {hm : m < l.length} : isId a l[m] = (l[m].id == a) := by
  unfold isId
  rw [Bool.eq_iff_iff, beq_iff_eq, decide_eq_true_eq]
theorem rindex_any (l : List Room) (A : Option Addr) (c : Nat) (a : Int) (w : World) (hs : SlRoom w A l) (hl : l.length ≤ 140737488355328) :
    Calls Try.prog 26 #[.slice A l.length c, .int .i64 a] w fun e w' => e = .returned (.int .i64 (idxR l a)) ∧ Below w.heap.size w w' := by
  go_enter Try.func26, Try.ntmps26
  go_wp2
  go_loopw [5] (fun k wr => ∃ m : Nat, m ≤ l.length ∧ k = .int .i64 m ∧ Hid (∀ j (h : j < l.length), j < m → isId a l[j] = false) ∧ Below w.heap.size w wr) (fun k _ => l.length - (intOf k).toNat)
  case atStart => exact ⟨0, by omega, rfl, Lib.hid (fun j _ h => absurd h (by omega)), Below.refl _ _⟩
  case round =>
    obtain ⟨m, hm, rfl, hn, hbw⟩ := hrel
    have hbz := hbw.size
    by_cases hlt : m < l.length
    · obtain ⟨b, off, A', c', rfl, hbl, hcell, _⟩ := (hs.up hbw).at_ hlt
      have q0 := hcell 0 _ rfl
      have q1 := hcell 1 _ rfl
      have q2 := hcell 2 _ rfl
      have q3 := hcell 3 _ rfl
      have q4 := hcell 4 _ rfl
      have q5 := hcell 5 _ rfl
      rw [Nat.add_zero] at q0
      clear hcell
      by_cases hid : l[m].id = a
      · have hok : isId a l[m] = true := by unfold isId; rw [decide_eq_true_eq]; exact hid
        have hgd : (l[m].id == a) = true := by rw [beq_iff_eq]; exact hid
        go_wp2
        go_ret
        exact ⟨ret_int (ixOf_found hlt hok hn.out).symm, hbw⟩
      · have hok : isId a l[m] = false := by unfold isId; rw [decide_eq_false_iff_not]; exact hid
        have hgd : (l[m].id == a) = false := by rw [beq_eq_false_iff_ne]; exact hid
        go_wp2
        go_roundw
        case rel =>
          refine ⟨m + 1, by omega, by go_num, Lib.hid (fun j h hj => ?_), ?_⟩
          · by_cases e : j = m
            · subst e; exact hok
            · exact hn.out j h (by omega)
          · repeat' (first
              | (with_reducible exact Below.refl _ _)
              | (with_reducible assumption)
              | (with_reducible refine below_drewN ?_ _)
              | (with_reducible refine Below.drew ?_)
              | (with_reducible refine below_regrown_up _ _ ?_ ?_)
              | (with_reducible refine Below.alloc ?_ ?_ _)
              | (with_reducible refine Below.setCell ?_ ?_ _)
              | (with_reducible refine below_up ?_ ?_ (by assumption))
              | (with_reducible exact Nat.le_refl _)
              | omega
              | (simp; done)
              | (simp; omega))
        case measure => simp [intOf]; omega
    · obtain rfl : m = l.length := by omega
      go_wp2
      go_ret
      exact ⟨ret_int (ixOf_none fun j h => hn.out j h h).symm, hbw⟩
theorem ixroom_any (l : List Room) (A : Option Addr) (c g : Nat) (a : Int) (w : World) (hs : SlRoom w A l) (hl : l.length ≤ 140737488355328) (hg : w.cell? ⟨g, 0, none⟩ = some (.int .i64 a)) (hgl : g < w.heap.size) :
    Calls Try.prog 40 #[.slice A l.length c, .func (.func 41) #[] #[.pointer (some ⟨g, 0, none⟩)]] w fun e w' => e = .returned (.int .i64 (idxR l a)) ∧ Below w.heap.size w w' := by
  go_enter Try.func40, Try.ntmps40
  go_wp2
  go_loopw [8] (fun k wr => ∃ m : Nat, m ≤ l.length ∧ k = .int .i64 m ∧ Hid (∀ j (h : j < l.length), j < m → isId a l[j] = false) ∧ Below w.heap.size w wr) (fun k _ => l.length - (intOf k).toNat)
  case atStart => exact ⟨0, by omega, rfl, Lib.hid (fun j _ h => absurd h (by omega)), Below.refl _ _⟩
  case round =>
    obtain ⟨m, hm, rfl, hn, hbw⟩ := hrel
    have hbz := hbw.size
    by_cases hlt : m < l.length
    · obtain ⟨b, off, A', c', rfl, hbl, hcell, _⟩ := (hs.up hbw).at_ hlt
      have q0 := hcell 0 _ rfl
      have q1 := hcell 1 _ rfl
      have q2 := hcell 2 _ rfl
      have q3 := hcell 3 _ rfl
      have q4 := hcell 4 _ rfl
      have q5 := hcell 5 _ rfl
      rw [Nat.add_zero] at q0
      clear hcell
      have hgw : wr.cell? ⟨g, 0, none⟩ = some (.int .i64 a) := (hbw.cell (p := ⟨g, 0, none⟩) hgl).trans hg
      have hgz : g < wr.heap.size := by omega
      go_wp2_with (go_at_call 41; refine (index1_any l[m] A' c' g a _ hgw hgz).mono ?_; rintro e w1 ⟨rfl, hb1⟩)
      · have hok : isId a l[m] = true := by first | assumption | simp [*]
        go_ret
        refine ⟨ret_int ?_, ?_⟩
        · exact (ixOf_found hlt hok hn.out).symm
        · repeat' (first
            | (with_reducible exact Below.refl _ _)
            | (with_reducible assumption)
            | (with_reducible refine below_drewN ?_ _)
            | (with_reducible refine Below.drew ?_)
            | (with_reducible refine below_regrown_up _ _ ?_ ?_)
            | (with_reducible refine Below.alloc ?_ ?_ _)
            | (with_reducible refine Below.setCell ?_ ?_ _)
            | (with_reducible refine below_up ?_ ?_ (by assumption))
            | (with_reducible exact Nat.le_refl _)
            | omega
            | (simp; done)
            | (simp; omega))
      · have hok : isId a l[m] = false := by first | assumption | simp [*]
        go_roundw
        case rel =>
          refine ⟨m + 1, by omega, by go_num, Lib.hid (fun j h hj => ?_), ?_⟩
          · by_cases e : j = m
            · subst e; exact hok
            · exact hn.out j h (by omega)
          · repeat' (first
              | (with_reducible exact Below.refl _ _)
              | (with_reducible assumption)
              | (with_reducible refine below_drewN ?_ _)
              | (with_reducible refine Below.drew ?_)
              | (with_reducible refine below_regrown_up _ _ ?_ ?_)
              | (with_reducible refine Below.alloc ?_ ?_ _)
              | (with_reducible refine Below.setCell ?_ ?_ _)
              | (with_reducible refine below_up ?_ ?_ (by assumption))
              | (with_reducible exact Nat.le_refl _)
              | omega
              | (simp; done)
              | (simp; omega))
        case measure => simp [intOf]; omega
    · obtain rfl : m = l.length := by omega
      go_wp2
      go_ret
      refine ⟨ret_int ?_, ?_⟩
      · exact (ixOf_none fun j h => hn.out j h h).symm
      · repeat' (first
          | (with_reducible exact Below.refl _ _)
          | (with_reducible assumption)
          | (with_reducible refine below_drewN ?_ _)
          | (with_reducible refine Below.drew ?_)
          | (with_reducible refine below_regrown_up _ _ ?_ ?_)
          | (with_reducible refine Below.alloc ?_ ?_ _)
          | (with_reducible refine Below.setCell ?_ ?_ _)
          | (with_reducible refine below_up ?_ ?_ (by assumption))
          | (with_reducible exact Nat.le_refl _)
          | omega
          | (simp; done)
          | (simp; omega))
theorem index_any (l : List Room) (A : Option Addr) (c : Nat) (a : Int) (w : World) (hs : SlRoom w A l) (hl : l.length ≤ 140737488355328) :
    Calls Try.prog 29 #[.slice A l.length c, .int .i64 a] w fun e w' => e = .returned (.int .i64 (idxR l a)) ∧ Below w.heap.size w w' := by
  go_enter Try.func29, Try.ntmps29
  go_wp2_with fail
  refine (ixroom_any l A c w.heap.size a _ (hs.up (by repeat' (first | (with_reducible exact Below.refl _ _) | (with_reducible assumption) | (with_reducible refine below_drewN ?_ _) | (with_reducible refine Below.drew ?_) | (with_reducible refine below_regrown_up _ _ ?_ ?_) | (with_reducible refine Below.alloc ?_ ?_ _) | (with_reducible refine Below.setCell ?_ ?_ _) | (with_reducible refine below_up ?_ ?_ (by assumption)) | (with_reducible exact Nat.le_refl _) | omega | (simp; done) | (simp; omega)))) hl (by go_simp) (by simp)).mono ?_
  rintro e w1 ⟨rfl, hb1⟩
  go_wp2_with fail
  go_ret
  refine ⟨rfl, ?_⟩
  repeat' (first
    | (with_reducible exact Below.refl _ _)
    | (with_reducible assumption)
    | (with_reducible refine below_drewN ?_ _)
    | (with_reducible refine Below.drew ?_)
    | (with_reducible refine below_regrown_up _ _ ?_ ?_)
    | (with_reducible refine Below.alloc ?_ ?_ _)
    | (with_reducible refine Below.setCell ?_ ?_ _)
    | (with_reducible refine below_up ?_ ?_ (by assumption))
    | (with_reducible exact Nat.le_refl _)
    | omega
    | (simp; done)
    | (simp; omega))
end Go.Proofs.Ytphapnooonjnmaa
