/-
  Package span and its reference: the small functions.
-/
import Derived.Test.YtphapnooonjnmaaSpSort
namespace Go.Proofs.Ytphapnooonjnmaa
set_option linter.unusedSimpArgs false
set_option linter.unusedVariables false
open Go.RowKit
open Go.Sort (grow size_grow)

set_option maxHeartbeats 2000000
set_option maxRecDepth 100000
def Spn.cs (s : Spn) : List Value := [.int .i64 s.frm, .int .i64 s.til]
abbrev Spn.v (s : Spn) : Value := .agg #[.int .i64 s.frm, .int .i64 s.til]
abbrev SlSpn (w : World) (A : Option Addr) (l : List Spn) : Prop := Sl w w.heap.size 2 Spn.cs A l
theorem spn_len (s : Spn) : (Spn.cs s).length = 2 := rfl
theorem spn_one (s : Spn) : ∀ u ∈ Spn.cs s, u.oneCell' = true := by simp [Spn.cs, Value.oneCell']
theorem Sl.up {α : Type} {w w' : World} {size : Nat} {enc : α → List Value} {A : Option Addr} {l : List α} (h : Sl w w.heap.size size enc A l) (hb : Below w.heap.size w w') : Sl w' w'.heap.size size enc A l := (h.below hb).more hb.size
theorem wrong_any (s : Spn) (w : World) : Calls Try.prog 52 #[s.v] w fun e w' => e = .returned (.bool (!s.ok)) ∧ Below w.heap.size w w' := by
  cases h0 : decide (s.frm < 0) <;> cases h1 : decide (s.til ≤ s.frm) <;> cases h2 : decide (1000000000 < s.til)
  all_goals
    go_enter Try.func52, Try.ntmps52
    go_wp2
    go_ret
    refine ⟨ret_bool ?_, ?_⟩
    · simp only [decide_eq_true_eq, decide_eq_false_iff_not] at h0 h1 h2
      first
        | (rw [(Spn.ok_iff (s := s)).2 (by omega)]; rfl)
        | (rw [show s.ok = false by rw [← Bool.not_eq_true, Spn.ok_iff]; omega]; rfl)
    · repeat' (first
        | (with_reducible exact Below.refl _ _)
        | (with_reducible assumption)
        | (with_reducible refine below_drewN ?_ _)
        | (with_reducible refine Below.drew ?_)
        | (with_reducible refine below_regrown_up _ _ ?_ ?_)
        | (with_reducible refine Below.alloc ?_ ?_ _)
        | (with_reducible refine Below.setCell ?_ ?_ _)
        | (with_reducible refine below_up ?_ ?_ (by assumption))
        | (with_reducible exact Nat.le_refl _)
        | omega
        | (simp; done)
        | (simp; omega))
theorem rspan_any (s : Spn) (w : World) : Calls Try.prog 51 #[s.v] w fun e w' => e = .returned (.bool s.ok) ∧ Below w.heap.size w w' := by
  cases h0 : decide (0 ≤ s.frm) <;> cases h1 : decide (s.frm < s.til) <;> cases h2 : decide (s.til ≤ 1000000000)
  all_goals
    go_enter Try.func51, Try.ntmps51
    go_wp2
    go_ret
    refine ⟨ret_bool ?_, ?_⟩
    · simp only [decide_eq_true_eq, decide_eq_false_iff_not] at h0 h1 h2
      first
        | exact ((Spn.ok_iff (s := s)).2 (by omega)).symm
        | exact (show s.ok = false by rw [← Bool.not_eq_true, Spn.ok_iff]; omega).symm
    · repeat' (first
        | (with_reducible exact Below.refl _ _)
        | (with_reducible assumption)
        | (with_reducible refine below_drewN ?_ _)
        | (with_reducible refine Below.drew ?_)
        | (with_reducible refine below_regrown_up _ _ ?_ ?_)
        | (with_reducible refine Below.alloc ?_ ?_ _)
        | (with_reducible refine Below.setCell ?_ ?_ _)
        | (with_reducible refine below_up ?_ ?_ (by assumption))
        | (with_reducible exact Nat.le_refl _)
        | omega
        | (simp; done)
        | (simp; omega))
theorem setOk_at {l : List Spn} (h : setOk l = true) {m : Nat} (hm : m < l.length) : l[m].ok = true := (setOk_iff.1 h).1 _ (List.getElem_mem hm)
theorem setOk_next {l : List Spn} (h : setOk l = true) {m : Nat} (hm : m + 1 < l.length) : l[m].til < l[m + 1].frm := (apart_iff (setOk_iff.1 h).1).1 (setOk_iff.1 h).2.1 m hm
theorem setOk_all {l : List Spn} (h1 : ∀ j (h : j < l.length), l[j].ok = true) (h2 : ∀ j (h : j + 1 < l.length), l[j].til < l[j + 1].frm) : setOk l = decide (l.length ≤ 1000) := by
  have h3 : ∀ s ∈ l, s.ok = true := fun s hs => by obtain ⟨j, hj, rfl⟩ := List.getElem_of_mem hs; exact h1 j hj
  unfold setOk
  rw [List.all_eq_true.2 h3, decide_eq_true ((apart_iff h3).2 h2)]
  simp
theorem valid_any (l : List Spn) (A : Option Addr) (c : Nat) (w : World) (hs : SlSpn w A l) (hl : l.length ≤ 140737488355328) :
    Calls Try.prog 43 #[.slice A l.length c] w fun e w' => e = .returned (.bool (setOk l)) ∧ Below w.heap.size w w' := by
  go_enter Try.func43, Try.ntmps43
  go_wp2
  go_loopw [3, 8] (fun lv i wr => ∃ m : Nat, ∃ z : Int, m ≤ l.length ∧ i = .int .i64 m ∧ lv = .int .i64 z ∧ (m = 0 → z = -1) ∧ Hid (∀ (h : 0 < m) (h' : m - 1 < l.length), z = l[m - 1].til) ∧ Hid (∀ j (h : j < l.length), j < m → l[j].ok = true) ∧ Hid (∀ j (h : j + 1 < l.length), j + 1 < m → l[j].til < l[j + 1].frm) ∧ Below w.heap.size w wr) (fun _ i _ => l.length - (intOf i).toNat)
  case atStart => exact ⟨0, -1, by omega, rfl, rfl, fun _ => rfl, Lib.hid (fun h => absurd h (by omega)), Lib.hid (fun j _ h => absurd h (by omega)), Lib.hid (fun j _ h => absurd h (by omega)), Below.refl _ _⟩
  case round =>
    obtain ⟨m, z, hm, rfl, rfl, hy0, hy1, hn1, hn2, hbw⟩ := hrel
    have hbz := hbw.size
    by_cases hlt : m < l.length
    · have hx1 : (m : Int) < (l.length : Int) := by omega
      have hx4 : (0 : Int) ≤ (m : Int) := by omega
      obtain ⟨b, off, rfl, hbl, hcell⟩ := (hs.below hbw).at_ hlt
      have q0 := hcell 0 _ rfl
      have q1 := hcell 1 _ rfl
      rw [Nat.add_zero] at q0
      clear hcell
      have HZ0 := Lib.hid hy0
      clear hy0
      cases hok : l[m].ok with
      | false =>
        go_wp2_with (go_at_call 52; refine (wrong_any l[m] _).mono ?_; rintro e w1 ⟨rfl, hb1⟩; have hz1 := hb1.size; (try simp only [World.size_alloc, World.size_setCell, World.size_drew, size_drewN', size_grow, size_redrawn] at hz1); obtain ⟨hc1, hf1⟩ := bcellB (B := wr.heap.size + 1) hb1 (by first | omega | (simp only [World.size_alloc, World.size_setCell, World.size_drew, size_drewN', size_grow, size_redrawn]; omega)); rw [hok])
        go_ret
        refine ⟨ret_bool ?_, ?_⟩
        · cases e : setOk l with
          | false => rfl
          | true => rw [setOk_at e hlt] at hok; cases hok
        · repeat' (first
            | (with_reducible exact Below.refl _ _)
            | (with_reducible assumption)
            | (with_reducible refine below_drewN ?_ _)
            | (with_reducible refine Below.drew ?_)
            | (with_reducible refine below_regrown_up _ _ ?_ ?_)
            | (with_reducible refine Below.alloc ?_ ?_ _)
            | (with_reducible refine Below.setCell ?_ ?_ _)
            | (with_reducible refine below_up ?_ ?_ (by assumption))
            | (with_reducible exact Nat.le_refl _)
            | omega
            | (simp; done)
            | (simp; omega))
      | true =>
        obtain ⟨f0, f1, f2⟩ := Spn.ok_iff.1 hok
        by_cases hd : l[m].frm ≤ z
        · have hgd : decide (l[m].frm ≤ z) = true := by simpa using hd
          go_wp2_with (go_at_call 52; refine (wrong_any l[m] _).mono ?_; rintro e w1 ⟨rfl, hb1⟩; have hz1 := hb1.size; (try simp only [World.size_alloc, World.size_setCell, World.size_drew, size_drewN', size_grow, size_redrawn] at hz1); obtain ⟨hc1, hf1⟩ := bcellB (B := wr.heap.size + 1) hb1 (by first | omega | (simp only [World.size_alloc, World.size_setCell, World.size_drew, size_drewN', size_grow, size_redrawn]; omega)); rw [hok])
          go_ret
          refine ⟨ret_bool ?_, ?_⟩
          · cases e : setOk l with
            | false => rfl
            | true =>
              rcases Nat.eq_zero_or_pos m with h0 | h0
              · have := HZ0.out h0; omega
              · have h3 := hy1.out h0 (by omega)
                have h4 := setOk_next e (m := m - 1) (by omega)
                simp only [show m - 1 + 1 = m by omega] at h4
                omega
          · repeat' (first
              | (with_reducible exact Below.refl _ _)
              | (with_reducible assumption)
              | (with_reducible refine below_drewN ?_ _)
              | (with_reducible refine Below.drew ?_)
              | (with_reducible refine below_regrown_up _ _ ?_ ?_)
              | (with_reducible refine Below.alloc ?_ ?_ _)
              | (with_reducible refine Below.setCell ?_ ?_ _)
              | (with_reducible refine below_up ?_ ?_ (by assumption))
              | (with_reducible exact Nat.le_refl _)
              | omega
              | (simp; done)
              | (simp; omega))
        · have hgd : decide (l[m].frm ≤ z) = false := by simpa using hd
          go_wp2_with (go_at_call 52; refine (wrong_any l[m] _).mono ?_; rintro e w1 ⟨rfl, hb1⟩; have hz1 := hb1.size; (try simp only [World.size_alloc, World.size_setCell, World.size_drew, size_drewN', size_grow, size_redrawn] at hz1); obtain ⟨hc1, hf1⟩ := bcellB (B := wr.heap.size + 1) hb1 (by first | omega | (simp only [World.size_alloc, World.size_setCell, World.size_drew, size_drewN', size_grow, size_redrawn]; omega)); rw [hok])
          go_roundw
          case rel =>
            refine ⟨m + 1, l[m].til, by omega, by go_num, rfl, fun h => by omega, Lib.hid (fun _ _ => rfl), Lib.hid (fun j h hj => ?_), Lib.hid (fun j h hj => ?_), ?_⟩
            · by_cases e : j = m
              · subst e; exact hok
              · exact hn1.out j h (by omega)
            · by_cases e : j + 1 = m
              · have h3 := hy1.out (by omega) (by omega)
                simp only [show m - 1 = j by omega] at h3
                simp only [e]
                omega
              · exact hn2.out j h (by omega)
            · repeat' (first
                | (with_reducible exact Below.refl _ _)
                | (with_reducible assumption)
                | (with_reducible refine below_drewN ?_ _)
                | (with_reducible refine Below.drew ?_)
                | (with_reducible refine below_regrown_up _ _ ?_ ?_)
                | (with_reducible refine Below.alloc ?_ ?_ _)
                | (with_reducible refine Below.setCell ?_ ?_ _)
                | (with_reducible refine below_up ?_ ?_ (by assumption))
                | (with_reducible exact Nat.le_refl _)
                | omega
                | (simp; done)
                | (simp; omega))
          case measure => simp [intOf]; omega
    · obtain rfl : m = l.length := by omega
      have hall := setOk_all (fun j h => hn1.out j h h) (fun j h => hn2.out j h h)
      by_cases h5 : l.length ≤ 1000
      · have h6 : (l.length : Int) ≤ 1000 := by omega
        go_wp2
        go_ret
        exact ⟨ret_bool (by rw [hall]; first | (simp [h5]; done) | (simp [h5]; omega)), hbw⟩
      · have h6 : 1000 < (l.length : Int) := by omega
        go_wp2
        go_ret
        exact ⟨ret_bool (by rw [hall]; first | (simp [h5]; done) | (simp [h5]; omega)), hbw⟩
theorem rvalid_any (l : List Spn) (A : Option Addr) (c : Nat) (w : World) (hs : SlSpn w A l) (hl : l.length ≤ 140737488355328) :
    Calls Try.prog 39 #[.slice A l.length c] w fun e w' => e = .returned (.bool (setOk l)) ∧ Below w.heap.size w w' := by
  go_enter Try.func39, Try.ntmps39
  go_wp2
  go_loopw [3] (fun i wr => ∃ m : Nat, m ≤ l.length ∧ i = .int .i64 m ∧ Hid (∀ j (h : j < l.length), j < m → l[j].ok = true) ∧ Hid (∀ j (h : j + 1 < l.length), j + 1 < m → l[j].til < l[j + 1].frm) ∧ Below w.heap.size w wr) (fun i _ => l.length - (intOf i).toNat)
  case atStart => exact ⟨0, by omega, rfl, Lib.hid (fun j _ h => absurd h (by omega)), Lib.hid (fun j _ h => absurd h (by omega)), Below.refl _ _⟩
  case round =>
    obtain ⟨m, hm, rfl, hn1, hn2, hbw⟩ := hrel
    have hbz := hbw.size
    by_cases hlt : m < l.length
    · have hx1 : (m : Int) < (l.length : Int) := by omega
      have hx4 : (0 : Int) ≤ (m : Int) := by omega
      obtain ⟨b, off, rfl, hbl, hcell⟩ := (hs.below hbw).at_ hlt
      have q0 := hcell 0 _ rfl
      have q1 := hcell 1 _ rfl
      rw [Nat.add_zero] at q0
      clear hcell
      cases hok : l[m].ok with
      | false =>
        go_wp2_with (go_at_call 51; refine (rspan_any l[m] _).mono ?_; rintro e w1 ⟨rfl, hb1⟩; have hz1 := hb1.size; (try simp only [World.size_alloc, World.size_setCell, World.size_drew, size_drewN', size_grow, size_redrawn] at hz1); obtain ⟨hc1, hf1⟩ := bcellB (B := w.heap.size) hb1 (by first | omega | (simp only [World.size_alloc, World.size_setCell, World.size_drew, size_drewN', size_grow, size_redrawn]; omega)); rw [hok])
        go_quiet (fail)
        go_wp2_with fail
        go_ret
        refine ⟨ret_bool ?_, ?_⟩
        · cases e : setOk l with
          | false => rfl
          | true => rw [setOk_at e hlt] at hok; cases hok
        · repeat' (first
            | (with_reducible exact Below.refl _ _)
            | (with_reducible assumption)
            | (with_reducible refine below_drewN ?_ _)
            | (with_reducible refine Below.drew ?_)
            | (with_reducible refine below_regrown_up _ _ ?_ ?_)
            | (with_reducible refine Below.alloc ?_ ?_ _)
            | (with_reducible refine Below.setCell ?_ ?_ _)
            | (with_reducible refine below_up ?_ ?_ (by assumption))
            | (with_reducible exact Nat.le_refl _)
            | omega
            | (simp; done)
            | (simp; omega))
      | true =>
        by_cases h0 : m = 0
        · have hg0 : decide ((0 : Int) < (m : Int)) = false := by simp; omega
          have hg1 : decide (0 < m) = false := by simp; omega
          have H0 := Lib.hid h0
          clear h0
          go_wp2_with (go_at_call 51; refine (rspan_any l[m] _).mono ?_; rintro e w1 ⟨rfl, hb1⟩; have hz1 := hb1.size; (try simp only [World.size_alloc, World.size_setCell, World.size_drew, size_drewN', size_grow, size_redrawn] at hz1); obtain ⟨hc1, hf1⟩ := bcellB (B := w.heap.size) hb1 (by first | omega | (simp only [World.size_alloc, World.size_setCell, World.size_drew, size_drewN', size_grow, size_redrawn]; omega)); rw [hok])
          go_quiet (fail)
          go_wp2_with fail
          go_roundw
          case rel =>
            refine ⟨m + 1, by omega, by go_num, Lib.hid (fun j h hj => ?_), Lib.hid (fun j h hj => by have := H0.out; omega), ?_⟩
            · have hm0 := H0.out
              subst hm0
              obtain rfl : j = 0 := by omega
              exact hok
            · repeat' (first
                | (with_reducible exact Below.refl _ _)
                | (with_reducible assumption)
                | (with_reducible refine below_drewN ?_ _)
                | (with_reducible refine Below.drew ?_)
                | (with_reducible refine below_regrown_up _ _ ?_ ?_)
                | (with_reducible refine Below.alloc ?_ ?_ _)
                | (with_reducible refine Below.setCell ?_ ?_ _)
                | (with_reducible refine below_up ?_ ?_ (by assumption))
                | (with_reducible exact Nat.le_refl _)
                | omega
                | (simp; done)
                | (simp; omega))
          case measure => simp [intOf]; omega
        · obtain ⟨p, hp⟩ : ∃ p, m = p + 1 := ⟨m - 1, by omega⟩
          have hp1 : p < l.length := by omega
          have hcell2 := ((hs.below hbw).cells (k := p) hp1).2
          have p1 := hcell2 1 _ rfl
          clear hcell2
          have hw1 : IntKind.i64.wrap ((m : Int) - 1) = p := by rw [IntWalk.i64_in _ (by omega)]; omega
          have hx5 : (0 : Int) ≤ (p : Int) := by omega
          have hx6 : (p : Int) < (l.length : Int) := by omega
          have hx7 : (0 : Int) < (m : Int) := by omega
          have hg0 : decide ((0 : Int) < (m : Int)) = true := by simpa using hx7
          have hg1 : decide (0 < m) = true := by simpa using hx7
          by_cases hd : l[m].frm ≤ l[p].til
          · have hgd : decide (l[m].frm ≤ l[p].til) = true := by simpa using hd
            have HP := Lib.hid hp
            clear hp h0
            go_wp2_with (go_at_call 51; refine (rspan_any l[m] _).mono ?_; rintro e w1 ⟨rfl, hb1⟩; have hz1 := hb1.size; (try simp only [World.size_alloc, World.size_setCell, World.size_drew, size_drewN', size_grow, size_redrawn] at hz1); obtain ⟨hc1, hf1⟩ := bcellB (B := w.heap.size) hb1 (by first | omega | (simp only [World.size_alloc, World.size_setCell, World.size_drew, size_drewN', size_grow, size_redrawn]; omega)); rw [hok])
            go_quiet (fail)
            go_wp2_with fail
            go_ret
            refine ⟨ret_bool ?_, ?_⟩
            · cases e : setOk l with
              | false => rfl
              | true =>
                have hmp := HP.out
                subst hmp
                have := setOk_next e hlt
                omega
            · repeat' (first
                | (with_reducible exact Below.refl _ _)
                | (with_reducible assumption)
                | (with_reducible refine below_drewN ?_ _)
                | (with_reducible refine Below.drew ?_)
                | (with_reducible refine below_regrown_up _ _ ?_ ?_)
                | (with_reducible refine Below.alloc ?_ ?_ _)
                | (with_reducible refine Below.setCell ?_ ?_ _)
                | (with_reducible refine below_up ?_ ?_ (by assumption))
                | (with_reducible exact Nat.le_refl _)
                | omega
                | (simp; done)
                | (simp; omega))
          · have hgd : decide (l[m].frm ≤ l[p].til) = false := by simpa using hd
            have HP := Lib.hid hp
            clear hp h0
            go_wp2_with (go_at_call 51; refine (rspan_any l[m] _).mono ?_; rintro e w1 ⟨rfl, hb1⟩; have hz1 := hb1.size; (try simp only [World.size_alloc, World.size_setCell, World.size_drew, size_drewN', size_grow, size_redrawn] at hz1); obtain ⟨hc1, hf1⟩ := bcellB (B := w.heap.size) hb1 (by first | omega | (simp only [World.size_alloc, World.size_setCell, World.size_drew, size_drewN', size_grow, size_redrawn]; omega)); rw [hok])
            go_quiet (fail)
            go_wp2_with fail
            go_roundw
            case rel =>
              refine ⟨m + 1, by omega, by go_num, Lib.hid (fun j h hj => ?_), Lib.hid (fun j h hj => ?_), ?_⟩
              · by_cases e : j = m
                · subst e; exact hok
                · exact hn1.out j h (by omega)
              · have hmp := HP.out
                by_cases e : j = p
                · subst e
                  subst hmp
                  omega
                · exact hn2.out j h (by omega)
              · repeat' (first
                  | (with_reducible exact Below.refl _ _)
                  | (with_reducible assumption)
                  | (with_reducible refine below_drewN ?_ _)
                  | (with_reducible refine Below.drew ?_)
                  | (with_reducible refine below_regrown_up _ _ ?_ ?_)
                  | (with_reducible refine Below.alloc ?_ ?_ _)
                  | (with_reducible refine Below.setCell ?_ ?_ _)
                  | (with_reducible refine below_up ?_ ?_ (by assumption))
                  | (with_reducible exact Nat.le_refl _)
                  | omega
                  | (simp; done)
                  | (simp; omega))
            case measure => simp [intOf]; omega
    · obtain rfl : m = l.length := by omega
      have hall := setOk_all (fun j h => hn1.out j h h) (fun j h => hn2.out j h h)
      by_cases h5 : l.length ≤ 1000
      · have h6 : (l.length : Int) ≤ 1000 := by omega
        go_wp2
        go_ret
        exact ⟨ret_bool (by rw [hall]; first | (simp [h5]; done) | (simp [h5]; omega)), hbw⟩
      · have h6 : 1000 < (l.length : Int) := by omega
        go_wp2
        go_ret
        exact ⟨ret_bool (by rw [hall]; first | (simp [h5]; done) | (simp [h5]; omega)), hbw⟩
end Go.Proofs.Ytphapnooonjnmaa
