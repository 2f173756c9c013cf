/-
  Package span and its reference: the next end; what compares.
-/
import Derived.Test.YtphapnooonjnmaaSpW3
namespace Go.Proofs.Ytphapnooonjnmaa
set_option linter.unusedSimpArgs false
set_option linter.unusedVariables false
open Go.RowKit
open Go.Sort (grow size_grow)

set_option maxHeartbeats 4000000
set_option maxRecDepth 100000
/-- The least end that is greater; -1 if there is none. -/
def IsNext (l : List Spn) (n z : Int) : Prop :=
  (z = -1 ∧ ∀ s ∈ l, s.frm ≤ n ∧ s.til ≤ n) ∨ (n < z ∧ (∃ s ∈ l, z = s.frm ∨ z = s.til) ∧ ∀ s ∈ l, (n < s.frm → z ≤ s.frm) ∧ (n < s.til → z ≤ s.til))
def nmin (n z x : Int) : Int := if n < x ∧ (z < 0 ∨ x < z) then x else z
def nstep (n z : Int) (s : Spn) : Int := nmin n (nmin n z s.frm) s.til
theorem isNext_nil (n : Int) : IsNext [] n (-1) := .inl ⟨rfl, by simp⟩
theorem isNext_snoc {l : List Spn} {n z : Int} {s : Spn} (h : IsNext l n z) (hn : 0 ≤ n) (hs : s.ok = true) : IsNext (l ++ [s]) n (nstep n z s) := by
  obtain ⟨f0, f1, f2⟩ := Spn.ok_iff.1 hs
  have mem : ∀ {P : Spn → Prop}, (∀ x ∈ l, P x) → P s → ∀ x ∈ l ++ [s], P x := fun h1 h2 x hx => by
    rcases List.mem_append.1 hx with hx | hx
    · exact h1 x hx
    · simp at hx; rw [hx]; exact h2
  rcases h with ⟨rfl, h⟩ | ⟨h1, ⟨x, hx, hz⟩, h2⟩
  · by_cases c1 : n < s.frm
    · have e : nstep n (-1) s = s.frm := by unfold nstep nmin; (repeat' split) <;> omega
      rw [e]
      exact .inr ⟨c1, ⟨s, by simp, .inl rfl⟩, mem (fun x hx => by have := h x hx; omega) (by omega)⟩
    · by_cases c2 : n < s.til
      · have e : nstep n (-1) s = s.til := by unfold nstep nmin; (repeat' split) <;> omega
        rw [e]
        exact .inr ⟨c2, ⟨s, by simp, .inr rfl⟩, mem (fun x hx => by have := h x hx; omega) (by omega)⟩
      · have e : nstep n (-1) s = -1 := by unfold nstep nmin; (repeat' split) <;> omega
        rw [e]
        exact .inl ⟨rfl, mem h (by omega)⟩
  · by_cases c1 : n < s.frm ∧ s.frm < z
    · have e : nstep n z s = s.frm := by unfold nstep nmin; (repeat' split) <;> omega
      rw [e]
      exact .inr ⟨c1.1, ⟨s, by simp, .inl rfl⟩, mem (fun x hx => by have := h2 x hx; omega) (by omega)⟩
    · by_cases c2 : n < s.til ∧ s.til < z
      · have e : nstep n z s = s.til := by unfold nstep nmin; (repeat' split) <;> omega
        rw [e]
        exact .inr ⟨c2.1, ⟨s, by simp, .inr rfl⟩, mem (fun x hx => by have := h2 x hx; omega) (by omega)⟩
      · have e : nstep n z s = z := by unfold nstep nmin; (repeat' split) <;> omega
        rw [e]
        exact .inr ⟨h1, ⟨x, by simp [hx], hz⟩, mem h2 (by omega)⟩
theorem isNext_pos {l : List Spn} {n z : Int} (h : IsNext l n z) (hz : 0 < z) : n < z ∧ (∃ s ∈ l, z = s.frm ∨ z = s.til) ∧ ∀ s ∈ l, (n < s.frm → z ≤ s.frm) ∧ (n < s.til → z ≤ s.til) := by
  rcases h with h | h
  · omega
  · exact h
theorem isNext_none {l : List Spn} {n z : Int} (h : IsNext l n z) (hn : 0 ≤ n) (hz : ¬ 0 < z) : ∀ s ∈ l, s.frm ≤ n ∧ s.til ≤ n := by
  rcases h with h | h
  · exact h.2
  · omega
theorem next_any (a b : List Spn) (A B : Option Addr) (c d : Nat) (n : Int) (w : World) (ha : SlSpn w A a) (hb : SlSpn w B b) (hla : a.length ≤ 1000) (hlb : b.length ≤ 1000) (hok : ∀ s ∈ a ++ b, s.ok = true) (hn0 : 0 ≤ n) :
    Calls Try.prog 56 #[.slice A a.length c, .slice B b.length d, .int .i64 n] w fun e w' => (∃ z : Int, e = .returned (.int .i64 z) ∧ IsNext (a ++ b) n z) ∧ Below w.heap.size w w' := by
  have HOK := Lib.hid hok
  clear hok
  have hlen : IntKind.i64.wrap ((a.length : Int) + (b.length : Int)) = (a.length : Int) + (b.length : Int) := IntWalk.i64_in _ (by omega)
  go_enter Try.func56, Try.ntmps56
  go_wp2
  go_loopw [7, 8] (fun zv i wr => ∃ m : Nat, ∃ z : Int, m ≤ a.length + b.length ∧ i = .int .i64 m ∧ zv = .int .i64 z ∧ Hid (IsNext ((a ++ b).take m) n z) ∧ (-1 ≤ z ∧ z ≤ 1000000000) ∧ Below w.heap.size w wr) (fun _ i _ => a.length + b.length - (intOf i).toNat)
  case atStart => exact ⟨0, -1, by omega, rfl, rfl, Lib.hid (isNext_nil n), by omega, Below.refl _ _⟩
  case round =>
    obtain ⟨m, z, hm, rfl, rfl, hz, ⟨z0, z1⟩, hbw⟩ := hrel
    have hbz := hbw.size
    have hx4 : (0 : Int) ≤ (m : Int) := by omega
    by_cases hlt : m < a.length + b.length
    · have hx1 : (m : Int) < (a.length : Int) + (b.length : Int) := by omega
      have hlt' : m < (a ++ b).length := by rw [List.length_append]; exact hlt
      have HT : Hid ((a ++ b).take (m + 1) = (a ++ b).take m ++ [(a ++ b)[m]]) := Lib.hid (List.take_succ_eq_append_getElem hlt')
      have hsk := HOK.out _ (List.getElem_mem hlt')
      obtain ⟨f0, f1, f2⟩ := Spn.ok_iff.1 hsk
      by_cases hla2 : m < a.length
      · have hx2 : (m : Int) < (a.length : Int) := by omega
        have hx3 : decide ((m : Int) < (a.length : Int)) = true := by simpa using hx2
        have e1 : (a ++ b)[m] = a[m] := List.getElem_append_left hla2
        obtain ⟨bk, off, rfl, hbl, hcell⟩ := (ha.below hbw).at_ hla2
        rw [← e1] at hcell
        generalize (a ++ b)[m] = s at *
        have q0 := hcell 0 _ rfl
        have q1 := hcell 1 _ rfl
        rw [Nat.add_zero] at q0
        have hbk : bk < wr.heap.size := by omega
        clear hcell e1
        cases d1 : decide (n < s.frm) <;> cases d2 : decide (z < 0) <;> cases d3 : decide (s.frm < z) <;> cases d4 : decide (n < s.til) <;> cases d6 : decide (s.til < z)
        all_goals
          try (exfalso; simp only [decide_eq_true_eq, decide_eq_false_iff_not] at d1 d2 d3 d4 d6; omega)
        all_goals
          go_wp2_with fail
          go_roundw
          case rel =>
            refine ⟨m + 1, nstep n z s, by omega, by go_num, ?_, Lib.hid (by rw [HT.out]; exact isNext_snoc hz.out hn0 hsk), ?_, (by repeat' (first | (with_reducible exact Below.refl _ _) | (with_reducible assumption) | (with_reducible refine below_drewN ?_ _) | (with_reducible refine Below.drew ?_) | (with_reducible refine below_regrown_up _ _ ?_ ?_) | (with_reducible refine Below.alloc ?_ ?_ _) | (with_reducible refine Below.setCell ?_ ?_ _) | (with_reducible refine below_up ?_ ?_ (by assumption)) | (with_reducible exact Nat.le_refl _) | omega | (simp; done) | (simp; omega)))⟩
            · simp only [decide_eq_true_eq, decide_eq_false_iff_not] at d1 d2 d3 d4 d6
              congr 1
              unfold nstep nmin
              (repeat' split) <;> omega
            · simp only [decide_eq_true_eq, decide_eq_false_iff_not] at d1 d2 d3 d4 d6
              unfold nstep nmin
              (repeat' split) <;> omega
          case measure => simp [intOf]; omega
      · have hx2 : ¬ (m : Int) < (a.length : Int) := by omega
        have hx3 : decide ((m : Int) < (a.length : Int)) = false := by simpa using hx2
        obtain ⟨k, hk⟩ : ∃ k, m = a.length + k := ⟨m - a.length, by omega⟩
        have hkb : k < b.length := by omega
        have e1 : (a ++ b)[m] = b[k] := by subst hk; rw [List.getElem_append_right (by omega)]; simp
        have hw1 : IntKind.i64.wrap ((m : Int) - (a.length : Int)) = (k : Int) := by rw [IntWalk.i64_in _ (by omega)]; omega
        have hx5 : (0 : Int) ≤ (k : Int) := by omega
        have hx6 : (k : Int) < (b.length : Int) := by omega
        obtain ⟨bk, off, rfl, hbl, hcell⟩ := (hb.below hbw).at_ hkb
        rw [← e1] at hcell
        have HK := Lib.hid hk
        clear hk
        generalize (a ++ b)[m] = s at *
        have q0 := hcell 0 _ rfl
        have q1 := hcell 1 _ rfl
        rw [Nat.add_zero] at q0
        have hbk : bk < wr.heap.size := by omega
        clear hcell e1
        cases d1 : decide (n < s.frm) <;> cases d2 : decide (z < 0) <;> cases d3 : decide (s.frm < z) <;> cases d4 : decide (n < s.til) <;> cases d6 : decide (s.til < z)
        all_goals
          try (exfalso; simp only [decide_eq_true_eq, decide_eq_false_iff_not] at d1 d2 d3 d4 d6; omega)
        all_goals
          go_wp2_with fail
          go_roundw
          case rel =>
            refine ⟨m + 1, nstep n z s, by omega, by go_num, ?_, Lib.hid (by rw [HT.out]; exact isNext_snoc hz.out hn0 hsk), ?_, (by repeat' (first | (with_reducible exact Below.refl _ _) | (with_reducible assumption) | (with_reducible refine below_drewN ?_ _) | (with_reducible refine Below.drew ?_) | (with_reducible refine below_regrown_up _ _ ?_ ?_) | (with_reducible refine Below.alloc ?_ ?_ _) | (with_reducible refine Below.setCell ?_ ?_ _) | (with_reducible refine below_up ?_ ?_ (by assumption)) | (with_reducible exact Nat.le_refl _) | omega | (simp; done) | (simp; omega)))⟩
            · simp only [decide_eq_true_eq, decide_eq_false_iff_not] at d1 d2 d3 d4 d6
              congr 1
              unfold nstep nmin
              (repeat' split) <;> omega
            · simp only [decide_eq_true_eq, decide_eq_false_iff_not] at d1 d2 d3 d4 d6
              unfold nstep nmin
              (repeat' split) <;> omega
          case measure => simp [intOf]; omega
    · obtain rfl : m = a.length + b.length := by omega
      have hx1 : ¬ ((a.length + b.length : Nat) : Int) < (a.length : Int) + (b.length : Int) := by omega
      have hzz := hz.out
      rw [List.take_of_length_le (by rw [List.length_append]; omega)] at hzz
      have HZ := Lib.hid hzz
      clear hzz
      go_wp2
      go_ret
      exact ⟨⟨_, rfl, HZ.out⟩, hbw⟩
end Go.Proofs.Ytphapnooonjnmaa
