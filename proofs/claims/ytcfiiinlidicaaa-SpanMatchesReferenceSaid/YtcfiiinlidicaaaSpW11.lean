/-
  The reference of package span: Most.
-/
import Derived.Test.YtcfiiinlidicaaaSpW10
namespace Go.Proofs.Ytcfiiinlidicaaa
set_option linter.unusedSimpArgs false
set_option linter.unusedVariables false
open Go.RowKit
open Go.Sort (grow size_grow)

set_option maxHeartbeats 1000000
set_option maxRecDepth 100000
/-- The best beginning so far. -/
def MR (l pre : List Spn) (at_ many : Int) : Prop := (pre = [] ∧ at_ = 0 ∧ many = 0) ∨ (pre ≠ [] ∧ 1 ≤ many ∧ deep l at_ = many ∧ ∀ t ∈ pre, deep l t.frm ≤ many ∧ (deep l t.frm = many → at_ ≤ t.frm))
def better (n many f at_ : Int) : Prop := many < n ∨ (n = many ∧ f < at_)
theorem deep_pos {l : List Spn} {s : Spn} (h : s ∈ l) (hs : s.ok = true) : 1 ≤ deep l s.frm := by
  unfold deep
  have hm : s ∈ l.filter (inS · s.frm) := List.mem_filter.2 ⟨h, inS_iff.2 ⟨Int.le_refl _, (Spn.ok_iff.1 hs).2.1⟩⟩
  have := List.length_pos_of_mem hm
  omega
theorem mr_yes {l pre : List Spn} {at_ many : Int} {x : Spn} (h : MR l pre at_ many) (hx : 1 ≤ deep l x.frm) (hb : better (deep l x.frm) many x.frm at_) : MR l (pre ++ [x]) x.frm (deep l x.frm) := by
  refine .inr ⟨by simp, hx, rfl, fun t ht => ?_⟩
  rcases List.mem_append.1 ht with ht | ht
  · rcases h with ⟨e, _⟩ | ⟨_, _, _, h⟩
    · rw [e] at ht; cases ht
    · have := h t ht
      unfold better at hb
      refine ⟨by omega, fun e => ?_⟩
      rcases hb with hb | ⟨hb1, hb2⟩
      · omega
      · have := this.2 (by omega); omega
  · simp at ht
    rw [ht]
    exact ⟨Int.le_refl _, fun _ => Int.le_refl _⟩
theorem mr_no {l pre : List Spn} {at_ many : Int} {x : Spn} (h : MR l pre at_ many) (hx : 1 ≤ deep l x.frm) (hb : ¬ better (deep l x.frm) many x.frm at_) : MR l (pre ++ [x]) at_ many := by
  unfold better at hb
  rcases h with ⟨e, h1, h2⟩ | ⟨h0, h1, h2, h⟩
  · exact absurd (.inl (by omega)) hb
  · refine .inr ⟨by simp, h1, h2, fun t ht => ?_⟩
    rcases List.mem_append.1 ht with ht | ht
    · exact h t ht
    · simp at ht
      rw [ht]
      constructor
      · rcases Int.lt_or_le many (deep l x.frm) with h5 | h5
        · exact absurd (.inl h5) hb
        · exact h5
      · intro e
        rcases Int.lt_or_le x.frm at_ with h5 | h5
        · exact absurd (.inr ⟨e, h5⟩) hb
        · exact h5
theorem mr_end {l : List Spn} {at_ many : Int} (h : MR l l at_ many) : IsMost l at_ many := by
  rcases h with h | ⟨h0, h1, h2, h⟩
  · exact .inl h
  · refine .inr ⟨h0, h1, h2, fun n => ?_⟩
    by_cases hn : 0 < deep l n
    · obtain ⟨s, hs, i1, i2⟩ := deep_first hn
      have h5 := h s hs
      refine ⟨by omega, fun e => ?_⟩
      have := h5.2 (by omega)
      omega
    · exact ⟨by omega, fun e => by omega⟩
theorem rmost_any (l : List Spn) (A : Option Addr) (c : Nat) (w : World) (hs : SlSpn w A l) (h3 : l.length ≤ 3000) (hall : l.all Spn.ok = true) :
    Calls Try.prog 23 #[.slice A l.length c] w fun e w' => (∃ at_ many : Int, e = .returned (.tuple #[.int .i64 at_, .int .i64 many, .int .i64 0]) ∧ IsMost l at_ many) ∧ Below w.heap.size w w' := by
  have hl0 : l.length ≤ 140737488355328 := by omega
  have h3' : decide ((3000 : Int) < (l.length : Int)) = false := by simp; omega
  have h4 : ¬ (3000 : Int) < (l.length : Int) := by omega
  have HALL := Lib.hid (List.all_eq_true.1 hall)
  go_enter Try.func23, Try.ntmps23
  go_wp2
  go_loopw [7] (fun i wr => ∃ m : Nat, m ≤ l.length ∧ i = .int .i64 m ∧ Below w.heap.size w wr) (fun i _ => l.length - (intOf i).toNat)
  case atStart => exact ⟨0, by omega, rfl, Below.refl _ _⟩
  case round =>
    obtain ⟨m, hm, rfl, hbw⟩ := hrel
    have hbz := hbw.size
    by_cases hlt : m < l.length
    · have hx1 : (m : Int) < (l.length : Int) := by omega
      have hx4 : (0 : Int) ≤ (m : Int) := by omega
      obtain ⟨b, off, rfl, hbl, hcell⟩ := (hs.below hbw).at_ hlt
      have q0 := hcell 0 _ rfl
      have q1 := hcell 1 _ rfl
      rw [Nat.add_zero] at q0
      clear hcell
      have hok := HALL.out _ (List.getElem_mem hlt)
      go_wp2_with (go_at_call 31; refine (rspan_any l[m] _).mono ?_; rintro e w1 ⟨rfl, hb1⟩; have hz1 := hb1.size; (try simp only [World.size_alloc, World.size_setCell, World.size_drew, size_drewN', size_grow, size_redrawn] at hz1); obtain ⟨hc1, hf1⟩ := bcellB (B := w.heap.size) hb1 (by first | omega | (simp only [World.size_alloc, World.size_setCell, World.size_drew, size_drewN', size_grow, size_redrawn]; omega)); rw [hok])
      go_roundw
      case rel => exact ⟨m + 1, by omega, by go_num, (by repeat' (first | (with_reducible exact Below.refl _ _) | (with_reducible assumption) | (with_reducible refine below_drewN ?_ _) | (with_reducible refine Below.drew ?_) | (with_reducible refine below_regrown_up _ _ ?_ ?_) | (with_reducible refine Below.alloc ?_ ?_ _) | (with_reducible refine Below.setCell ?_ ?_ _) | (with_reducible refine below_up ?_ ?_ (by assumption)) | (with_reducible exact Nat.le_refl _) | omega | (simp; done) | (simp; omega)))⟩
      case measure => simp [intOf]; omega
    · obtain rfl : m = l.length := by omega
      obtain ⟨w5, hw5⟩ : ∃ w5, w5 = wr := ⟨_, rfl⟩
      subst hw5
      go_wp2_with fail
      go_loopw [5, 6, 9] (fun av mv i wr => ∃ (m : Nat) (at_ many : Int), m ≤ l.length ∧ i = .int .i64 m ∧ av = .int .i64 at_ ∧ mv = .int .i64 many ∧ Hid (MR l (l.take m) at_ many) ∧ Below w.heap.size w wr) (fun _ _ i _ => l.length - (intOf i).toNat)
      case atStart => exact ⟨0, 0, 0, by omega, rfl, rfl, rfl, Lib.hid (.inl ⟨rfl, rfl, rfl⟩), hbw⟩
      case round =>
        obtain ⟨m, at_, many, hm, rfl, rfl, rfl, hmr, hbw⟩ := hrel
        have hbz := hbw.size
        by_cases hlt : m < l.length
        · have hx1 : (m : Int) < (l.length : Int) := by omega
          have hx4 : (0 : Int) ≤ (m : Int) := by omega
          obtain ⟨b, off, rfl, hbl, hcell⟩ := (hs.below hbw).at_ hlt
          have q0 := hcell 0 _ rfl
          have q1 := hcell 1 _ rfl
          rw [Nat.add_zero] at q0
          clear hcell
          have HT : Hid (l.take (m + 1) = l.take m ++ [l[m]]) := Lib.hid (List.take_succ_eq_append_getElem hlt)
          have hdp := deep_pos (List.getElem_mem hlt) (HALL.out _ (List.getElem_mem hlt))
          have HD := fun W hW => deep_any l (some ⟨b, off, none⟩) c l[m].frm W (hs.up hW) hl0
          have hdb := deep_bd l l[m].frm
          have HYES := Lib.hid (mr_yes (x := l[m]) hmr.out hdp)
          have HNO := Lib.hid (mr_no (x := l[m]) hmr.out hdp)
          obtain ⟨n, hn⟩ : ∃ n, deep l l[m].frm = n := ⟨_, rfl⟩
          rw [hn] at hdp hdb HYES HNO
          cases d1 : decide (many < n) <;> cases d2 : (n == many) <;> cases d3 : decide (l[m].frm < at_)
          all_goals
            go_wp2_with (go_at_call 28; refine (HD _ hbw).mono ?_; rintro e w1 ⟨rfl, hb1⟩; have hz1 := hb1.size; (try simp only [World.size_alloc, World.size_setCell, World.size_drew, size_drewN', size_grow, size_redrawn] at hz1); obtain ⟨hc1, hf1⟩ := bcellB (B := w.heap.size) hb1 (by first | omega | (simp only [World.size_alloc, World.size_setCell, World.size_drew, size_drewN', size_grow, size_redrawn]; omega)); rw [hn])
            go_roundw
            case rel =>
              simp only [decide_eq_true_eq, decide_eq_false_iff_not, beq_iff_eq, beq_eq_false_iff_ne] at d1 d2 d3
              first
                | exact ⟨m + 1, l[m].frm, n, by omega, by go_num, rfl, rfl, Lib.hid (by rw [HT.out]; exact HYES.out (by unfold better; omega)), below_up hbw hbz hb1⟩
                | exact ⟨m + 1, at_, many, by omega, by go_num, rfl, rfl, Lib.hid (by rw [HT.out]; exact HNO.out (by unfold better; omega)), below_up hbw hbz hb1⟩
            case measure => simp [intOf]; omega
        · obtain rfl : m = l.length := by omega
          have hm9 := hmr.out
          rw [List.take_of_length_le (Nat.le_refl _)] at hm9
          have HM := Lib.hid (mr_end hm9)
          clear hm9
          go_wp2
          go_ret3
          exact ⟨⟨_, _, rfl, HM.out⟩, hbw⟩
end Go.Proofs.Ytcfiiinlidicaaa
