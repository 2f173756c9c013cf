/-
  Package span and its reference: numbers in spans; counting; the next end.
-/
import Derived.Test.YtphapnooonjnmaaSpW1
namespace Go.Proofs.Ytphapnooonjnmaa
set_option linter.unusedSimpArgs false
set_option linter.unusedVariables false
open Go.RowKit
open Go.Sort (grow size_grow)

set_option maxHeartbeats 2000000
set_option maxRecDepth 100000
theorem has_at {l : List Spn} {m : Nat} {n : Int} (hm : m < l.length) (h : inS l[m] n = true) : has l n = true := has_iff.2 ⟨_, List.getElem_mem hm, inS_iff.1 h⟩
theorem has_none {l : List Spn} {n : Int} (h : ∀ j (h : j < l.length), inS l[j] n = false) : has l n = false := has_no.2 fun s hs => by
  obtain ⟨j, hj, rfl⟩ := List.getElem_of_mem hs
  exact inS_no.1 (h j hj)
def deep (l : List Spn) (n : Int) : Int := ((l.filter (inS · n)).length : Int)
theorem deep_step {l : List Spn} {n : Int} {m : Nat} (h : m < l.length) : deep (l.take (m + 1)) n = deep (l.take m) n + if inS l[m] n = true then 1 else 0 := by
  unfold deep
  rw [List.take_succ_eq_append_getElem h, List.filter_append, List.length_append]
  cases hd : inS l[m] n
  · simp [hd]
  · simp [hd]
theorem deep_bd (l : List Spn) (n : Int) : 0 ≤ deep l n ∧ deep l n ≤ l.length := by
  unfold deep
  have := List.length_filter_le (inS · n) l
  omega
theorem has_any (l : List Spn) (A : Option Addr) (c : Nat) (n : Int) (w : World) (hs : SlSpn w A l) (hl : l.length ≤ 140737488355328) :
    Calls Try.prog 57 #[.slice A l.length c, .int .i64 n] w fun e w' => e = .returned (.bool (has l n)) ∧ Below w.heap.size w w' := by
  go_enter Try.func57, Try.ntmps57
  go_wp2
  go_loopw [5] (fun i wr => ∃ m : Nat, m ≤ l.length ∧ i = .int .i64 m ∧ Hid (∀ j (h : j < l.length), j < m → inS l[j] n = false) ∧ Below w.heap.size w wr) (fun i _ => l.length - (intOf i).toNat)
  case atStart => exact ⟨0, by omega, rfl, Lib.hid (fun j _ h => absurd h (by omega)), Below.refl _ _⟩
  case round =>
    obtain ⟨m, hm, rfl, hn1, hbw⟩ := hrel
    have hbz := hbw.size
    by_cases hlt : m < l.length
    · have hx1 : (m : Int) < (l.length : Int) := by omega
      have hx4 : (0 : Int) ≤ (m : Int) := by omega
      obtain ⟨b, off, rfl, hbl, hcell⟩ := (hs.below hbw).at_ hlt
      have q0 := hcell 0 _ rfl
      have q1 := hcell 1 _ rfl
      rw [Nat.add_zero] at q0
      clear hcell
      cases c1 : decide (l[m].frm ≤ n) <;> cases c2 : decide (n < l[m].til)
      case true.true =>
        go_wp2_with fail
        go_ret
        refine ⟨ret_bool ?_, ?_⟩
        · rw [decide_eq_true_eq] at c1 c2
          exact (has_at hlt (inS_iff.2 ⟨c1, c2⟩)).symm
        · repeat' (first
            | (with_reducible exact Below.refl _ _)
            | (with_reducible assumption)
            | (with_reducible refine below_drewN ?_ _)
            | (with_reducible refine Below.drew ?_)
            | (with_reducible refine below_regrown_up _ _ ?_ ?_)
            | (with_reducible refine Below.alloc ?_ ?_ _)
            | (with_reducible refine Below.setCell ?_ ?_ _)
            | (with_reducible refine below_up ?_ ?_ (by assumption))
            | (with_reducible exact Nat.le_refl _)
            | omega
            | (simp; done)
            | (simp; omega))
      all_goals
        go_wp2_with fail
        go_roundw
        case rel =>
          refine ⟨m + 1, by omega, by go_num, Lib.hid (fun j h hj => ?_), ?_⟩
          · simp only [decide_eq_true_eq, decide_eq_false_iff_not] at c1 c2
            by_cases e : j = m
            · subst e; exact inS_no.2 (by omega)
            · exact hn1.out j h (by omega)
          · repeat' (first
              | (with_reducible exact Below.refl _ _)
              | (with_reducible assumption)
              | (with_reducible refine below_drewN ?_ _)
              | (with_reducible refine Below.drew ?_)
              | (with_reducible refine below_regrown_up _ _ ?_ ?_)
              | (with_reducible refine Below.alloc ?_ ?_ _)
              | (with_reducible refine Below.setCell ?_ ?_ _)
              | (with_reducible refine below_up ?_ ?_ (by assumption))
              | (with_reducible exact Nat.le_refl _)
              | omega
              | (simp; done)
              | (simp; omega))
        case measure => simp [intOf]; omega
    · obtain rfl : m = l.length := by omega
      go_wp2
      go_ret
      exact ⟨ret_bool (has_none fun j h => hn1.out j h h).symm, hbw⟩
theorem spn_eq {s t : Spn} : s = t ↔ s.frm = t.frm ∧ s.til = t.til := by
  cases s; cases t; simp
theorem same_any (xs ys : List Spn) (A B : Option Addr) (c d : Nat) (w : World) (hx : SlSpn w A xs) (hy : SlSpn w B ys) (hl1 : xs.length ≤ 140737488355328) (hl2 : ys.length ≤ 140737488355328) :
    Calls Try.prog 27 #[.slice A xs.length c, .slice B ys.length d] w fun e w' => e = .returned (.bool (decide (xs = ys))) ∧ Below w.heap.size w w' := by
  by_cases hlen : xs.length = ys.length
  · have hb : ((xs.length : Int) != (ys.length : Int)) = false := by rw [bne_eq_false_iff_eq]; omega
    have hbn : (xs.length != ys.length) = false := by simpa using hlen
    have HL := Lib.hid hlen
    have hi1 : (xs.length : Int) ≤ ys.length := by omega
    have hi2 : (ys.length : Int) ≤ xs.length := by omega
    clear hlen
    go_enter Try.func27, Try.ntmps27
    go_wp2
    go_loopw [5] (fun k wr => ∃ m : Nat, m ≤ xs.length ∧ k = .int .i64 m ∧ Hid (xs.take m = ys.take m) ∧ Below w.heap.size w wr) (fun k _ => xs.length - (intOf k).toNat)
    case atStart => exact ⟨0, by omega, rfl, Lib.hid rfl, Below.refl _ _⟩
    case round =>
      obtain ⟨m, hm, rfl, hn, hbw⟩ := hrel
      have hbz := hbw.size
      by_cases hlt : m < xs.length
      · have hlt2 : m < ys.length := by have := HL.out; omega
        obtain ⟨b1, off1, rfl, hbl1, hcell1⟩ := (hx.below hbw).at_ hlt
        obtain ⟨b2, off2, rfl, hbl2, hcell2⟩ := (hy.below hbw).at_ hlt2
        have q0 := hcell1 0 _ rfl
        have q1 := hcell1 1 _ rfl
        rw [Nat.add_zero] at q0
        have p0 := hcell2 0 _ rfl
        have p1 := hcell2 1 _ rfl
        rw [Nat.add_zero] at p0
        clear hcell1 hcell2
        have hx1 : (m : Int) < (xs.length : Int) := by omega
        have hx2 : (m : Int) < (ys.length : Int) := by omega
        have hx4 : (0 : Int) ≤ (m : Int) := by omega
        by_cases he : xs[m] = ys[m]
        · have h1 := congrArg Spn.frm he
          have h2 := congrArg Spn.til he
          rw [← h1] at p0
          rw [← h2] at p1
          have HE := Lib.hid he
          clear he h1 h2
          go_wp2_with fail
          go_quiet (fail)
          go_wp2_with fail
          go_roundw
          case rel =>
            refine ⟨m + 1, by omega, by go_num, Lib.hid ?_, ?_⟩
            · rw [List.take_succ_eq_append_getElem hlt, List.take_succ_eq_append_getElem hlt2, hn.out, HE.out]
            · repeat' (first
                | (with_reducible exact Below.refl _ _)
                | (with_reducible assumption)
                | (with_reducible refine below_drewN ?_ _)
                | (with_reducible refine Below.drew ?_)
                | (with_reducible refine below_regrown_up _ _ ?_ ?_)
                | (with_reducible refine Below.alloc ?_ ?_ _)
                | (with_reducible refine Below.setCell ?_ ?_ _)
                | (with_reducible refine below_up ?_ ?_ (by assumption))
                | (with_reducible exact Nat.le_refl _)
                | omega
                | (simp; done)
                | (simp; omega))
          case measure => simp [intOf]; omega
        · have HE := Lib.hid he
          have he2 := mt spn_eq.2 he
          clear he
          cases c1 : decide (xs[m].frm = ys[m].frm) <;> cases c2 : decide (xs[m].til = ys[m].til)
          case true.true =>
            rw [decide_eq_true_eq] at c1 c2
            exact absurd ⟨c1, c2⟩ he2
          all_goals
            clear he2
            go_wp2_with fail
            go_quiet (fail)
            go_wp2_with fail
            go_ret
            refine ⟨ret_bool ?_, ?_⟩
            · symm
              rw [decide_eq_false_iff_not]
              intro e
              exact HE.out (List.getElem_of_eq e hlt)
            · repeat' (first
                | (with_reducible exact Below.refl _ _)
                | (with_reducible assumption)
                | (with_reducible refine below_drewN ?_ _)
                | (with_reducible refine Below.drew ?_)
                | (with_reducible refine below_regrown_up _ _ ?_ ?_)
                | (with_reducible refine Below.alloc ?_ ?_ _)
                | (with_reducible refine Below.setCell ?_ ?_ _)
                | (with_reducible refine below_up ?_ ?_ (by assumption))
                | (with_reducible exact Nat.le_refl _)
                | omega
                | (simp; done)
                | (simp; omega))
      · obtain rfl : m = xs.length := by omega
        go_wp2
        go_ret
        refine ⟨ret_bool ?_, hbw⟩
        symm
        rw [decide_eq_true_eq]
        have := hn.out
        rw [List.take_of_length_le (Nat.le_refl _), List.take_of_length_le (by have := HL.out; omega)] at this
        exact this
  · have hb : ((xs.length : Int) != (ys.length : Int)) = true := by rw [bne_iff_ne]; omega
    have hbn : (xs.length != ys.length) = true := by simpa using hlen
    have HL := Lib.hid hlen
    clear hlen
    go_enter Try.func27, Try.ntmps27
    go_wp2
    go_ret
    refine ⟨ret_bool ?_, Below.refl _ _⟩
    symm
    rw [decide_eq_false_iff_not]
    exact fun e => HL.out (by rw [e])
end Go.Proofs.Ytphapnooonjnmaa
