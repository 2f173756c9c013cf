/-
  The reference of package span: Most of what is not well-formed; which lists are usable.
-/
import Derived.Test.YtcfiiinlidicaaaSpW11
import Derived.Test.YtcfiiinlidicaaaSpW8
namespace Go.Proofs.Ytcfiiinlidicaaa
set_option linter.unusedSimpArgs false
set_option linter.unusedVariables false
open Go.RowKit
open Go.Sort (grow size_grow)

set_option maxHeartbeats 1000000
set_option maxRecDepth 100000
theorem rmost_bad (l : List Spn) (A : Option Addr) (c : Nat) (w : World) (hs : SlSpn w A l) (hl0 : l.length ≤ 140737488355328) (h : ¬ (l.length ≤ 3000 ∧ l.all Spn.ok = true)) :
    Calls Try.prog 23 #[.slice A l.length c] w fun e w' => e = .returned (.tuple #[.int .i64 0, .int .i64 0, .int .i64 1]) ∧ Below w.heap.size w w' := by
  by_cases h3 : 3000 < l.length
  · have h3' : decide ((3000 : Int) < (l.length : Int)) = true := by simp; omega
    have h4 : (3000 : Int) < (l.length : Int) := by omega
    clear h
    go_enter Try.func23, Try.ntmps23
    go_wp2_with fail
    go_ret3
    exact ⟨rfl, Below.refl _ _⟩
  · have hall : l.all Spn.ok ≠ true := fun e => h ⟨by omega, e⟩
    have h3' : decide ((3000 : Int) < (l.length : Int)) = false := by simp; omega
    have h4 : ¬ (3000 : Int) < (l.length : Int) := by omega
    have HALL := Lib.hid hall
    clear h hall
    go_enter Try.func23, Try.ntmps23
    go_wp2
    go_loopw [7] (fun i wr => ∃ m : Nat, m ≤ l.length ∧ i = .int .i64 m ∧ Hid (∀ j (h : j < l.length), j < m → l[j].ok = true) ∧ Below w.heap.size w wr) (fun i _ => l.length - (intOf i).toNat)
    case atStart => exact ⟨0, by omega, rfl, Lib.hid (fun j _ h => absurd h (by omega)), Below.refl _ _⟩
    case round =>
      obtain ⟨m, hm, rfl, hn, hbw⟩ := hrel
      have hbz := hbw.size
      by_cases hlt : m < l.length
      · have hx1 : (m : Int) < (l.length : Int) := by omega
        have hx4 : (0 : Int) ≤ (m : Int) := by omega
        obtain ⟨b, off, rfl, hbl, hcell⟩ := (hs.below hbw).at_ hlt
        have q0 := hcell 0 _ rfl
        have q1 := hcell 1 _ rfl
        rw [Nat.add_zero] at q0
        clear hcell
        cases hok : l[m].ok
        · go_wp2_with (go_at_call 31; refine (rspan_any l[m] _).mono ?_; rintro e w1 ⟨rfl, hb1⟩; have hz1 := hb1.size; (try simp only [World.size_alloc, World.size_setCell, World.size_drew, size_drewN', size_grow, size_redrawn] at hz1); obtain ⟨hc1, hf1⟩ := bcellB (B := w.heap.size) hb1 (by first | omega | (simp only [World.size_alloc, World.size_setCell, World.size_drew, size_drewN', size_grow, size_redrawn]; omega)); rw [hok])
          go_ret3
          exact ⟨rfl, below_up hbw hbz hb1⟩
        · go_wp2_with (go_at_call 31; refine (rspan_any l[m] _).mono ?_; rintro e w1 ⟨rfl, hb1⟩; have hz1 := hb1.size; (try simp only [World.size_alloc, World.size_setCell, World.size_drew, size_drewN', size_grow, size_redrawn] at hz1); obtain ⟨hc1, hf1⟩ := bcellB (B := w.heap.size) hb1 (by first | omega | (simp only [World.size_alloc, World.size_setCell, World.size_drew, size_drewN', size_grow, size_redrawn]; omega)); rw [hok])
          go_roundw
          case rel =>
            refine ⟨m + 1, by omega, by go_num, Lib.hid (fun j h hj => ?_), below_up hbw hbz hb1⟩
            by_cases e : j = m
            · subst e; exact hok
            · exact hn.out j h (by omega)
          case measure => simp [intOf]; omega
      · exfalso
        refine HALL.out (List.all_eq_true.2 fun s hs => ?_)
        obtain ⟨j, hj, rfl⟩ := List.getElem_of_mem hs
        exact hn.out j hj (by omega)
def use02 (a b : List Spn) : Bool := decide (a.length + b.length ≤ 60) && setOk a && setOk b
theorem use02_iff {a b : List Spn} : use02 a b = true ↔ a.length + b.length ≤ 60 ∧ setOk a = true ∧ setOk b = true := by
  unfold use02
  rw [Bool.and_eq_true, Bool.and_eq_true, decide_eq_true_eq, and_assoc]
theorem usable_any (a b : List Spn) (A B : Option Addr) (c d : Nat) (w : World) (ha : SlSpn w A a) (hb : SlSpn w B b) (hla : a.length ≤ 140737488355328) (hlb : b.length ≤ 140737488355328) :
    Calls Try.prog 26 #[.slice A a.length c, .slice B b.length d] w fun e w' => e = .returned (.bool (use02 a b)) ∧ Below w.heap.size w w' := by
  have HU : Hid (use02 a b = (decide (a.length + b.length ≤ 60) && setOk a && setOk b)) := Lib.hid rfl
  have hwr : IntKind.i64.wrap ((a.length : Int) + (b.length : Int)) = (a.length : Int) + (b.length : Int) := IntWalk.i64_in _ (by omega)
  by_cases h6 : a.length + b.length ≤ 60
  · have h7 : (a.length : Int) + (b.length : Int) ≤ 60 := by omega
    have h8 : decide ((a.length : Int) + (b.length : Int) ≤ 60) = true := by simpa using h7
    cases hva : setOk a
    · go_enter Try.func26, Try.ntmps26
      go_wp2_with fail
      refine (rvalid_any a A c _ ha hla).mono ?_
      rintro e w1 ⟨rfl, hb1⟩; have hz1 := hb1.size; (try simp only [World.size_alloc, World.size_setCell, World.size_drew, size_drewN', size_grow, size_redrawn] at hz1); obtain ⟨hc1, hf1⟩ := bcellB (B := w.heap.size) hb1 (by first | omega | (simp only [World.size_alloc, World.size_setCell, World.size_drew, size_drewN', size_grow, size_redrawn]; omega))
      rw [hva]
      go_wp2_with fail
      go_ret
      exact ⟨ret_bool (by rw [HU.out, hva]; simp), hb1⟩
    · cases hvb : setOk b
      all_goals
        go_enter Try.func26, Try.ntmps26
        go_wp2_with fail
        refine (rvalid_any a A c _ ha hla).mono ?_
        rintro e w1 ⟨rfl, hb1⟩; have hz1 := hb1.size; (try simp only [World.size_alloc, World.size_setCell, World.size_drew, size_drewN', size_grow, size_redrawn] at hz1); obtain ⟨hc1, hf1⟩ := bcellB (B := w.heap.size) hb1 (by first | omega | (simp only [World.size_alloc, World.size_setCell, World.size_drew, size_drewN', size_grow, size_redrawn]; omega))
        rw [hva]
        go_wp2_with fail
        refine (rvalid_any b B d _ (hb.up hb1) hlb).mono ?_
        rintro e w2 ⟨rfl, hb2⟩; have hz2 := hb2.size; (try simp only [World.size_alloc, World.size_setCell, World.size_drew, size_drewN', size_grow, size_redrawn] at hz2); obtain ⟨hc2, hf2⟩ := bcellB (B := w.heap.size) hb2 (by first | omega | (simp only [World.size_alloc, World.size_setCell, World.size_drew, size_drewN', size_grow, size_redrawn]; omega))
        rw [hvb]
        go_wp2_with fail
        go_ret
        exact ⟨ret_bool (by rw [HU.out, hva, hvb]; simp [h6]), below_up hb1 hz1 hb2⟩
  · have h7 : ¬ (a.length : Int) + (b.length : Int) ≤ 60 := by omega
    have h8 : decide ((a.length : Int) + (b.length : Int) ≤ 60) = false := by simpa using h7
    go_enter Try.func26, Try.ntmps26
    go_wp2_with fail
    go_ret
    exact ⟨ret_bool (by rw [HU.out]; simp [h6]), Below.refl _ _⟩
end Go.Proofs.Ytcfiiinlidicaaa
