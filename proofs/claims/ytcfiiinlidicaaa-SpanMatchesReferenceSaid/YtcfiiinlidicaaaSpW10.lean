/-
  Package span: Most.
-/
import Derived.Test.YtcfiiinlidicaaaSpW9
namespace Go.Proofs.Ytcfiiinlidicaaa
set_option linter.unusedSimpArgs false
set_option linter.unusedVariables false
open Go.RowKit
open Go.Sort (grow size_grow)

set_option maxHeartbeats 1000000
set_option maxRecDepth 100000
theorem sumS_bd : ∀ {l : List E3}, (∀ x ∈ l, x.2.2 = 1 ∨ x.2.2 = -1) → -(l.length : Int) ≤ sumS l ∧ sumS l ≤ l.length
  | [], _ => by simp [sumS]
  | x :: l, h => by
    have ih := sumS_bd (l := l) (fun y hy => h y (by simp [hy]))
    have hx := h x (by simp)
    have e : sumS (x :: l) = x.2.2 + sumS l := by simp [sumS]
    rw [e, List.length_cons]
    omega
theorem most_bad (l : List Spn) (A : Option Addr) (c : Nat) (w : World) (hs : SlSpn w A l) (hl0 : l.length ≤ 140737488355328) (h : ¬ (l.length ≤ 3000 ∧ l.all Spn.ok = true)) :
    Calls Try.prog 22 #[.slice A l.length c] w fun e w' => e = .returned (.tuple #[.int .i64 0, .int .i64 0, .int .i64 1]) ∧ Below w.heap.size w w' := by
  by_cases h3 : 3000 < l.length
  · have h3' : decide ((3000 : Int) < (l.length : Int)) = true := by simp; omega
    have h4 : (3000 : Int) < (l.length : Int) := by omega
    clear h
    go_enter Try.func22, Try.ntmps22
    go_wp2_with fail
    go_ret3
    exact ⟨rfl, Below.refl _ _⟩
  · have hall : l.all Spn.ok = false := by
      rw [← Bool.not_eq_true]; intro e; exact h ⟨by omega, e⟩
    have h3' : decide ((3000 : Int) < (l.length : Int)) = false := by simp; omega
    have h4 : ¬ (3000 : Int) < (l.length : Int) := by omega
    clear h
    go_enter Try.func22, Try.ntmps22
    go_wp2_with (go_at_call 37; refine (con_any l A c _ hs hl0).mono ?_; rintro e w1 ⟨rfl, hb1⟩; have hz1 := hb1.size; (try simp only [World.size_alloc, World.size_setCell, World.size_drew, size_drewN', size_grow, size_redrawn] at hz1); obtain ⟨hc1, hf1⟩ := bcellB (B := w.heap.size) hb1 (by first | omega | (simp only [World.size_alloc, World.size_setCell, World.size_drew, size_drewN', size_grow, size_redrawn]; omega)); rw [hall])
    go_ret3
    exact ⟨rfl, hb1⟩
theorem most_any (l : List Spn) (A : Option Addr) (c : Nat) (w : World) (hs : SlSpn w A l) (h3 : l.length ≤ 3000) (hall : l.all Spn.ok = true) :
    Calls Try.prog 22 #[.slice A l.length c] w fun e w' => (∃ at_ many : Int, e = .returned (.tuple #[.int .i64 at_, .int .i64 many, .int .i64 0]) ∧ IsMost l at_ many) ∧ Below w.heap.size w w' := by
  have hl0 : l.length ≤ 140737488355328 := by omega
  have h3' : decide ((3000 : Int) < (l.length : Int)) = false := by simp; omega
  have h4 : ¬ (3000 : Int) < (l.length : Int) := by omega
  have hel : (endsOf l 0).length ≤ 1000000000 := by rw [endsOf_len]; omega
  have HALL := Lib.hid (List.all_eq_true.1 hall)
  go_enter Try.func22, Try.ntmps22
  go_wp2_with (first | (go_at_call 37; refine (con_any l A c _ hs hl0).mono ?_; rintro e w1 ⟨rfl, hb1⟩; have hz1 := hb1.size; (try simp only [World.size_alloc, World.size_setCell, World.size_drew, size_drewN', size_grow, size_redrawn] at hz1); obtain ⟨hc1, hf1⟩ := bcellB (B := w.heap.size) hb1 (by first | omega | (simp only [World.size_alloc, World.size_setCell, World.size_drew, size_drewN', size_grow, size_redrawn]; omega)); rw [hall]) | (go_at_call 38; refine (ends_any l A c 0 _ (hs.up hb1) (by omega)).mono ?_; rintro e w2 ⟨⟨v2, rfl, hown2⟩, hb2⟩) | (go_at_call 39; refine (sort_own cmp_deep swo_deep hown2 hel).mono ?_; rintro e w3 ⟨rfl, ⟨q, hqp, hqs, A3, c3, hv, hs3, _⟩, hb3⟩; subst hv))
  have hz2 := hb2.size
  have hb13 : Below w1.heap.size w1 w3 := hb2.trans hb3
  have hB3 := below_up hb1 hz1 hb13
  have HMO : Hid (IsMost l (mostS q).2.1 (mostS q).2.2) := Lib.hid (most_ok HALL.out hqp (hqs.imp fun h => by rw [lt_deep, decide_eq_false_iff_not] at h; omega))
  have HSG : Hid (∀ x ∈ q, x.2.2 = 1 ∨ x.2.2 = -1) := Lib.hid fun x hx => by
    obtain ⟨s, _, rfl | rfl⟩ := endsOf_mem (hqp.mem_iff.1 hx) <;> simp
  have hql : q.length ≤ 6000 := by rw [hqp.length_eq, endsOf_len]; omega
  clear hqp hqs hown2 hel
  go_loopw [2, 3, 6, 22] (fun av mv dv i wr => ∃ m : Nat, m ≤ q.length ∧ i = .int .i64 m ∧ av = .int .i64 (mostS (q.take m)).2.1 ∧ mv = .int .i64 (mostS (q.take m)).2.2 ∧ dv = .int .i64 (mostS (q.take m)).1 ∧ Below w3.heap.size w3 wr) (fun _ _ _ i _ => q.length - (intOf i).toNat)
  case atStart => exact ⟨0, by omega, rfl, rfl, rfl, rfl, Below.refl _ _⟩
  case round =>
    obtain ⟨m, hm, rfl, rfl, rfl, rfl, hbw⟩ := hrel
    have hbz := hbw.size
    by_cases hlt : m < q.length
    · have hx1 : (m : Int) < (q.length : Int) := by omega
      have hx4 : (0 : Int) ≤ (m : Int) := by omega
      obtain ⟨b, off, rfl, hbl, hcell⟩ := (hs3.below hbw).at_ hlt
      have r0 := hcell 0 _ rfl
      have r1 := hcell 1 _ rfl
      have r2 := hcell 2 _ rfl
      rw [Nat.add_zero] at r0
      clear hcell
      have hbd := sumS_bd (l := q.take m) (fun x hx => HSG.out x (List.mem_of_mem_take hx))
      rw [← (mInv (q.take m)).dp, List.length_take] at hbd
      have hsg := HSG.out _ (List.getElem_mem hlt)
      have HSN : Hid (mostS (q.take (m + 1)) = mStep (mostS (q.take m)) q[m]) := Lib.hid (by rw [List.take_succ_eq_append_getElem hlt, mostS_snoc])
      generalize q[m] = x at *
      generalize mostS (q.take m) = st at *
      obtain ⟨dp, at_, many⟩ := st
      obtain ⟨xp, xm, xs⟩ := x
      simp only at *
      have hwk : IntKind.i64.wrap (dp + xs) = dp + xs := IntWalk.i64_in _ (by omega)
      by_cases hgt : many < dp + xs
      · have hgb : decide (many < dp + xs) = true := by simpa using hgt
        have HS2 : Hid (mostS (q.take (m + 1)) = (dp + xs, xp, dp + xs)) := Lib.hid (by rw [HSN.out]; unfold mStep; exact if_pos hgt)
        clear hgt
        go_wp2_with fail
        go_roundw
        case rel => exact ⟨m + 1, by omega, by go_num, by rw [HS2.out], by rw [HS2.out], by rw [HS2.out], (by repeat' (first | (with_reducible exact Below.refl _ _) | (with_reducible assumption) | (with_reducible refine below_drewN ?_ _) | (with_reducible refine Below.drew ?_) | (with_reducible refine below_regrown_up _ _ ?_ ?_) | (with_reducible refine Below.alloc ?_ ?_ _) | (with_reducible refine Below.setCell ?_ ?_ _) | (with_reducible refine below_up ?_ ?_ (by assumption)) | (with_reducible exact Nat.le_refl _) | omega | (simp; done) | (simp; omega)))⟩
        case measure => simp [intOf]; omega
      · have hgb : decide (many < dp + xs) = false := by simpa using hgt
        have HS2 : Hid (mostS (q.take (m + 1)) = (dp + xs, at_, many)) := Lib.hid (by rw [HSN.out]; unfold mStep; exact if_neg hgt)
        clear hgt
        go_wp2_with fail
        go_roundw
        case rel => exact ⟨m + 1, by omega, by go_num, by rw [HS2.out], by rw [HS2.out], by rw [HS2.out], (by repeat' (first | (with_reducible exact Below.refl _ _) | (with_reducible assumption) | (with_reducible refine below_drewN ?_ _) | (with_reducible refine Below.drew ?_) | (with_reducible refine below_regrown_up _ _ ?_ ?_) | (with_reducible refine Below.alloc ?_ ?_ _) | (with_reducible refine Below.setCell ?_ ?_ _) | (with_reducible refine below_up ?_ ?_ (by assumption)) | (with_reducible exact Nat.le_refl _) | omega | (simp; done) | (simp; omega)))⟩
        case measure => simp [intOf]; omega
    · obtain rfl : m = q.length := by omega
      rw [List.take_of_length_le (Nat.le_refl _)]
      go_wp2
      go_ret3
      exact ⟨⟨_, _, rfl, HMO.out⟩, below_up hB3 hB3.size hbw⟩
end Go.Proofs.Ytcfiiinlidicaaa
