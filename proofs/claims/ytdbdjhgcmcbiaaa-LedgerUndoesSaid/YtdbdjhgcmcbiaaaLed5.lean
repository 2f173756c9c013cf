/-
  Contracts of the reference of package ledger: balances.
-/
import Derived.Test.YtdbdjhgcmcbiaaaLed4
namespace Go.Proofs.Ytdbdjhgcmcbiaaa
set_option linter.unusedSimpArgs false
set_option linter.unusedVariables false
open Go.RowKit
open Go.Sort (grow size_grow)

set_option maxHeartbeats 2000000
set_option maxRecDepth 100000
theorem bal_snoc {p : Int → Bool} {l : List Entry} {m : Nat} {day : Int} (h : m < l.length) : bal p (l.take (m + 1)) day = bal p (l.take m) day + (if l[m].day ≤ day then mv p l[m] else 0) := by
  rw [List.take_succ_eq_append_getElem h, bal_append]
  congr 1
  unfold bal upto mvs
  by_cases hd : l[m].day ≤ day
  · rw [List.filter_cons, if_pos (by simpa using hd), if_pos hd]
    simp
  · rw [List.filter_cons, if_neg (by simpa using hd), if_neg hd]
    simp
theorem bal_take_bd (p : Int → Bool) {l : List Entry} {m : Nat} {day : Int} (h : ∀ e ∈ l, e.ok = true) (hm : m ≤ l.length) : -(1000000000 * (m : Int)) ≤ bal p (l.take m) day ∧ bal p (l.take m) day ≤ 1000000000 * (m : Int) := by
  have h1 := mvs_bd p (l := upto (l.take m) day) (fun e he => h e (List.mem_of_mem_take (upto_mem he)))
  have h2 := upto_len (l.take m) day
  rw [List.length_take] at h2
  unfold bal
  omega
theorem bal_congr {p q : Int → Bool} (h : ∀ a, p a = q a) (l : List Entry) (day : Int) : bal p l day = bal q l day := by
  have : p = q := funext h
  rw [this]
theorem inB_self (a x : Int) : inB a x x = (a == x) := by
  rw [Bool.eq_iff_iff, inB_iff, beq_iff_eq]
  omega

theorem rbalance0_any (l : List Entry) (A : Option Addr) (c : Nat) (lo hi day : Int) (w : World) (hs : SlEnt w A l) (hk : ledOk l = true) :
    Calls Try.prog 63 #[.slice A l.length c, .int .i64 lo, .int .i64 hi, .int .i64 day] w fun e w' => e = .returned (.int .i64 (bal (fun a => inB a lo hi) l day)) ∧ Below w.heap.size w w' := by
  obtain ⟨hl, hall, _⟩ := ledOk_iff.1 hk
  have HALL := Lib.hid hall
  clear hall hk
  go_enter Try.func63, Try.ntmps63
  go_wp2
  go_loopw [9, 10] (fun s i wr => ∃ m : Nat, m ≤ l.length ∧ i = .int .i64 m ∧ s = .int .i64 (bal (fun a => inB a lo hi) (l.take m) day) ∧ Below w.heap.size w wr) (fun _ i _ => l.length - (intOf i).toNat)
  case atStart => exact ⟨0, by omega, rfl, rfl, Below.refl _ _⟩
  case round =>
    obtain ⟨m, hm, rfl, rfl, hbw⟩ := hrel
    have hbz := hbw.size
    by_cases hlt : m < l.length
    · have hx1 : (m : Int) < (l.length : Int) := by omega
      have hx4 : (0 : Int) ≤ (m : Int) := by omega
      obtain ⟨b, off, rfl, hbl, hcell⟩ := (hs.below hbw).at_ hlt
      have q0 := hcell 0 _ rfl
      have q1 := hcell 1 _ rfl
      have q2 := hcell 2 _ rfl
      have q3 := hcell 3 _ rfl
      have q4 := hcell 4 _ rfl
      rw [Nat.add_zero] at q0
      clear hcell
      have hsn := bal_snoc (p := fun a => inB a lo hi) (day := day) hlt
      have hbd := bal_take_bd (fun a => inB a lo hi) (day := day) HALL.out hm
      have hc := (Entry.ok_iff.1 (HALL.out _ (List.getElem_mem hlt))).2.2.2.2.1
      obtain ⟨hbd1, hbd2⟩ := hbd
      obtain ⟨hc1, hc2⟩ := hc
      have HSN := Lib.hid hsn
      clear hsn
      generalize hS : bal (fun a => inB a lo hi) (l.take m) day = S at *
      clear hS
      by_cases hd : day < l[m].day
      · go_wp2_with fail
        go_roundw
        case rel =>
          refine ⟨m + 1, by omega, by go_num, ?_, hbw⟩
          rw [HSN.out, if_neg (by omega)]
          simp
        case measure => simp [intOf]; omega
      · have hd' : l[m].day ≤ day := by omega
        clear hd
        cases hb1 : inB l[m].debit lo hi <;> cases hb2 : inB l[m].credit lo hi
        all_goals
          go_wp2_with (go_at_call 62; refine (r28_in_any _ _ _ _).mono ?_; rintro e w1 ⟨rfl, rfl⟩)
          go_roundw
          case rel =>
            refine ⟨m + 1, by omega, by go_num, ?_, hbw⟩
            rw [HSN.out, if_pos hd', mv, hb1, hb2]
            first | (simp; done) | (simp; omega)
          case measure => simp [intOf]; omega
    · obtain rfl : m = l.length := by omega
      rw [List.take_of_length_le (Nat.le_refl _)]
      go_wp2
      go_ret
      exact ⟨rfl, hbw⟩

theorem balR_cases (l : List Entry) (a day : Int) : ((!ledOk l || !inB a 100 999 || !inB day 0 366) = true ∧ balR l a day = (0, 1)) ∨ (ledOk l = true ∧ inB a 100 999 = true ∧ inB day 0 366 = true ∧ balR l a day = (bal (fun x => x == a) l day, 0)) := by
  unfold balR
  by_cases h1 : (!ledOk l || !inB a 100 999 || !inB day 0 366) = true
  · rw [if_pos h1]; exact .inl ⟨h1, rfl⟩
  · rw [if_neg h1]
    have h2 : (ledOk l = true ∧ inB a 100 999 = true) ∧ inB day 0 366 = true := by simpa using h1
    exact .inr ⟨h2.1.1, h2.1.2, h2.2, rfl⟩
theorem kindR_cases (l : List Entry) (a day : Int) : ((!ledOk l || !inB a 1 9 || !inB day 0 366) = true ∧ kindR l a day = (0, 1)) ∨ (ledOk l = true ∧ inB a 1 9 = true ∧ inB day 0 366 = true ∧ kindR l a day = (bal (ofKind a) l day, 0)) := by
  unfold kindR
  by_cases h1 : (!ledOk l || !inB a 1 9 || !inB day 0 366) = true
  · rw [if_pos h1]; exact .inl ⟨h1, rfl⟩
  · rw [if_neg h1]
    have h2 : (ledOk l = true ∧ inB a 1 9 = true) ∧ inB day 0 366 = true := by simpa using h1
    exact .inr ⟨h2.1.1, h2.1.2, h2.2, rfl⟩
theorem rbalance_any (l : List Entry) (A : Option Addr) (c : Nat) (a day : Int) (w : World) (hs : SlEnt w A l) (hl : l.length ≤ 140737488355328) :
    Calls Try.prog 32 #[.slice A l.length c, .int .i64 a, .int .i64 day] w fun e w' => e = .returned (.tuple #[.int .i64 (balR l a day).1, .int .i64 (balR l a day).2]) ∧ Below w.heap.size w w' := by
  rcases balR_cases l a day with ⟨h1, hr⟩ | ⟨h1, h2, h3, hr⟩
  · cases g1 : ledOk l <;> cases g2 : inB a 100 999 <;> cases g3 : inB day 0 366
    case true.true.true => rw [g1, g2, g3] at h1; simp at h1
    all_goals
      rw [hr]
      clear h1 hr
      go_enter Try.func32, Try.ntmps32
      go_wp2_with (first | (go_at_call 29; refine (rlvalid_any l A c _ hs hl).mono ?_; rintro e w1 ⟨rfl, hb1⟩; have hz1 := hb1.size; (try simp only [World.size_alloc, World.size_setCell, World.size_drew, size_drewN', size_grow, size_redrawn] at hz1); obtain ⟨hc1, hf1⟩ := bcellB (B := w.heap.size) hb1 (by first | omega | (simp only [World.size_alloc, World.size_setCell, World.size_drew, size_drewN', size_grow, size_redrawn]; omega))); rw [g1] | (go_at_call 61; refine (rAccount_any _ _).mono ?_; rintro e w2 ⟨rfl, rfl⟩) | (go_at_call 62; refine (r28_in_any _ _ _ _).mono ?_; rintro e w2 ⟨rfl, rfl⟩))
      go_ret2
      exact ⟨rfl, hb1⟩
  · rw [hr, bal_congr (fun x => (inB_self x a).symm)]
    clear hr
    go_enter Try.func32, Try.ntmps32
    go_wp2_with (first | (go_at_call 29; refine (rlvalid_any l A c _ hs hl).mono ?_; rintro e w1 ⟨rfl, hb1⟩; have hz1 := hb1.size; (try simp only [World.size_alloc, World.size_setCell, World.size_drew, size_drewN', size_grow, size_redrawn] at hz1); obtain ⟨hc1, hf1⟩ := bcellB (B := w.heap.size) hb1 (by first | omega | (simp only [World.size_alloc, World.size_setCell, World.size_drew, size_drewN', size_grow, size_redrawn]; omega))); rw [h1] | (go_at_call 61; refine (rAccount_any _ _).mono ?_; rintro e w2 ⟨rfl, rfl⟩) | (go_at_call 62; refine (r28_in_any _ _ _ _).mono ?_; rintro e w2 ⟨rfl, rfl⟩) | (go_at_call 63; refine (rbalance0_any l A c a a day _ (hs.up hb1) h1).mono ?_; rintro e w3 ⟨rfl, hb3⟩))
    go_ret2
    refine ⟨rfl, ?_⟩
    repeat' (first
      | (with_reducible exact Below.refl _ _)
      | (with_reducible assumption)
      | (with_reducible refine below_drewN ?_ _)
      | (with_reducible refine Below.drew ?_)
      | (with_reducible refine below_regrown_up _ _ ?_ ?_)
      | (with_reducible refine Below.alloc ?_ ?_ _)
      | (with_reducible refine Below.setCell ?_ ?_ _)
      | (with_reducible refine below_up ?_ ?_ (by assumption))
      | (with_reducible exact Nat.le_refl _)
      | omega
      | (simp; done)
      | (simp; omega))
theorem rkind_any (l : List Entry) (A : Option Addr) (c : Nat) (k day : Int) (w : World) (hs : SlEnt w A l) (hl : l.length ≤ 140737488355328) :
    Calls Try.prog 34 #[.slice A l.length c, .int .i64 k, .int .i64 day] w fun e w' => e = .returned (.tuple #[.int .i64 (kindR l k day).1, .int .i64 (kindR l k day).2]) ∧ Below w.heap.size w w' := by
  rcases kindR_cases l k day with ⟨h1, hr⟩ | ⟨h1, h2, h3, hr⟩
  · cases g1 : ledOk l <;> cases g2 : inB k 1 9 <;> cases g3 : inB day 0 366
    case true.true.true => rw [g1, g2, g3] at h1; simp at h1
    all_goals
      rw [hr]
      clear h1 hr
      go_enter Try.func34, Try.ntmps34
      go_wp2_with (first | (go_at_call 29; refine (rlvalid_any l A c _ hs hl).mono ?_; rintro e w1 ⟨rfl, hb1⟩; have hz1 := hb1.size; (try simp only [World.size_alloc, World.size_setCell, World.size_drew, size_drewN', size_grow, size_redrawn] at hz1); obtain ⟨hc1, hf1⟩ := bcellB (B := w.heap.size) hb1 (by first | omega | (simp only [World.size_alloc, World.size_setCell, World.size_drew, size_drewN', size_grow, size_redrawn]; omega))); rw [g1] | (go_at_call 62; refine (r28_in_any _ _ _ _).mono ?_; rintro e w2 ⟨rfl, rfl⟩))
      go_ret2
      exact ⟨rfl, hb1⟩
  · have h2' := inB_iff.1 h2
    obtain ⟨k1, k2⟩ := h2'
    have hof : (fun a => inB a (100 * k) (100 * k + 99)) = ofKind k := rfl
    rw [hr, ← hof]
    clear hr hof
    go_enter Try.func34, Try.ntmps34
    go_wp2_with (first | (go_at_call 29; refine (rlvalid_any l A c _ hs hl).mono ?_; rintro e w1 ⟨rfl, hb1⟩; have hz1 := hb1.size; (try simp only [World.size_alloc, World.size_setCell, World.size_drew, size_drewN', size_grow, size_redrawn] at hz1); obtain ⟨hc1, hf1⟩ := bcellB (B := w.heap.size) hb1 (by first | omega | (simp only [World.size_alloc, World.size_setCell, World.size_drew, size_drewN', size_grow, size_redrawn]; omega))); rw [h1] | (go_at_call 62; refine (r28_in_any _ _ _ _).mono ?_; rintro e w2 ⟨rfl, rfl⟩) | (go_at_call 63; refine (rbalance0_any l A c _ _ day _ (hs.up hb1) h1).mono ?_; rintro e w3 ⟨rfl, hb3⟩))
    go_ret2
    refine ⟨rfl, ?_⟩
    repeat' (first
      | (with_reducible exact Below.refl _ _)
      | (with_reducible assumption)
      | (with_reducible refine below_drewN ?_ _)
      | (with_reducible refine Below.drew ?_)
      | (with_reducible refine below_regrown_up _ _ ?_ ?_)
      | (with_reducible refine Below.alloc ?_ ?_ _)
      | (with_reducible refine Below.setCell ?_ ?_ _)
      | (with_reducible refine below_up ?_ ?_ (by assumption))
      | (with_reducible exact Nat.le_refl _)
      | omega
      | (simp; done)
      | (simp; omega))
end Go.Proofs.Ytdbdjhgcmcbiaaa
