/-
  Rooms: few, the same, usable.
-/
import Derived.Test.YtphapnooonjnmaaRmW3
import Derived.Test.YtphapnooonjnmaaRmW2
import Derived.Test.YtphapnooonjnmaaSpW2
namespace Go.Proofs.Ytphapnooonjnmaa
set_option linter.unusedSimpArgs false
set_option linter.unusedVariables false
open Go.RowKit
open Go.Sort (grow size_grow)

set_option maxHeartbeats 4000000
set_option maxRecDepth 100000
def fewR (l : List Room) : Bool := (decide (l.length ≤ 40) || decide (401 ≤ l.length ∧ l.length ≤ 410)) && l.all fun r => decide (r.blk.length ≤ 40)
theorem fewR_iff {l : List Room} : fewR l = true ↔ (l.length ≤ 40 ∨ (401 ≤ l.length ∧ l.length ≤ 410)) ∧ ∀ r ∈ l, r.blk.length ≤ 40 := by
  unfold fewR
  rw [Bool.and_eq_true, Bool.or_eq_true, decide_eq_true_eq, decide_eq_true_eq, List.all_eq_true]
  simp
theorem fewR_long {l : List Room} (h : ¬ (l.length ≤ 40 ∨ (401 ≤ l.length ∧ l.length ≤ 410))) : fewR l = false := by
  cases hf : fewR l
  · rfl
  · exact absurd (fewR_iff.1 hf).1 h
theorem fewR_big {l : List Room} {m : Nat} (hm : m < l.length) (h : ¬ l[m].blk.length ≤ 40) : fewR l = false := by
  cases hf : fewR l
  · rfl
  · exact absurd ((fewR_iff.1 hf).2 _ (List.getElem_mem hm)) h
theorem fewR_len {l : List Room} (h : fewR l = true) : l.length ≤ 410 := by have := (fewR_iff.1 h).1; omega
theorem fewR_at {l : List Room} (h : fewR l = true) : ∀ r ∈ l, r.blk.length ≤ 40 := (fewR_iff.1 h).2
/-- All IDs of rooms are integers of the machine. -/
def IdsOk (l : List Room) : Prop := ∀ r ∈ l, -9223372036854775808 ≤ r.id ∧ r.id ≤ 9223372036854775807
theorem fewR_tame {l : List Room} (h : fewR l = true) (hi : IdsOk l) : Tame l := fun r hr => ⟨by have := fewR_at h r hr; omega, hi r hr⟩
theorem few16_any (l : List Room) (A : Option Addr) (c : Nat) (w : World) (hs : SlRoom w A l) :
    Calls Try.prog 10 #[.slice A l.length c] w fun e w' => e = .returned (.bool (fewR l)) ∧ Below w.heap.size w w' := by
  by_cases hl : l.length ≤ 40 ∨ (401 ≤ l.length ∧ l.length ≤ 410)
  · have HL := Lib.hid hl
    have hl' : (decide ((40 : Int) < (l.length : Int)) = false) ∨ (decide ((40 : Int) < (l.length : Int)) = true ∧ decide ((l.length : Int) < 401) = false) := by
      rcases hl with h | h
      · exact .inl (by rw [decide_eq_false_iff_not]; omega)
      · exact .inr ⟨by rw [decide_eq_true_eq]; omega, by rw [decide_eq_false_iff_not]; omega⟩
    have h3 : decide ((410 : Int) < (l.length : Int)) = false := by rw [decide_eq_false_iff_not]; omega
    have hlen : l.length ≤ 410 := by omega
    clear hl
    rcases hl' with h1 | ⟨h1, h2⟩
    all_goals
      go_enter Try.func10, Try.ntmps10
      go_wp2_with fail
      go_loopw [3] (fun i wr => ∃ m : Nat, m ≤ l.length ∧ i = .int .i64 m ∧ Hid (∀ j (h : j < l.length), j < m → l[j].blk.length ≤ 40) ∧ Below w.heap.size w wr) (fun i _ => l.length - (intOf i).toNat)
      case atStart => exact ⟨0, by omega, rfl, Lib.hid (fun j _ h => absurd h (by omega)), Below.refl _ _⟩
      case round =>
        obtain ⟨m, hm, rfl, hn, hbw⟩ := hrel
        have hbz := hbw.size
        by_cases hlt : m < l.length
        · obtain ⟨b, off, A', c', rfl, hbl, hcell, _⟩ := (hs.up hbw).at_ hlt
          have q0 := hcell 0 _ rfl
          have q1 := hcell 1 _ rfl
          have q2 := hcell 2 _ rfl
          have q3 := hcell 3 _ rfl
          have q4 := hcell 4 _ rfl
          have q5 := hcell 5 _ rfl
          rw [Nat.add_zero] at q0
          clear hcell q0 q1 q2 q3 q4
          have hx1 : (m : Int) < (l.length : Int) := by omega
          have hx4 : (0 : Int) ≤ (m : Int) := by omega
          by_cases hb : l[m].blk.length ≤ 40
          · have hb' : decide ((40 : Int) < (l[m].blk.length : Int)) = false := by rw [decide_eq_false_iff_not]; omega
            have HB := Lib.hid hb
            clear hb
            go_wp2_with fail
            go_roundw
            case rel =>
              refine ⟨m + 1, by omega, by go_num, Lib.hid (fun j h hj => ?_), hbw⟩
              by_cases e : j = m
              · subst e; exact HB.out
              · exact hn.out j h (by omega)
            case measure => simp [intOf]; omega
          · have hb' : decide ((40 : Int) < (l[m].blk.length : Int)) = true := by rw [decide_eq_true_eq]; omega
            have HR := Lib.hid (fewR_big hlt hb)
            clear hb
            go_wp2_with fail
            go_ret
            exact ⟨ret_bool (by rw [HR.out]), hbw⟩
        · obtain rfl : m = l.length := by omega
          have HR := Lib.hid (fewR_iff.2 ⟨HL.out, fun r hr => by obtain ⟨j, hj, rfl⟩ := List.getElem_of_mem hr; exact hn.out j hj hj⟩)
          go_wp2_with fail
          go_ret
          exact ⟨ret_bool (by rw [HR.out]), hbw⟩
  · have HR := Lib.hid (fewR_long hl)
    have h1 : decide ((40 : Int) < (l.length : Int)) = true := by rw [decide_eq_true_eq]; omega
    have h23 : (decide ((l.length : Int) < 401) = true) ∨ (decide ((l.length : Int) < 401) = false ∧ decide ((410 : Int) < (l.length : Int)) = true) := by
      by_cases h : l.length < 401
      · exact .inl (by rw [decide_eq_true_eq]; omega)
      · exact .inr ⟨by rw [decide_eq_false_iff_not]; omega, by rw [decide_eq_true_eq]; omega⟩
    clear hl
    rcases h23 with h2 | ⟨h2, h3⟩
    all_goals
      go_enter Try.func10, Try.ntmps10
      go_wp2_with fail
      go_ret
      exact ⟨ret_bool (by rw [HR.out]), Below.refl _ _⟩
theorem room_eq {a b : Room} : decide (a = b) = (((((a.id == b.id && a.house == b.house) && a.kind == b.kind) && a.joins == b.joins) && a.acc == b.acc) && decide (a.blk = b.blk)) := by
  rw [Bool.eq_iff_iff]
  cases a; cases b
  simp [and_assoc]
theorem sameroom_any (a b : Room) (A B : Option Addr) (c d : Nat) (w : World) (hx : SlSpn w A a.blk) (hy : SlSpn w B b.blk) (hl1 : a.blk.length ≤ 400) (hl2 : b.blk.length ≤ 400) :
    Calls Try.prog 37 #[a.v A c, b.v B d] w fun e w' => e = .returned (.bool (decide (a = b))) ∧ Below w.heap.size w w' := by
  have HE := Lib.hid (room_eq (a := a) (b := b))
  cases h0 : (a.id == b.id) <;> cases h1 : (a.house == b.house) <;> cases h2 : (a.kind == b.kind) <;> cases h3 : (a.joins == b.joins) <;> cases h4 : (a.acc == b.acc)
  case true.true.true.true.true =>
    go_enter Try.func37, Try.ntmps37
    go_wp2_with fail
    refine (same_any a.blk b.blk A B c d _ (hx.up (by repeat' (first | (with_reducible exact Below.refl _ _) | (with_reducible assumption) | (with_reducible refine below_drewN ?_ _) | (with_reducible refine Below.drew ?_) | (with_reducible refine below_regrown_up _ _ ?_ ?_) | (with_reducible refine Below.alloc ?_ ?_ _) | (with_reducible refine Below.setCell ?_ ?_ _) | (with_reducible refine below_up ?_ ?_ (by assumption)) | (with_reducible exact Nat.le_refl _) | omega | (simp; done) | (simp; omega)))) (hy.up (by repeat' (first | (with_reducible exact Below.refl _ _) | (with_reducible assumption) | (with_reducible refine below_drewN ?_ _) | (with_reducible refine Below.drew ?_) | (with_reducible refine below_regrown_up _ _ ?_ ?_) | (with_reducible refine Below.alloc ?_ ?_ _) | (with_reducible refine Below.setCell ?_ ?_ _) | (with_reducible refine below_up ?_ ?_ (by assumption)) | (with_reducible exact Nat.le_refl _) | omega | (simp; done) | (simp; omega)))) (by omega) (by omega)).mono ?_
    rintro e w1 ⟨rfl, hb1⟩; have hz1 := hb1.size; (try simp only [World.size_alloc, World.size_setCell, World.size_drew, size_drewN', size_grow, size_redrawn] at hz1); obtain ⟨hc1, hf1⟩ := bcellB (B := w.heap.size + 1 + 1) hb1 (by first | omega | (simp only [World.size_alloc, World.size_setCell, World.size_drew, size_drewN', size_grow, size_redrawn]; omega))
    go_wp2_with fail
    go_ret
    refine ⟨ret_bool (by rw [HE.out, h0, h1, h2, h3, h4]; simp), ?_⟩
    repeat' (first
      | (with_reducible exact Below.refl _ _)
      | (with_reducible assumption)
      | (with_reducible refine below_drewN ?_ _)
      | (with_reducible refine Below.drew ?_)
      | (with_reducible refine below_regrown_up _ _ ?_ ?_)
      | (with_reducible refine Below.alloc ?_ ?_ _)
      | (with_reducible refine Below.setCell ?_ ?_ _)
      | (with_reducible refine below_up ?_ ?_ (by assumption))
      | (with_reducible exact Nat.le_refl _)
      | omega
      | (simp; done)
      | (simp; omega))
  all_goals
    go_enter Try.func37, Try.ntmps37
    go_wp2_with fail
    go_ret
    refine ⟨ret_bool (by rw [HE.out, h0, h1, h2, h3, h4]; simp), ?_⟩
    repeat' (first
      | (with_reducible exact Below.refl _ _)
      | (with_reducible assumption)
      | (with_reducible refine below_drewN ?_ _)
      | (with_reducible refine Below.drew ?_)
      | (with_reducible refine below_regrown_up _ _ ?_ ?_)
      | (with_reducible refine Below.alloc ?_ ?_ _)
      | (with_reducible refine Below.setCell ?_ ?_ _)
      | (with_reducible refine below_up ?_ ?_ (by assumption))
      | (with_reducible exact Nat.le_refl _)
      | omega
      | (simp; done)
      | (simp; omega))
theorem same16_any (xs ys : List Room) (A B : Option Addr) (c d : Nat) (w : World) (hx : SlRoom w A xs) (hy : SlRoom w B ys) (hl1 : xs.length ≤ 140737488355328) (hT1 : ∀ r ∈ xs, r.blk.length ≤ 400) (hT2 : ∀ r ∈ ys, r.blk.length ≤ 400) :
    Calls Try.prog 19 #[.slice A xs.length c, .slice B ys.length d] w fun e w' => e = .returned (.bool (decide (xs = ys))) ∧ Below w.heap.size w w' := by
  by_cases hlen : xs.length = ys.length
  · have hb : ((xs.length : Int) != (ys.length : Int)) = false := by rw [bne_eq_false_iff_eq]; omega
    have HL := Lib.hid hlen
    have hi1 : (xs.length : Int) ≤ ys.length := by omega
    have hi2 : (ys.length : Int) ≤ xs.length := by omega
    clear hlen
    go_enter Try.func19, Try.ntmps19
    go_wp2
    go_loopw [5] (fun k wr => ∃ m : Nat, m ≤ xs.length ∧ k = .int .i64 m ∧ Hid (xs.take m = ys.take m) ∧ Below w.heap.size w wr) (fun k _ => xs.length - (intOf k).toNat)
    case atStart => exact ⟨0, by omega, rfl, Lib.hid rfl, Below.refl _ _⟩
    case round =>
      obtain ⟨m, hm, rfl, hn, hbw⟩ := hrel
      have hbz := hbw.size
      by_cases hlt : m < xs.length
      · have hlt2 : m < ys.length := by have := HL.out; omega
        have hx' := hx.up hbw
        have hy' := hy.up hbw
        obtain ⟨b1, off1, A1, c1, rfl, hbl1, hcell1, hsp1⟩ := hx'.at_ hlt
        obtain ⟨b2, off2, A2, c2, rfl, hbl2, hcell2, hsp2⟩ := hy'.at_ hlt2
        have q0 := hcell1 0 _ rfl
        have q1 := hcell1 1 _ rfl
        have q2 := hcell1 2 _ rfl
        have q3 := hcell1 3 _ rfl
        have q4 := hcell1 4 _ rfl
        have q5 := hcell1 5 _ rfl
        rw [Nat.add_zero] at q0
        have p0 := hcell2 0 _ rfl
        have p1 := hcell2 1 _ rfl
        have p2 := hcell2 2 _ rfl
        have p3 := hcell2 3 _ rfl
        have p4 := hcell2 4 _ rfl
        have p5 := hcell2 5 _ rfl
        rw [Nat.add_zero] at p0
        clear hcell1 hcell2
        have hx1 : (m : Int) < (xs.length : Int) := by omega
        have hx2 : (m : Int) < (ys.length : Int) := by omega
        have hx4 : (0 : Int) ≤ (m : Int) := by omega
        have t1 := hT1 _ (List.getElem_mem hlt)
        have t2 := hT2 _ (List.getElem_mem hlt2)
        cases he : decide (xs[m] = ys[m])
        · have HE := Lib.hid (of_decide_eq_false he)
          go_wp2_with fail
          have hgr := regrown_cells wr (B := wr.heap.size) (by omega)
          refine wp_region_quiet_below (by kernel_rfl) (by kernel_rfl) ?_
          repeat (quiet_step ((go_at_call 37; exact quiet_b (sameroom_any xs[m] ys[m] A1 A2 c1 c2 _ (hsp1.up (below_regrown _ _ _)) (hsp2.up (below_regrown _ _ _)) t1 t2))))
          refine wpQuiet_nil ?_
          intro _ hw'
          obtain ⟨⟨dq, osq⟩, hw''⟩ := hw'
          subst hw''
          have hb3 := below_regrown wr dq osq
          clear hgr
          generalize grow (redrawn wr dq) osq = w3 at hb3 ⊢
          have hz3 := hb3.size
          (try simp only [World.size_alloc, World.size_setCell, World.size_drew, size_drewN', size_grow, size_redrawn] at hz3)
          obtain ⟨hc3, hf3⟩ := bcellB (B := wr.heap.size) hb3 (by first | omega | (simp only [World.size_alloc, World.size_setCell, World.size_drew, size_drewN', size_grow, size_redrawn]; omega))
          (try rw [he])
          go_wp2_with fail
          go_ret
          refine ⟨ret_bool ?_, ?_⟩
          · symm
            rw [decide_eq_false_iff_not]
            rintro rfl
            exact HE.out rfl
          · repeat' (first
              | (with_reducible exact Below.refl _ _)
              | (with_reducible assumption)
              | (with_reducible refine below_drewN ?_ _)
              | (with_reducible refine Below.drew ?_)
              | (with_reducible refine below_regrown_up _ _ ?_ ?_)
              | (with_reducible refine Below.alloc ?_ ?_ _)
              | (with_reducible refine Below.setCell ?_ ?_ _)
              | (with_reducible refine below_up ?_ ?_ (by assumption))
              | (with_reducible exact Nat.le_refl _)
              | omega
              | (simp; done)
              | (simp; omega))
        · have HE := Lib.hid (of_decide_eq_true he)
          go_wp2_with fail
          have hgr := regrown_cells wr (B := wr.heap.size) (by omega)
          refine wp_region_quiet_below (by kernel_rfl) (by kernel_rfl) ?_
          repeat (quiet_step ((go_at_call 37; exact quiet_b (sameroom_any xs[m] ys[m] A1 A2 c1 c2 _ (hsp1.up (below_regrown _ _ _)) (hsp2.up (below_regrown _ _ _)) t1 t2))))
          refine wpQuiet_nil ?_
          intro _ hw'
          obtain ⟨⟨dq, osq⟩, hw''⟩ := hw'
          subst hw''
          have hb3 := below_regrown wr dq osq
          clear hgr
          generalize grow (redrawn wr dq) osq = w3 at hb3 ⊢
          have hz3 := hb3.size
          (try simp only [World.size_alloc, World.size_setCell, World.size_drew, size_drewN', size_grow, size_redrawn] at hz3)
          obtain ⟨hc3, hf3⟩ := bcellB (B := wr.heap.size) hb3 (by first | omega | (simp only [World.size_alloc, World.size_setCell, World.size_drew, size_drewN', size_grow, size_redrawn]; omega))
          (try rw [he])
          go_wp2_with fail
          go_roundw
          case rel =>
            refine ⟨m + 1, by omega, by go_num, Lib.hid ?_, ?_⟩
            · rw [List.take_succ_eq_append_getElem hlt, List.take_succ_eq_append_getElem hlt2, hn.out, HE.out]
            · repeat' (first
                | (with_reducible exact Below.refl _ _)
                | (with_reducible assumption)
                | (with_reducible refine below_drewN ?_ _)
                | (with_reducible refine Below.drew ?_)
                | (with_reducible refine below_regrown_up _ _ ?_ ?_)
                | (with_reducible refine Below.alloc ?_ ?_ _)
                | (with_reducible refine Below.setCell ?_ ?_ _)
                | (with_reducible refine below_up ?_ ?_ (by assumption))
                | (with_reducible exact Nat.le_refl _)
                | omega
                | (simp; done)
                | (simp; omega))
          case measure => simp [intOf]; omega
      · obtain rfl : m = xs.length := by omega
        have HR : Hid (xs = ys) := Lib.hid (by
          have := hn.out
          rw [List.take_of_length_le (Nat.le_refl _), List.take_of_length_le (by have := HL.out; omega)] at this
          exact this)
        go_wp2_with fail
        go_ret
        exact ⟨ret_bool (decide_eq_true HR.out).symm, hbw⟩
  · have hb : ((xs.length : Int) != (ys.length : Int)) = true := by rw [bne_iff_ne]; omega
    have HN : Hid (xs ≠ ys) := Lib.hid (by rintro rfl; exact hlen rfl)
    clear hlen
    go_enter Try.func19, Try.ntmps19
    go_wp2_with fail
    go_ret
    exact ⟨ret_bool (decide_eq_false HN.out).symm, Below.refl _ _⟩
def use16 (l : List Room) : Bool := decide (l.length ≤ 40) && fewR l && roomsOk l
theorem use16_iff {l : List Room} : use16 l = true ↔ l.length ≤ 40 ∧ fewR l = true ∧ roomsOk l = true := by
  unfold use16
  rw [Bool.and_eq_true, Bool.and_eq_true, decide_eq_true_eq, and_assoc]
theorem usable16_any (l : List Room) (A : Option Addr) (c : Nat) (w : World) (hs : SlRoom w A l) (hi : IdsOk l) :
    Calls Try.prog 22 #[.slice A l.length c] w fun e w' => e = .returned (.bool (use16 l)) ∧ Below w.heap.size w w' := by
  by_cases h4 : l.length ≤ 40
  · have g : decide ((l.length : Int) ≤ 40) = true := by rw [decide_eq_true_eq]; omega
    cases hf : fewR l
    · have HU : Hid (use16 l = false) := Lib.hid (by unfold use16; rw [hf]; simp)
      go_enter Try.func22, Try.ntmps22
      go_wp2_with fail
      refine (few16_any l A c _ hs).mono ?_
      rintro e w1 ⟨rfl, hb1⟩; have hz1 := hb1.size; (try simp only [World.size_alloc, World.size_setCell, World.size_drew, size_drewN', size_grow, size_redrawn] at hz1); obtain ⟨hc1, hf1⟩ := bcellB (B := w.heap.size) hb1 (by first | omega | (simp only [World.size_alloc, World.size_setCell, World.size_drew, size_drewN', size_grow, size_redrawn]; omega))
      rw [hf]
      go_wp2_with fail
      go_ret
      exact ⟨ret_bool (by rw [HU.out]), hb1⟩
    · have HT := Lib.hid (fewR_tame hf hi)
      have HU : Hid (use16 l = roomsOk l) := Lib.hid (by unfold use16; rw [hf, decide_eq_true h4]; rfl)
      go_enter Try.func22, Try.ntmps22
      go_wp2_with fail
      refine (few16_any l A c _ hs).mono ?_
      rintro e w1 ⟨rfl, hb1⟩; have hz1 := hb1.size; (try simp only [World.size_alloc, World.size_setCell, World.size_drew, size_drewN', size_grow, size_redrawn] at hz1); obtain ⟨hc1, hf1⟩ := bcellB (B := w.heap.size) hb1 (by first | omega | (simp only [World.size_alloc, World.size_setCell, World.size_drew, size_drewN', size_grow, size_redrawn]; omega))
      rw [hf]
      go_wp2_with fail
      refine (rrvalid_any l A c _ (hs.up hb1) (by omega) HT.out).mono ?_
      rintro e w2 ⟨rfl, hb2⟩; have hz2 := hb2.size; (try simp only [World.size_alloc, World.size_setCell, World.size_drew, size_drewN', size_grow, size_redrawn] at hz2); obtain ⟨hc2, hf2⟩ := bcellB (B := w.heap.size) hb2 (by first | omega | (simp only [World.size_alloc, World.size_setCell, World.size_drew, size_drewN', size_grow, size_redrawn]; omega))
      go_wp2_with fail
      go_ret
      exact ⟨ret_bool (by rw [HU.out]), below_up hb1 hz1 hb2⟩
  · have g : decide ((l.length : Int) ≤ 40) = false := by rw [decide_eq_false_iff_not]; omega
    have HU : Hid (use16 l = false) := Lib.hid (by unfold use16; rw [decide_eq_false h4]; rfl)
    clear h4
    go_enter Try.func22, Try.ntmps22
    go_wp2_with fail
    go_ret
    exact ⟨ret_bool (by rw [HU.out]), Below.refl _ _⟩
theorem span16_any (x y : Int) (w : World) : Calls Try.prog 24 #[.int .i64 x, .int .i64 y] w fun e w' => e = .returned (.agg #[.int .i64 x, .int .i64 y]) ∧ Below w.heap.size w w' := by
  go_enter Try.func24, Try.ntmps24
  go_wp2
  refine bodyPost_ret (v := .agg #[.int .i64 x, .int .i64 y]) ?_ rfl ⟨rfl, ?_⟩
  · simp [results, Try.results24, go_sem]
  · repeat' (first
      | (with_reducible exact Below.refl _ _)
      | (with_reducible assumption)
      | (with_reducible refine below_drewN ?_ _)
      | (with_reducible refine Below.drew ?_)
      | (with_reducible refine below_regrown_up _ _ ?_ ?_)
      | (with_reducible refine Below.alloc ?_ ?_ _)
      | (with_reducible refine Below.setCell ?_ ?_ _)
      | (with_reducible refine below_up ?_ ?_ (by assumption))
      | (with_reducible exact Nat.le_refl _)
      | omega
      | (simp; done)
      | (simp; omega))
end Go.Proofs.Ytphapnooonjnmaa
