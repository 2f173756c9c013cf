/-
  Texts, one behind the other: Led3, Led4.
-/
import Derived.Test.YtmlhoojcdidgkaaGreatM07
import Derived.WalkSpells
import Derived.Deep.RegionLaw
/-
  Contracts of package ledger and of its reference: what is a ledger; the same entries; the last day.
-/
namespace Go.Proofs.YtmlhoojcdidgkaaGreat
set_option linter.unusedSimpArgs false
set_option linter.unusedVariables false
open Go.RowKit
open Go.Sort (grow size_grow)

set_option maxHeartbeats 2000000
set_option maxRecDepth 100000

theorem ledOk_by (l : List Entry) : ∃ r : Bool, (r = true ↔ ∀ i (h : i + 1 < l.length), 0 ≤ wrap64 (l[i + 1].day - l[i].day)) ∧ ledOk l = (decide (l.length ≤ 5000) && l.all Entry.ok && r) := by
  classical
  refine ⟨decide (∀ i (h : i + 1 < l.length), 0 ≤ wrap64 (l[i + 1].day - l[i].day)), by simp, ?_⟩
  unfold ledOk
  cases ha : l.all Entry.ok with
  | false => simp
  | true =>
    congr 1
    rw [decide_eq_decide, rises_iff]
    have hw : ∀ i (h : i + 1 < l.length), wrap64 (l[i + 1].day - l[i].day) = l[i + 1].day - l[i].day := by
      intro i h
      rw [List.all_eq_true] at ha
      have h1 := (Entry.ok_iff.1 (ha _ (List.getElem_mem h))).1
      have h2 := (Entry.ok_iff.1 (ha _ (List.getElem_mem (show i < l.length by omega)))).1
      exact IntWalk.wrap64_in _ (by omega)
    constructor
    · intro h i hi
      rw [hw i hi]
      have := h i hi
      omega
    · intro h i hi
      have := h i hi
      rw [hw i hi] at this
      omega

theorem lvalid_any (l : List Entry) (A : Option Addr) (c : Nat) (w : World) (hs : SlEnt w A l) (hl : l.length ≤ 140737488355328) :
    Calls Tryz.prog 35 #[.slice A l.length c] w fun e w' => e = .returned (.bool (ledOk l)) ∧ Below w.heap.size w w' := by
  obtain ⟨r, hr, hv⟩ := ledOk_by l
  have HR := Lib.hid hr
  have HV := Lib.hid hv
  clear hr hv
  cases hall : l.all Entry.ok with
  | false =>
    have hf : ledOk l = false := by rw [HV.out, hall]; simp
    have HF := Lib.hid hf
    clear hf
    go_enter Tryz.func35, Tryz.ntmps35
    go_wp2_with (first
      | (go_at_call 68; refine (sorted_any l A c _ r hs hl HR).mono ?_; rintro e w1 ⟨rfl, hb1⟩; have hz1 := hb1.size; (try simp only [World.size_alloc, World.size_setCell, World.size_drew, size_drewN', size_grow, size_redrawn] at hz1); obtain ⟨hc1, hf1⟩ := bcellB (B := w.heap.size) hb1 (by first | omega | (simp only [World.size_alloc, World.size_setCell, World.size_drew, size_drewN', size_grow, size_redrawn]; omega)))
      | (go_at_call 70; refine (con_ent_any l A c _ ((hs.below hb1).more hb1.size) hl).mono ?_; rintro e w2 ⟨rfl, hb2⟩; have hz2 := hb2.size; (try simp only [World.size_alloc, World.size_setCell, World.size_drew, size_drewN', size_grow, size_redrawn] at hz2); obtain ⟨hc2, hf2⟩ := bcellB (B := w.heap.size) hb2 (by first | omega | (simp only [World.size_alloc, World.size_setCell, World.size_drew, size_drewN', size_grow, size_redrawn]; omega)); rw [hall]))
    all_goals
      go_ret
      refine ⟨ret_bool (by rw [HF.out]), ?_⟩
      repeat' (first
        | (with_reducible exact Below.refl _ _)
        | (with_reducible assumption)
        | (with_reducible refine below_drewN ?_ _)
        | (with_reducible refine Below.drew ?_)
        | (with_reducible refine below_regrown_up _ _ ?_ ?_)
        | (with_reducible refine Below.alloc ?_ ?_ _)
        | (with_reducible refine Below.setCell ?_ ?_ _)
        | (with_reducible refine below_up ?_ ?_ (by assumption))
        | (with_reducible exact Nat.le_refl _)
        | omega
        | (simp; done)
        | (simp; omega))
  | true =>
    have hf : ledOk l = (decide (l.length ≤ 5000) && r) := by rw [HV.out, hall]; simp
    have HF := Lib.hid hf
    clear hf
    by_cases h5 : l.length ≤ 5000
    · have h6 : (l.length : Int) ≤ 5000 := by omega
      go_enter Tryz.func35, Tryz.ntmps35
      go_wp2_with (first
        | (go_at_call 68; refine (sorted_any l A c _ r hs hl HR).mono ?_; rintro e w1 ⟨rfl, hb1⟩; have hz1 := hb1.size; (try simp only [World.size_alloc, World.size_setCell, World.size_drew, size_drewN', size_grow, size_redrawn] at hz1); obtain ⟨hc1, hf1⟩ := bcellB (B := w.heap.size) hb1 (by first | omega | (simp only [World.size_alloc, World.size_setCell, World.size_drew, size_drewN', size_grow, size_redrawn]; omega)))
        | (go_at_call 70; refine (con_ent_any l A c _ ((hs.below hb1).more hb1.size) hl).mono ?_; rintro e w2 ⟨rfl, hb2⟩; have hz2 := hb2.size; (try simp only [World.size_alloc, World.size_setCell, World.size_drew, size_drewN', size_grow, size_redrawn] at hz2); obtain ⟨hc2, hf2⟩ := bcellB (B := w.heap.size) hb2 (by first | omega | (simp only [World.size_alloc, World.size_setCell, World.size_drew, size_drewN', size_grow, size_redrawn]; omega)); rw [hall]))
      go_ret
      refine ⟨ret_bool (by rw [HF.out, decide_eq_true h5]; simp), ?_⟩
      repeat' (first
        | (with_reducible exact Below.refl _ _)
        | (with_reducible assumption)
        | (with_reducible refine below_drewN ?_ _)
        | (with_reducible refine Below.drew ?_)
        | (with_reducible refine below_regrown_up _ _ ?_ ?_)
        | (with_reducible refine Below.alloc ?_ ?_ _)
        | (with_reducible refine Below.setCell ?_ ?_ _)
        | (with_reducible refine below_up ?_ ?_ (by assumption))
        | (with_reducible exact Nat.le_refl _)
        | omega
        | (simp; done)
        | (simp; omega))
    · have h6 : 5000 < (l.length : Int) := by omega
      go_enter Tryz.func35, Tryz.ntmps35
      go_wp2_with (go_at_call 68; refine (sorted_any l A c _ r hs hl HR).mono ?_; rintro e w1 ⟨rfl, hb1⟩; have hz1 := hb1.size; (try simp only [World.size_alloc, World.size_setCell, World.size_drew, size_drewN', size_grow, size_redrawn] at hz1); obtain ⟨hc1, hf1⟩ := bcellB (B := w.heap.size) hb1 (by first | omega | (simp only [World.size_alloc, World.size_setCell, World.size_drew, size_drewN', size_grow, size_redrawn]; omega)))
      go_ret
      refine ⟨ret_bool (by rw [HF.out, decide_eq_false h5]; simp), ?_⟩
      repeat' (first
        | (with_reducible exact Below.refl _ _)
        | (with_reducible assumption)
        | (with_reducible refine below_drewN ?_ _)
        | (with_reducible refine Below.drew ?_)
        | (with_reducible refine below_regrown_up _ _ ?_ ?_)
        | (with_reducible refine Below.alloc ?_ ?_ _)
        | (with_reducible refine Below.setCell ?_ ?_ _)
        | (with_reducible refine below_up ?_ ?_ (by assumption))
        | (with_reducible exact Nat.le_refl _)
        | omega
        | (simp; done)
        | (simp; omega))

theorem rlvalid_any (l : List Entry) (A : Option Addr) (c : Nat) (w : World) (hs : SlEnt w A l) (hl : l.length ≤ 140737488355328) :
    Calls Tryz.prog 22 #[.slice A l.length c] w fun e w' => e = .returned (.bool (ledOk l)) ∧ Below w.heap.size w w' := by
  go_enter Tryz.func22, Tryz.ntmps22
  go_wp2
  go_loopw [3] (fun i wr => ∃ m : Nat, m ≤ l.length ∧ i = .int .i64 m ∧ Hid (∀ j (h : j < l.length), j < m → l[j].ok = true) ∧ Hid (∀ j (h : j + 1 < l.length), j + 1 < m → l[j].day ≤ l[j + 1].day) ∧ Below w.heap.size w wr) (fun i _ => l.length - (intOf i).toNat)
  case atStart => exact ⟨0, by omega, rfl, Lib.hid (fun j _ h => absurd h (by omega)), Lib.hid (fun j _ h => absurd h (by omega)), Below.refl _ _⟩
  case round =>
    obtain ⟨m, hm, rfl, hn1, hn2, hbw⟩ := hrel
    have hbz := hbw.size
    by_cases hlt : m < l.length
    · have hx1 : (m : Int) < (l.length : Int) := by omega
      have hx4 : (0 : Int) ≤ (m : Int) := by omega
      obtain ⟨b, off, rfl, hbl, hcell⟩ := (hs.below hbw).at_ hlt
      have q0 := hcell 0 _ rfl
      have q1 := hcell 1 _ rfl
      have q2 := hcell 2 _ rfl
      have q3 := hcell 3 _ rfl
      have q4 := hcell 4 _ rfl
      rw [Nat.add_zero] at q0
      have HC := Lib.hid hcell
      clear hcell
      cases hok : l[m].ok with
      | false =>
        go_wp2_with (go_at_call 54; refine (rentry_any l[m] _).mono ?_; rintro e w1 ⟨rfl, hb1⟩; rw [hok])
        go_quiet (fail)
        go_wp2_with fail
        go_ret
        refine ⟨ret_bool ?_, ?_⟩
        · cases e : ledOk l with
          | false => rfl
          | true => rw [ledOk_at e hlt] at hok; cases hok
        · repeat' (first
            | (with_reducible exact Below.refl _ _)
            | (with_reducible assumption)
            | (with_reducible refine below_drewN ?_ _)
            | (with_reducible refine Below.drew ?_)
            | (with_reducible refine below_regrown_up _ _ ?_ ?_)
            | (with_reducible refine Below.alloc ?_ ?_ _)
            | (with_reducible refine Below.setCell ?_ ?_ _)
            | (with_reducible refine below_up ?_ ?_ (by assumption))
            | (with_reducible exact Nat.le_refl _)
            | omega
            | (simp; done)
            | (simp; omega))
      | true =>
        by_cases h0 : m = 0
        · have hg0 : decide ((0 : Int) < (m : Int)) = false := by simp; omega
          have hg1 : decide (0 < m) = false := by simp; omega
          have H0 := Lib.hid h0
          clear h0
          go_wp2_with (go_at_call 54; refine (rentry_any l[m] _).mono ?_; rintro e w1 ⟨rfl, hb1⟩; have hz1 := hb1.size; (try simp only [World.size_alloc, World.size_setCell, World.size_drew, size_drewN', size_grow, size_redrawn] at hz1); obtain ⟨hc1, hf1⟩ := bcellB (B := w.heap.size) hb1 (by first | omega | (simp only [World.size_alloc, World.size_setCell, World.size_drew, size_drewN', size_grow, size_redrawn]; omega)); rw [hok])
          go_quiet (fail)
          go_wp2_with fail
          go_roundw
          case rel =>
            refine ⟨m + 1, by omega, by go_num, Lib.hid (fun j h hj => ?_), Lib.hid (fun j h hj => by have := H0.out; omega), ?_⟩
            · have hm0 := H0.out
              subst hm0
              obtain rfl : j = 0 := by omega
              exact hok
            · repeat' (first
                | (with_reducible exact Below.refl _ _)
                | (with_reducible assumption)
                | (with_reducible refine below_drewN ?_ _)
                | (with_reducible refine Below.drew ?_)
                | (with_reducible refine below_regrown_up _ _ ?_ ?_)
                | (with_reducible refine Below.alloc ?_ ?_ _)
                | (with_reducible refine Below.setCell ?_ ?_ _)
                | (with_reducible refine below_up ?_ ?_ (by assumption))
                | (with_reducible exact Nat.le_refl _)
                | omega
                | (simp; done)
                | (simp; omega))
          case measure => simp [intOf]; omega
        · obtain ⟨p, hp⟩ : ∃ p, m = p + 1 := ⟨m - 1, by omega⟩
          have hp1 : p < l.length := by omega
          have hcell2 := ((hs.below hbw).cells (k := p) hp1).2
          have p0 := hcell2 0 _ rfl
          rw [Nat.add_zero] at p0
          clear hcell2
          have hw1 : IntKind.i64.wrap ((m : Int) - 1) = p := by rw [IntWalk.i64_in _ (by omega)]; omega
          have hx5 : (0 : Int) ≤ (p : Int) := by omega
          have hx6 : (p : Int) < (l.length : Int) := by omega
          have hx7 : (0 : Int) < (m : Int) := by omega
          have hg0 : decide ((0 : Int) < (m : Int)) = true := by simpa using hx7
          have hg1 : decide (0 < m) = true := by simpa using hx7
          by_cases hd : l[m].day < l[p].day
          · have hgd : decide (l[m].day < l[p].day) = true := by simpa using hd
            have HP := Lib.hid hp
            clear hp h0
            go_wp2_with (go_at_call 54; refine (rentry_any l[m] _).mono ?_; rintro e w1 ⟨rfl, hb1⟩; have hz1 := hb1.size; (try simp only [World.size_alloc, World.size_setCell, World.size_drew, size_drewN', size_grow, size_redrawn] at hz1); obtain ⟨hc1, hf1⟩ := bcellB (B := w.heap.size) hb1 (by first | omega | (simp only [World.size_alloc, World.size_setCell, World.size_drew, size_drewN', size_grow, size_redrawn]; omega)); rw [hok])
            go_quiet (fail)
            go_wp2_with fail
            go_ret
            refine ⟨ret_bool ?_, ?_⟩
            · cases e : ledOk l with
              | false => rfl
              | true =>
                have := rises_iff.1 (ledOk_iff.1 e).2.2 p (by have := HP.out; omega)
                have hmp := HP.out
                subst hmp
                omega
            · repeat' (first
                | (with_reducible exact Below.refl _ _)
                | (with_reducible assumption)
                | (with_reducible refine below_drewN ?_ _)
                | (with_reducible refine Below.drew ?_)
                | (with_reducible refine below_regrown_up _ _ ?_ ?_)
                | (with_reducible refine Below.alloc ?_ ?_ _)
                | (with_reducible refine Below.setCell ?_ ?_ _)
                | (with_reducible refine below_up ?_ ?_ (by assumption))
                | (with_reducible exact Nat.le_refl _)
                | omega
                | (simp; done)
                | (simp; omega))
          · have hgd : decide (l[m].day < l[p].day) = false := by simpa using hd
            have hd' : l[p].day ≤ l[m].day := by omega
            have HD := Lib.hid hd'
            have HP := Lib.hid hp
            clear hp h0 hd hd'
            go_wp2_with (go_at_call 54; refine (rentry_any l[m] _).mono ?_; rintro e w1 ⟨rfl, hb1⟩; have hz1 := hb1.size; (try simp only [World.size_alloc, World.size_setCell, World.size_drew, size_drewN', size_grow, size_redrawn] at hz1); obtain ⟨hc1, hf1⟩ := bcellB (B := w.heap.size) hb1 (by first | omega | (simp only [World.size_alloc, World.size_setCell, World.size_drew, size_drewN', size_grow, size_redrawn]; omega)); rw [hok])
            go_quiet (fail)
            go_wp2_with fail
            go_roundw
            case rel =>
              refine ⟨m + 1, by omega, by go_num, Lib.hid (fun j h hj => ?_), Lib.hid (fun j h hj => ?_), ?_⟩
              · by_cases e : j = m
                · subst e; exact hok
                · exact hn1.out j h (by omega)
              · by_cases e : j = p
                · subst e
                  have hmp := HP.out
                  subst hmp
                  exact HD.out
                · exact hn2.out j h (by have := HP.out; omega)
              · repeat' (first
                  | (with_reducible exact Below.refl _ _)
                  | (with_reducible assumption)
                  | (with_reducible refine below_drewN ?_ _)
                  | (with_reducible refine Below.drew ?_)
                  | (with_reducible refine below_regrown_up _ _ ?_ ?_)
                  | (with_reducible refine Below.alloc ?_ ?_ _)
                  | (with_reducible refine Below.setCell ?_ ?_ _)
                  | (with_reducible refine below_up ?_ ?_ (by assumption))
                  | (with_reducible exact Nat.le_refl _)
                  | omega
                  | (simp; done)
                  | (simp; omega))
            case measure => simp [intOf]; omega
    · obtain rfl : m = l.length := by omega
      go_wp2
      go_ret
      refine ⟨ret_bool ?_, ?_⟩
      · have h1 : l.all Entry.ok = true := by
          rw [List.all_eq_true]
          intro e he
          obtain ⟨j, hj, rfl⟩ := List.getElem_of_mem he
          exact hn1.out j hj hj
        have h2 : decide (Rises l) = true := by
          rw [decide_eq_true_eq, rises_iff]
          exact fun i hi => hn2.out i hi hi
        unfold ledOk
        rw [h1, h2]
        simp
        try omega
      · repeat' (first
          | (with_reducible exact Below.refl _ _)
          | (with_reducible assumption)
          | (with_reducible refine below_drewN ?_ _)
          | (with_reducible refine Below.drew ?_)
          | (with_reducible refine below_regrown_up _ _ ?_ ?_)
          | (with_reducible refine Below.alloc ?_ ?_ _)
          | (with_reducible refine Below.setCell ?_ ?_ _)
          | (with_reducible refine below_up ?_ ?_ (by assumption))
          | (with_reducible exact Nat.le_refl _)
          | omega
          | (simp; done)
          | (simp; omega))

theorem rsame_any (xs ys : List Entry) (A B : Option Addr) (c d : Nat) (w : World) (hx : SlEnt w A xs) (hy : SlEnt w B ys) (hl1 : xs.length ≤ 140737488355328) (hl2 : ys.length ≤ 140737488355328) :
    Calls Tryz.prog 18 #[.slice A xs.length c, .slice B ys.length d] w fun e w' => e = .returned (.bool (decide (xs = ys))) ∧ Below w.heap.size w w' := by
  by_cases hlen : xs.length = ys.length
  · have hb : ((xs.length : Int) != (ys.length : Int)) = false := by rw [bne_eq_false_iff_eq]; omega
    have hbn : (xs.length != ys.length) = false := by simpa using hlen
    have HL := Lib.hid hlen
    have hi1 : (xs.length : Int) ≤ ys.length := by omega
    have hi2 : (ys.length : Int) ≤ xs.length := by omega
    clear hlen
    go_enter Tryz.func18, Tryz.ntmps18
    go_wp2
    go_loopw [5] (fun k wr => ∃ m : Nat, m ≤ xs.length ∧ k = .int .i64 m ∧ Hid (xs.take m = ys.take m) ∧ Below w.heap.size w wr) (fun k _ => xs.length - (intOf k).toNat)
    case atStart => exact ⟨0, by omega, rfl, Lib.hid rfl, Below.refl _ _⟩
    case round =>
      obtain ⟨m, hm, rfl, hn, hbw⟩ := hrel
      have hbz := hbw.size
      by_cases hlt : m < xs.length
      · have hlt2 : m < ys.length := by have := HL.out; omega
        obtain ⟨b1, off1, rfl, hbl1, hcell1⟩ := (hx.below hbw).at_ hlt
        obtain ⟨b2, off2, rfl, hbl2, hcell2⟩ := (hy.below hbw).at_ hlt2
        have q0 := hcell1 0 _ rfl
        have q1 := hcell1 1 _ rfl
        have q2 := hcell1 2 _ rfl
        have q3 := hcell1 3 _ rfl
        have q4 := hcell1 4 _ rfl
        rw [Nat.add_zero] at q0
        have p0 := hcell2 0 _ rfl
        have p1 := hcell2 1 _ rfl
        have p2 := hcell2 2 _ rfl
        have p3 := hcell2 3 _ rfl
        have p4 := hcell2 4 _ rfl
        rw [Nat.add_zero] at p0
        clear hcell1 hcell2
        have hx1 : (m : Int) < (xs.length : Int) := by omega
        have hx2 : (m : Int) < (ys.length : Int) := by omega
        have hx4 : (0 : Int) ≤ (m : Int) := by omega
        by_cases he : xs[m] = ys[m]
        · have h1 := congrArg Entry.day he
          have h2 := congrArg Entry.debit he
          have h3 := congrArg Entry.credit he
          have h4 := congrArg Entry.cents he
          have h5 := congrArg Entry.ref he
          rw [← h1] at p0
          rw [← h2] at p1
          rw [← h3] at p2
          rw [← h4] at p3
          rw [← h5] at p4
          have HE := Lib.hid he
          clear he h1 h2 h3 h4 h5
          go_wp2_with fail
          go_quiet (fail)
          go_wp2_with fail
          go_roundw
          case rel =>
            refine ⟨m + 1, by omega, by go_num, Lib.hid ?_, ?_⟩
            · rw [List.take_succ_eq_append_getElem hlt, List.take_succ_eq_append_getElem hlt2, hn.out, HE.out]
            · repeat' (first
                | (with_reducible exact Below.refl _ _)
                | (with_reducible assumption)
                | (with_reducible refine below_drewN ?_ _)
                | (with_reducible refine Below.drew ?_)
                | (with_reducible refine below_regrown_up _ _ ?_ ?_)
                | (with_reducible refine Below.alloc ?_ ?_ _)
                | (with_reducible refine Below.setCell ?_ ?_ _)
                | (with_reducible refine below_up ?_ ?_ (by assumption))
                | (with_reducible exact Nat.le_refl _)
                | omega
                | (simp; done)
                | (simp; omega))
          case measure => simp [intOf]; omega
        · have hb2 : (!(decide (xs[m].day = ys[m].day) && (decide (xs[m].debit = ys[m].debit) && (decide (xs[m].credit = ys[m].credit) && (decide (xs[m].cents = ys[m].cents) && decide (xs[m].ref = ys[m].ref)))))) = true := by
            rw [Bool.not_eq_true', Bool.eq_false_iff]
            intro h
            simp only [Bool.and_eq_true, decide_eq_true_eq] at h
            exact he (Entry.eq_iff.2 h)
          have HE := Lib.hid he
          clear he
          go_wp2_with fail
          go_quiet (fail)
          go_wp2_with fail
          go_ret
          refine ⟨ret_bool ?_, ?_⟩
          · symm
            rw [decide_eq_false_iff_not]
            intro e
            refine HE.out ?_
            simp [e]
          · repeat' (first
              | (with_reducible exact Below.refl _ _)
              | (with_reducible assumption)
              | (with_reducible refine below_drewN ?_ _)
              | (with_reducible refine Below.drew ?_)
              | (with_reducible refine below_regrown_up _ _ ?_ ?_)
              | (with_reducible refine Below.alloc ?_ ?_ _)
              | (with_reducible refine Below.setCell ?_ ?_ _)
              | (with_reducible refine below_up ?_ ?_ (by assumption))
              | (with_reducible exact Nat.le_refl _)
              | omega
              | (simp; done)
              | (simp; omega))
      · obtain rfl : m = xs.length := by omega
        go_wp2
        go_ret
        refine ⟨ret_bool ?_, ?_⟩
        · symm
          rw [decide_eq_true_eq]
          have := hn.out
          rw [List.take_of_length_le (Nat.le_refl _), List.take_of_length_le (by have := HL.out; omega)] at this
          exact this
        · repeat' (first
            | (with_reducible exact Below.refl _ _)
            | (with_reducible assumption)
            | (with_reducible refine below_drewN ?_ _)
            | (with_reducible refine Below.drew ?_)
            | (with_reducible refine below_regrown_up _ _ ?_ ?_)
            | (with_reducible refine Below.alloc ?_ ?_ _)
            | (with_reducible refine Below.setCell ?_ ?_ _)
            | (with_reducible refine below_up ?_ ?_ (by assumption))
            | (with_reducible exact Nat.le_refl _)
            | omega
            | (simp; done)
            | (simp; omega))
  · have hb : ((xs.length : Int) != (ys.length : Int)) = true := by rw [bne_iff_ne]; omega
    have hbn : (xs.length != ys.length) = true := by simpa using hlen
    have HL := Lib.hid hlen
    clear hlen
    go_enter Tryz.func18, Tryz.ntmps18
    go_wp2
    go_ret
    refine ⟨ret_bool ?_, ?_⟩
    · symm
      rw [decide_eq_false_iff_not]
      intro e
      exact HL.out (by rw [e])
    · repeat' (first
        | (with_reducible exact Below.refl _ _)
        | (with_reducible assumption)
        | (with_reducible refine below_drewN ?_ _)
        | (with_reducible refine Below.drew ?_)
        | (with_reducible refine below_regrown_up _ _ ?_ ?_)
        | (with_reducible refine Below.alloc ?_ ?_ _)
        | (with_reducible refine Below.setCell ?_ ?_ _)
        | (with_reducible refine below_up ?_ ?_ (by assumption))
        | (with_reducible exact Nat.le_refl _)
        | omega
        | (simp; done)
        | (simp; omega))
end Go.Proofs.YtmlhoojcdidgkaaGreat

/-
  Contracts of package ledger and of its reference: a further entry.
-/
namespace Go.Proofs.YtmlhoojcdidgkaaGreat
set_option linter.unusedSimpArgs false
set_option linter.unusedVariables false
open Go.RowKit
open Go.Sort (grow size_grow)

set_option maxHeartbeats 2000000
set_option maxRecDepth 100000
theorem Sl.up {α : Type} {w w' : World} {size : Nat} {enc : α → List Value} {A : Option Addr} {l : List α} (h : Sl w w.heap.size size enc A l) (hb : Below w.heap.size w w') : Sl w' w'.heap.size size enc A l := (h.below hb).more hb.size
theorem elemEnt : Elem Tryz.prog 45 60 5 40 := elem_mk Tryz.underlying45 (by kernel_rfl)
theorem ent_len (y : Entry) : (Entry.cs y).length = 5 := rfl
theorem ent_one (y : Entry) : ∀ u ∈ Entry.cs y, u.oneCell' = true := by simp [Entry.cs, Value.oneCell']
abbrev OwnE (w : World) (B : Nat) (v : Value) (L : List Entry) : Prop := OwnL w B 60 5 Entry.cs v L
/-- What a list of entries and an error hand back. -/
def RetE (r : List Entry × Int) (e : Ending) (w' : World) : Prop := ∃ A c, e = .returned (.tuple #[.slice A r.1.length c, .int .i64 r.2]) ∧ r.1.length ≤ c ∧ SlEnt w' A r.1
theorem retE_nil {er : Int} {w' : World} : RetE ([], er) (.returned (.tuple #[.slice none 0 0, .int .i64 er])) w' := ⟨none, 0, rfl, Nat.le_refl _, Sl.nil_⟩
theorem retE_own {w' : World} {B : Nat} {v : Value} {L : List Entry} (h : OwnE w' B v L) : RetE (L, 0) (.returned (.tuple #[v, .int .i64 0])) w' := by
  obtain ⟨A, c, rfl, h1, _, h2⟩ := h.sl ent_len
  exact ⟨A, c, rfl, h1, h2⟩

theorem begun_any (l : List Entry) (A : Option Addr) (c : Nat) (day : Int) (w : World) (hs : SlEnt w A l) (hl : l.length ≤ 140737488355328) :
    Calls Tryz.prog 52 #[.slice A l.length c, .int .i64 day] w fun e w' => e = .returned (.bool (begun l day)) ∧ w = w' := by
  by_cases h0 : 0 < l.length
  · have hbg := begun_at (day := day) h0
    obtain ⟨b, off, rfl, hbl, hcell⟩ := hs.at_ (k := l.length - 1) (by omega)
    have q0 := hcell 0 _ rfl
    rw [Nat.add_zero] at q0
    clear hcell
    generalize l[l.length - 1].day = d at *
    have HB := Lib.hid hbg
    clear hbg
    have hx : (0 : Int) < (l.length : Int) := by omega
    go_enter Tryz.func52, Tryz.ntmps52
    go_wp2
    go_ret
    exact ⟨ret_bool (by rw [HB.out]), rfl⟩
  · have hn : l = [] := List.eq_nil_of_length_eq_zero (by omega)
    subst hn
    go_enter Tryz.func52, Tryz.ntmps52
    go_wp2
    go_ret
    exact ⟨rfl, rfl⟩
def lastDay (l : List Entry) : Int := match l.getLast? with | some e => e.day | none => 0
theorem lastDay_at {l : List Entry} (h : 0 < l.length) : lastDay l = (l[l.length - 1]'(by omega)).day := by
  unfold lastDay
  rw [List.getLast?_eq_getElem?, List.getElem?_eq_getElem (by omega)]
theorem lastDay_begun {l : List Entry} {day : Int} (h : 0 ≤ day) : begun l day = decide (day < lastDay l) := by
  unfold begun lastDay
  cases l.getLast? with
  | none => symm; simp; omega
  | some e => rfl
theorem clone_any (l : List Entry) (A : Option Addr) (c : Nat) (w : World) (B : Nat) (hs : SlEnt w A l) (hl : l.length ≤ 1000000) (hB : B ≤ w.heap.size) :
    Calls Tryz.prog 53 #[.slice A l.length c] w fun e w' => (∃ A' c', e = .returned (.slice A' l.length c') ∧ OwnE w' B (.slice A' l.length c') l) ∧ Below w.heap.size w w' := by
  cases A with
  | none =>
    have hn : l = [] := by
      rcases l with _ | ⟨x, l⟩
      · rfl
      · obtain ⟨_, _, e0, _⟩ := hs (by simp)
        cases e0
    subst hn
    have hq := fun W : World => Lib.run_eql_slice_nil (P := Tryz.prog) W 45 60 none 0 c 0 0 Tryz.underlying45
    go_enter Tryz.func53, Tryz.ntmps53
    go_wp2
    go_ret
    exact ⟨⟨none, 0, rfl, OwnL.nil_⟩, Below.refl _ _⟩
  | some a =>
    have hq := fun W : World => Lib.run_eql_slice_nil (P := Tryz.prog) W 45 60 (some a) l.length c 0 0 Tryz.underlying45
    go_enter Tryz.func53, Tryz.ntmps53
    have hown : OwnE (w.alloc (.cells #[] 60)) w.heap.size (.slice (some ⟨w.heap.size, 0, none⟩) 0 0) [] := OwnL.of_block (cs := #[]) (heap_alloc_new w _) (Nat.le_refl _) rfl (by unfold maxLen; simp) rfl ent_len
    have hb0 : Below w.heap.size w (w.alloc (.cells #[] 60)) := (Below.refl _ _).alloc (Nat.le_refl _) _
    go_wp2_with (at_builtin; go_loud (refine wpList_append_all _ rfl (.tmp 5) (.tmp 6) 45 60 rfl w.heap.size 5 40 Entry.cs elemEnt ent_len ent_one _ [] rfl hown (some a) c _ l rfl (hs.up hb0) (by first | omega | (simp; done) | (simp; omega)) (by first | omega | (simp; done) | (simp; omega)) (by first | omega | (simp; done) | (simp; omega)) ?_); intro v' w4 hown4 hgrow4 hat4)
    rw [List.nil_append] at hown4
    obtain ⟨A', c', rfl, _, _⟩ := hown4.form
    have hb4 : Below w.heap.size w w4 := below_push hb0 hown hgrow4 (by simp)
    go_ret
    exact ⟨⟨A', c', rfl, hown4.more hB⟩, hb4⟩

theorem postR_cases (l : List Entry) (x : Entry) : ((!ledOk l || !x.ok) = true ∧ postR l x = ([], 1)) ∨ (ledOk l = true ∧ x.ok = true ∧ begun l x.day = true ∧ postR l x = ([], 6)) ∨
    (ledOk l = true ∧ x.ok = true ∧ begun l x.day = false ∧ l.length = 5000 ∧ postR l x = ([], 2)) ∨ (ledOk l = true ∧ x.ok = true ∧ begun l x.day = false ∧ l.length < 5000 ∧ postR l x = (l ++ [x], 0)) := by
  unfold postR
  by_cases h1 : (!ledOk l || !x.ok) = true
  · rw [if_pos h1]
    exact .inl ⟨h1, rfl⟩
  · rw [if_neg h1]
    have h2 : ledOk l = true ∧ x.ok = true := by simpa using h1
    cases hb : begun l x.day with
    | true => rw [if_pos rfl]; exact .inr (.inl ⟨h2.1, h2.2, rfl, rfl⟩)
    | false =>
      rw [if_neg (by simp)]
      have h3 := (ledOk_iff.1 h2.1).1
      by_cases h5 : l.length = 5000
      · rw [if_pos h5]
        exact .inr (.inr (.inl ⟨h2.1, h2.2, rfl, h5, rfl⟩))
      · rw [if_neg h5]
        exact .inr (.inr (.inr ⟨h2.1, h2.2, rfl, by omega, rfl⟩))
theorem post_any (l : List Entry) (x : Entry) (A : Option Addr) (c : Nat) (w : World) (hs : SlEnt w A l) (hl : l.length ≤ 140737488355328) :
    Calls Tryz.prog 21 #[.slice A l.length c, x.v] w fun e w' => RetE (postR l x) e w' ∧ Below w.heap.size w w' := by
  rcases postR_cases l x with ⟨h1, hr⟩ | ⟨h1, h2, h3, hr⟩ | ⟨h1, h2, h3, h4, hr⟩ | ⟨h1, h2, h3, h4, hr⟩
  all_goals
    have HR := Lib.hid hr
    clear hr
  · cases hv : ledOk l with
    | false =>
      go_enter Tryz.func21, Tryz.ntmps21
      go_wp2_with ((go_at_call 35; refine (lvalid_any l A c _ (hs.up (by repeat' (first | (with_reducible exact Below.refl _ _) | (with_reducible assumption) | (with_reducible refine below_drewN ?_ _) | (with_reducible refine Below.drew ?_) | (with_reducible refine below_regrown_up _ _ ?_ ?_) | (with_reducible refine Below.alloc ?_ ?_ _) | (with_reducible refine Below.setCell ?_ ?_ _) | (with_reducible refine below_up ?_ ?_ (by assumption)) | (with_reducible exact Nat.le_refl _) | omega | (simp; done) | (simp; omega)))) hl).mono ?_; rintro e w1 ⟨rfl, hb1⟩; have hz1 := hb1.size; (try simp only [World.size_alloc, World.size_setCell, World.size_drew, size_drewN', size_grow, size_redrawn] at hz1); obtain ⟨hc1, hf1⟩ := bcellB (B := w.heap.size + 1) hb1 (by first | omega | (simp only [World.size_alloc, World.size_setCell, World.size_drew, size_drewN', size_grow, size_redrawn]; omega))); rw [hv])
      go_ret2
      refine ⟨by rw [HR.out]; exact retE_nil, ?_⟩
      repeat' (first
        | (with_reducible exact Below.refl _ _)
        | (with_reducible assumption)
        | (with_reducible refine below_drewN ?_ _)
        | (with_reducible refine Below.drew ?_)
        | (with_reducible refine below_regrown_up _ _ ?_ ?_)
        | (with_reducible refine Below.alloc ?_ ?_ _)
        | (with_reducible refine Below.setCell ?_ ?_ _)
        | (with_reducible refine below_up ?_ ?_ (by assumption))
        | (with_reducible exact Nat.le_refl _)
        | omega
        | (simp; done)
        | (simp; omega))
    | true =>
      have hx : x.ok = false := by simpa [hv] using h1
      go_enter Tryz.func21, Tryz.ntmps21
      go_wp2_with (first | (go_at_call 35; refine (lvalid_any l A c _ (hs.up (by repeat' (first | (with_reducible exact Below.refl _ _) | (with_reducible assumption) | (with_reducible refine below_drewN ?_ _) | (with_reducible refine Below.drew ?_) | (with_reducible refine below_regrown_up _ _ ?_ ?_) | (with_reducible refine Below.alloc ?_ ?_ _) | (with_reducible refine Below.setCell ?_ ?_ _) | (with_reducible refine below_up ?_ ?_ (by assumption)) | (with_reducible exact Nat.le_refl _) | omega | (simp; done) | (simp; omega)))) hl).mono ?_; rintro e w1 ⟨rfl, hb1⟩; have hz1 := hb1.size; (try simp only [World.size_alloc, World.size_setCell, World.size_drew, size_drewN', size_grow, size_redrawn] at hz1); obtain ⟨hc1, hf1⟩ := bcellB (B := w.heap.size + 1) hb1 (by first | omega | (simp only [World.size_alloc, World.size_setCell, World.size_drew, size_drewN', size_grow, size_redrawn]; omega))); rw [hv] | (go_at_call 51; refine (formed_any x _).mono ?_; rintro e w2 ⟨rfl, hb2⟩; have hz2 := hb2.size; (try simp only [World.size_alloc, World.size_setCell, World.size_drew, size_drewN', size_grow, size_redrawn] at hz2); obtain ⟨hc2, hf2⟩ := bcellB (B := w.heap.size + 1) hb2 (by first | omega | (simp only [World.size_alloc, World.size_setCell, World.size_drew, size_drewN', size_grow, size_redrawn]; omega))); rw [hx])
      go_ret2
      refine ⟨by rw [HR.out]; exact retE_nil, ?_⟩
      repeat' (first
        | (with_reducible exact Below.refl _ _)
        | (with_reducible assumption)
        | (with_reducible refine below_drewN ?_ _)
        | (with_reducible refine Below.drew ?_)
        | (with_reducible refine below_regrown_up _ _ ?_ ?_)
        | (with_reducible refine Below.alloc ?_ ?_ _)
        | (with_reducible refine Below.setCell ?_ ?_ _)
        | (with_reducible refine below_up ?_ ?_ (by assumption))
        | (with_reducible exact Nat.le_refl _)
        | omega
        | (simp; done)
        | (simp; omega))
  · go_enter Tryz.func21, Tryz.ntmps21
    go_wp2_with (first | (go_at_call 35; refine (lvalid_any l A c _ (hs.up (by repeat' (first | (with_reducible exact Below.refl _ _) | (with_reducible assumption) | (with_reducible refine below_drewN ?_ _) | (with_reducible refine Below.drew ?_) | (with_reducible refine below_regrown_up _ _ ?_ ?_) | (with_reducible refine Below.alloc ?_ ?_ _) | (with_reducible refine Below.setCell ?_ ?_ _) | (with_reducible refine below_up ?_ ?_ (by assumption)) | (with_reducible exact Nat.le_refl _) | omega | (simp; done) | (simp; omega)))) hl).mono ?_; rintro e w1 ⟨rfl, hb1⟩; have hz1 := hb1.size; (try simp only [World.size_alloc, World.size_setCell, World.size_drew, size_drewN', size_grow, size_redrawn] at hz1); obtain ⟨hc1, hf1⟩ := bcellB (B := w.heap.size + 1) hb1 (by first | omega | (simp only [World.size_alloc, World.size_setCell, World.size_drew, size_drewN', size_grow, size_redrawn]; omega))); rw [h1] | (go_at_call 51; refine (formed_any x _).mono ?_; rintro e w2 ⟨rfl, hb2⟩; have hz2 := hb2.size; (try simp only [World.size_alloc, World.size_setCell, World.size_drew, size_drewN', size_grow, size_redrawn] at hz2); obtain ⟨hc2, hf2⟩ := bcellB (B := w.heap.size + 1) hb2 (by first | omega | (simp only [World.size_alloc, World.size_setCell, World.size_drew, size_drewN', size_grow, size_redrawn]; omega))); rw [h2] | (go_at_call 52; refine (begun_any l A c x.day _ (hs.up (by repeat' (first | (with_reducible exact Below.refl _ _) | (with_reducible assumption) | (with_reducible refine below_drewN ?_ _) | (with_reducible refine Below.drew ?_) | (with_reducible refine below_regrown_up _ _ ?_ ?_) | (with_reducible refine Below.alloc ?_ ?_ _) | (with_reducible refine Below.setCell ?_ ?_ _) | (with_reducible refine below_up ?_ ?_ (by assumption)) | (with_reducible exact Nat.le_refl _) | omega | (simp; done) | (simp; omega)))) hl).mono ?_; rintro e w' ⟨rfl, rfl⟩); rw [h3])
    go_ret2
    refine ⟨by rw [HR.out]; exact retE_nil, ?_⟩
    repeat' (first
      | (with_reducible exact Below.refl _ _)
      | (with_reducible assumption)
      | (with_reducible refine below_drewN ?_ _)
      | (with_reducible refine Below.drew ?_)
      | (with_reducible refine below_regrown_up _ _ ?_ ?_)
      | (with_reducible refine Below.alloc ?_ ?_ _)
      | (with_reducible refine Below.setCell ?_ ?_ _)
      | (with_reducible refine below_up ?_ ?_ (by assumption))
      | (with_reducible exact Nat.le_refl _)
      | omega
      | (simp; done)
      | (simp; omega))
  · have h5 : ((l.length : Int) == 5000) = true := by rw [beq_iff_eq]; omega
    have H4 := Lib.hid h4
    clear h4
    go_enter Tryz.func21, Tryz.ntmps21
    go_wp2_with (first | (go_at_call 35; refine (lvalid_any l A c _ (hs.up (by repeat' (first | (with_reducible exact Below.refl _ _) | (with_reducible assumption) | (with_reducible refine below_drewN ?_ _) | (with_reducible refine Below.drew ?_) | (with_reducible refine below_regrown_up _ _ ?_ ?_) | (with_reducible refine Below.alloc ?_ ?_ _) | (with_reducible refine Below.setCell ?_ ?_ _) | (with_reducible refine below_up ?_ ?_ (by assumption)) | (with_reducible exact Nat.le_refl _) | omega | (simp; done) | (simp; omega)))) hl).mono ?_; rintro e w1 ⟨rfl, hb1⟩; have hz1 := hb1.size; (try simp only [World.size_alloc, World.size_setCell, World.size_drew, size_drewN', size_grow, size_redrawn] at hz1); obtain ⟨hc1, hf1⟩ := bcellB (B := w.heap.size + 1) hb1 (by first | omega | (simp only [World.size_alloc, World.size_setCell, World.size_drew, size_drewN', size_grow, size_redrawn]; omega))); rw [h1] | (go_at_call 51; refine (formed_any x _).mono ?_; rintro e w2 ⟨rfl, hb2⟩; have hz2 := hb2.size; (try simp only [World.size_alloc, World.size_setCell, World.size_drew, size_drewN', size_grow, size_redrawn] at hz2); obtain ⟨hc2, hf2⟩ := bcellB (B := w.heap.size + 1) hb2 (by first | omega | (simp only [World.size_alloc, World.size_setCell, World.size_drew, size_drewN', size_grow, size_redrawn]; omega))); rw [h2] | (go_at_call 52; refine (begun_any l A c x.day _ (hs.up (by repeat' (first | (with_reducible exact Below.refl _ _) | (with_reducible assumption) | (with_reducible refine below_drewN ?_ _) | (with_reducible refine Below.drew ?_) | (with_reducible refine below_regrown_up _ _ ?_ ?_) | (with_reducible refine Below.alloc ?_ ?_ _) | (with_reducible refine Below.setCell ?_ ?_ _) | (with_reducible refine below_up ?_ ?_ (by assumption)) | (with_reducible exact Nat.le_refl _) | omega | (simp; done) | (simp; omega)))) hl).mono ?_; rintro e w' ⟨rfl, rfl⟩); rw [h3])
    go_ret2
    refine ⟨by rw [HR.out]; exact retE_nil, ?_⟩
    repeat' (first
      | (with_reducible exact Below.refl _ _)
      | (with_reducible assumption)
      | (with_reducible refine below_drewN ?_ _)
      | (with_reducible refine Below.drew ?_)
      | (with_reducible refine below_regrown_up _ _ ?_ ?_)
      | (with_reducible refine Below.alloc ?_ ?_ _)
      | (with_reducible refine Below.setCell ?_ ?_ _)
      | (with_reducible refine below_up ?_ ?_ (by assumption))
      | (with_reducible exact Nat.le_refl _)
      | omega
      | (simp; done)
      | (simp; omega))
  · have h5 : ((l.length : Int) == 5000) = false := by rw [beq_eq_false_iff_ne]; omega
    go_enter Tryz.func21, Tryz.ntmps21
    go_wp2_with (first | (go_at_call 35; refine (lvalid_any l A c _ (hs.up (by repeat' (first | (with_reducible exact Below.refl _ _) | (with_reducible assumption) | (with_reducible refine below_drewN ?_ _) | (with_reducible refine Below.drew ?_) | (with_reducible refine below_regrown_up _ _ ?_ ?_) | (with_reducible refine Below.alloc ?_ ?_ _) | (with_reducible refine Below.setCell ?_ ?_ _) | (with_reducible refine below_up ?_ ?_ (by assumption)) | (with_reducible exact Nat.le_refl _) | omega | (simp; done) | (simp; omega)))) hl).mono ?_; rintro e w1 ⟨rfl, hb1⟩; have hz1 := hb1.size; (try simp only [World.size_alloc, World.size_setCell, World.size_drew, size_drewN', size_grow, size_redrawn] at hz1); obtain ⟨hc1, hf1⟩ := bcellB (B := w.heap.size + 1) hb1 (by first | omega | (simp only [World.size_alloc, World.size_setCell, World.size_drew, size_drewN', size_grow, size_redrawn]; omega))); rw [h1] | (go_at_call 51; refine (formed_any x _).mono ?_; rintro e w2 ⟨rfl, hb2⟩; have hz2 := hb2.size; (try simp only [World.size_alloc, World.size_setCell, World.size_drew, size_drewN', size_grow, size_redrawn] at hz2); obtain ⟨hc2, hf2⟩ := bcellB (B := w.heap.size + 1) hb2 (by first | omega | (simp only [World.size_alloc, World.size_setCell, World.size_drew, size_drewN', size_grow, size_redrawn]; omega))); rw [h2] | (go_at_call 52; refine (begun_any l A c x.day _ (hs.up (by repeat' (first | (with_reducible exact Below.refl _ _) | (with_reducible assumption) | (with_reducible refine below_drewN ?_ _) | (with_reducible refine Below.drew ?_) | (with_reducible refine below_regrown_up _ _ ?_ ?_) | (with_reducible refine Below.alloc ?_ ?_ _) | (with_reducible refine Below.setCell ?_ ?_ _) | (with_reducible refine below_up ?_ ?_ (by assumption)) | (with_reducible exact Nat.le_refl _) | omega | (simp; done) | (simp; omega)))) hl).mono ?_; rintro e w' ⟨rfl, rfl⟩); rw [h3])
    have hb02 : Below w.heap.size w w2 := by
      repeat' (first
        | (with_reducible exact Below.refl _ _)
        | (with_reducible assumption)
        | (with_reducible refine below_drewN ?_ _)
        | (with_reducible refine Below.drew ?_)
        | (with_reducible refine below_regrown_up _ _ ?_ ?_)
        | (with_reducible refine Below.alloc ?_ ?_ _)
        | (with_reducible refine Below.setCell ?_ ?_ _)
        | (with_reducible refine below_up ?_ ?_ (by assumption))
        | (with_reducible exact Nat.le_refl _)
        | omega
        | (simp; done)
        | (simp; omega))
    go_region_law (first
      | (go_simp; go_at_call 53; go_loud (refine (clone_any l A c _ w.heap.size (hs.up (by repeat' (first | (with_reducible exact Below.refl _ _) | (with_reducible assumption) | (with_reducible refine below_drewN ?_ _) | (with_reducible refine Below.drew ?_) | (with_reducible refine below_regrown_up _ _ ?_ ?_) | (with_reducible refine Below.alloc ?_ ?_ _) | (with_reducible refine Below.setCell ?_ ?_ _) | (with_reducible refine below_up ?_ ?_ (by assumption)) | (with_reducible exact Nat.le_refl _) | omega | (simp; done) | (simp; omega)))) (by omega) (by first | omega | (simp; done) | (simp; omega))).mono ?_); rintro e w3 ⟨⟨A3, c3, rfl, hown3⟩, hb3⟩; have hz3 := hb3.size; (try simp only [World.size_alloc, World.size_drew] at hz3); obtain ⟨hc3, hf3⟩ := bcellB (B := w.heap.size + 1) hb3 (by first | omega | (simp; done) | (simp; omega)))
      | (go_loud (refine step_push _ (by rfl) (.tmp 25) (.tmp 27) 45 60 (by rfl) w.heap.size 5 40 Entry.cs elemEnt ent_len ent_one _ l (by rfl) (by first | exact hown3 | exact hown3.alloc _) _ 1 x (by rfl) (by first | exact news_new _ _ _ _ rfl | exact fun j u hu => (hb3.cell (p := ⟨_, j, none⟩) (by simp)).trans (news_new _ _ _ _ rfl j u hu)) (by omega) (by omega) (by first | omega | (simp; done) | (simp; omega)) _ (by first | rfl | (simp; done)) ?_); intro gg cap w4 hown4 hgrow4 hat4 hlt4))
    all_goals
      go_wp2_with fail
      go_ret2
      refine ⟨by rw [HR.out]; exact retE_own hown4, ?_⟩
      first
        | exact below_push (by repeat' (first | (with_reducible exact Below.refl _ _) | (with_reducible assumption) | (with_reducible refine below_drewN ?_ _) | (with_reducible refine Below.drew ?_) | (with_reducible refine below_regrown_up _ _ ?_ ?_) | (with_reducible refine Below.alloc ?_ ?_ _) | (with_reducible refine Below.setCell ?_ ?_ _) | (with_reducible refine below_up ?_ ?_ (by assumption)) | (with_reducible exact Nat.le_refl _) | omega | (simp; done) | (simp; omega))) hown3 hgrow4 (by first | omega | (simp; done) | (simp; omega))
        | exact below_push (by repeat' (first | (with_reducible exact Below.refl _ _) | (with_reducible assumption) | (with_reducible refine below_drewN ?_ _) | (with_reducible refine Below.drew ?_) | (with_reducible refine below_regrown_up _ _ ?_ ?_) | (with_reducible refine Below.alloc ?_ ?_ _) | (with_reducible refine Below.setCell ?_ ?_ _) | (with_reducible refine below_up ?_ ?_ (by assumption)) | (with_reducible exact Nat.le_refl _) | omega | (simp; done) | (simp; omega))) (hown3.alloc _) hgrow4 (by first | omega | (simp; done) | (simp; omega))

end Go.Proofs.YtmlhoojcdidgkaaGreat
