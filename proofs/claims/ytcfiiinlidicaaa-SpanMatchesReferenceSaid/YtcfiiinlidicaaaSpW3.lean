/-
  Package span and its reference: counting; weekdays; the ends; what compares; the first wrong span.
-/
import Derived.Test.YtcfiiinlidicaaaSpW2
import Derived.Deep.RegionLaw
namespace Go.Proofs.Ytcfiiinlidicaaa
set_option linter.unusedSimpArgs false
set_option linter.unusedVariables false
open Go.RowKit
open Go.Sort (grow size_grow)

set_option maxHeartbeats 2000000
set_option maxRecDepth 100000
theorem idx_any (l : List Spn) (A : Option Addr) (c : Nat) (w : World) (hs : SlSpn w A l) (hl : l.length ≤ 140737488355328) :
    Calls Try.prog 45 #[.slice A l.length c, .func (.func 30) #[] #[]] w fun e w' => e = .returned (.int .i64 (ixOf (fun t => !t.ok) l)) ∧ Below w.heap.size w w' := by
  go_enter Try.func45, Try.ntmps45
  go_wp2
  go_loopw [8] (fun k wr => ∃ m : Nat, m ≤ l.length ∧ k = .int .i64 m ∧ Hid (∀ j (h : j < l.length), j < m → (!l[j].ok) = false) ∧ Below w.heap.size w wr) (fun k _ => l.length - (intOf k).toNat)
  case atStart => exact ⟨0, by omega, rfl, Lib.hid (fun j _ h => absurd h (by omega)), Below.refl _ _⟩
  case round =>
    obtain ⟨m, hm, rfl, hn, hbw⟩ := hrel
    have hbz := hbw.size
    by_cases hlt : m < l.length
    · obtain ⟨b, off, rfl, hbl, hcell⟩ := (hs.below hbw).at_ hlt
      have q0 := hcell 0 _ rfl
      have q1 := hcell 1 _ rfl
      rw [Nat.add_zero] at q0
      clear hcell
      go_wp2_with (go_at_call 30; refine (wrong_any l[m] _).mono ?_; rintro e w1 ⟨rfl, hb1⟩)
      · have hok : (!l[m].ok) = true := by first | assumption | simp [*]
        go_ret
        refine ⟨ret_int ?_, ?_⟩
        · exact (ixOf_found hlt hok hn.out).symm
        · repeat' (first
            | (with_reducible exact Below.refl _ _)
            | (with_reducible assumption)
            | (with_reducible refine below_drewN ?_ _)
            | (with_reducible refine Below.drew ?_)
            | (with_reducible refine below_regrown_up _ _ ?_ ?_)
            | (with_reducible refine Below.alloc ?_ ?_ _)
            | (with_reducible refine Below.setCell ?_ ?_ _)
            | (with_reducible refine below_up ?_ ?_ (by assumption))
            | (with_reducible exact Nat.le_refl _)
            | omega
            | (simp; done)
            | (simp; omega))
      · have hok : (!l[m].ok) = false := by first | assumption | simp [*]
        go_roundw
        case rel =>
          refine ⟨m + 1, by omega, by go_num, Lib.hid (fun j h hj => ?_), ?_⟩
          · by_cases e : j = m
            · subst e; exact hok
            · exact hn.out j h (by omega)
          · repeat' (first
              | (with_reducible exact Below.refl _ _)
              | (with_reducible assumption)
              | (with_reducible refine below_drewN ?_ _)
              | (with_reducible refine Below.drew ?_)
              | (with_reducible refine below_regrown_up _ _ ?_ ?_)
              | (with_reducible refine Below.alloc ?_ ?_ _)
              | (with_reducible refine Below.setCell ?_ ?_ _)
              | (with_reducible refine below_up ?_ ?_ (by assumption))
              | (with_reducible exact Nat.le_refl _)
              | omega
              | (simp; done)
              | (simp; omega))
        case measure => simp [intOf]; omega
    · obtain rfl : m = l.length := by omega
      go_wp2
      go_ret
      refine ⟨ret_int ?_, ?_⟩
      · exact (ixOf_none fun j h => hn.out j h h).symm
      · repeat' (first
          | (with_reducible exact Below.refl _ _)
          | (with_reducible assumption)
          | (with_reducible refine below_drewN ?_ _)
          | (with_reducible refine Below.drew ?_)
          | (with_reducible refine below_regrown_up _ _ ?_ ?_)
          | (with_reducible refine Below.alloc ?_ ?_ _)
          | (with_reducible refine Below.setCell ?_ ?_ _)
          | (with_reducible refine below_up ?_ ?_ (by assumption))
          | (with_reducible exact Nat.le_refl _)
          | omega
          | (simp; done)
          | (simp; omega))
theorem con_any (l : List Spn) (A : Option Addr) (c : Nat) (w : World) (hs : SlSpn w A l) (hl : l.length ≤ 140737488355328) :
    Calls Try.prog 37 #[.slice A l.length c, .func (.func 30) #[] #[]] w fun e w' => e = .returned (.bool (!l.all Spn.ok)) ∧ Below w.heap.size w w' := by
  have h := ixOf_any (fun t : Spn => !t.ok) l
  have h2 : (l.any fun t => !t.ok) = !l.all Spn.ok := by rw [List.not_all_eq_any_not]
  rw [h2] at h
  have H := Lib.hid h
  clear h h2
  go_enter Try.func37, Try.ntmps37
  go_wp2_with (go_at_call 45; refine (idx_any l A c _ hs hl).mono ?_; rintro e w1 ⟨rfl, hb1⟩)
  go_ret
  refine ⟨ret_bool ?_, ?_⟩
  · exact H.out
  · repeat' (first
      | (with_reducible exact Below.refl _ _)
      | (with_reducible assumption)
      | (with_reducible refine below_drewN ?_ _)
      | (with_reducible refine Below.drew ?_)
      | (with_reducible refine below_regrown_up _ _ ?_ ?_)
      | (with_reducible refine Below.alloc ?_ ?_ _)
      | (with_reducible refine Below.setCell ?_ ?_ _)
      | (with_reducible refine below_up ?_ ?_ (by assumption))
      | (with_reducible exact Nat.le_refl _)
      | omega
      | (simp; done)
      | (simp; omega))
def wkR (n : Int) : Int × Int := if n < 0 ∨ 366 < n then (0, 1) else ((n + 3) % 7, 0)
theorem wkday_any (n : Int) (w : World) : Calls Try.prog 24 #[.int .i64 n] w fun e w' => e = .returned (.tuple #[.int .i64 (wkR n).1, .int .i64 (wkR n).2]) ∧ Below w.heap.size w w' := by
  by_cases h : n < 0 ∨ 366 < n
  · have e1 : wkR n = (0, 1) := by unfold wkR; rw [if_pos h]
    rw [e1]
    cases c1 : decide (n < 0) <;> cases c2 : decide (366 < n)
    case false.false => simp at c1 c2; omega
    all_goals
      go_enter Try.func24, Try.ntmps24
      go_wp2
      go_ret2
      exact ⟨rfl, Below.refl _ _⟩
  · have e1 : wkR n = ((n + 3) % 7, 0) := by unfold wkR; rw [if_neg h]
    rw [e1]
    have c1 : decide (n < 0) = false := by simp; omega
    have c2 : decide (366 < n) = false := by simp; omega
    have h0 : 0 ≤ n + 3 := by omega
    have h1 : IntKind.i64.wrap (n + 3) = n + 3 := IntWalk.i64_in _ (by omega)
    clear h
    go_enter Try.func24, Try.ntmps24
    go_wp2
    go_ret2
    exact ⟨rfl, Below.refl _ _⟩
theorem rwkday_any (n : Int) (w : World) : Calls Try.prog 25 #[.int .i64 n] w fun e w' => e = .returned (.tuple #[.int .i64 (wkR n).1, .int .i64 (wkR n).2]) ∧ Below w.heap.size w w' := by
  by_cases h : n < 0 ∨ 366 < n
  · have e1 : wkR n = (0, 1) := by unfold wkR; rw [if_pos h]
    rw [e1]
    cases c1 : decide (n < 0) <;> cases c2 : decide (366 < n)
    case false.false => simp at c1 c2; omega
    all_goals
      go_enter Try.func25, Try.ntmps25
      go_wp2
      go_ret2
      exact ⟨rfl, Below.refl _ _⟩
  · have e1 : wkR n = ((n + 3) % 7, 0) := by unfold wkR; rw [if_neg h]
    rw [e1]
    have c1 : decide (n < 0) = false := by simp; omega
    have c2 : decide (366 < n) = false := by simp; omega
    have h0 : 0 ≤ n + 3 := by omega
    have h1 : IntKind.i64.wrap (n + 3) = n + 3 := IntWalk.i64_in _ (by omega)
    clear h
    go_enter Try.func25, Try.ntmps25
    go_wp2
    go_ret2
    exact ⟨rfl, Below.refl _ _⟩
def cntL (l : List Spn) : Int := (l.map fun s => s.til - s.frm).sum
theorem cntL_step {l : List Spn} {m : Nat} (h : m < l.length) : cntL (l.take (m + 1)) = cntL (l.take m) + (l[m].til - l[m].frm) := by
  unfold cntL
  rw [List.take_succ_eq_append_getElem h, List.map_append, List.sum_append]
  simp
theorem cntL_bd : ∀ {l : List Spn}, (∀ s ∈ l, s.ok = true) → 0 ≤ cntL l ∧ cntL l ≤ 1000000000 * (l.length : Int)
  | [], _ => by simp [cntL]
  | s :: l, h => by
    have h1 := cntL_bd (l := l) (fun x hx => h x (by simp [hx]))
    have h2 := Spn.ok_iff.1 (h s (by simp))
    unfold cntL at h1 ⊢
    rw [List.map_cons, List.sum_cons, List.length_cons]
    omega
def cntR (l : List Spn) : Int × Int := if setOk l = true then (cntL l, 0) else (0, 1)
theorem count_any (l : List Spn) (A : Option Addr) (c : Nat) (w : World) (hs : SlSpn w A l) (hl : l.length ≤ 140737488355328) :
    Calls Try.prog 20 #[.slice A l.length c] w fun e w' => e = .returned (.tuple #[.int .i64 (cntR l).1, .int .i64 (cntR l).2]) ∧ Below w.heap.size w w' := by
  cases hv : setOk l with
  | false =>
    have e1 : cntR l = (0, 1) := by unfold cntR; rw [hv]; rfl
    rw [e1]
    go_enter Try.func20, Try.ntmps20
    go_wp2_with (go_at_call 11; refine (valid_any l A c _ hs hl).mono ?_; rintro e w1 ⟨rfl, hb1⟩; have hz1 := hb1.size; (try simp only [World.size_alloc, World.size_setCell, World.size_drew, size_drewN', size_grow, size_redrawn] at hz1); obtain ⟨hc1, hf1⟩ := bcellB (B := w.heap.size) hb1 (by first | omega | (simp only [World.size_alloc, World.size_setCell, World.size_drew, size_drewN', size_grow, size_redrawn]; omega)); rw [hv])
    go_ret2
    exact ⟨rfl, hb1⟩
  | true =>
    have e1 : cntR l = (cntL l, 0) := by unfold cntR; rw [hv]; rfl
    rw [e1]
    have HOK := Lib.hid (setOk_iff.1 hv).1
    have hl5 := (setOk_iff.1 hv).2.2
    go_enter Try.func20, Try.ntmps20
    go_wp2_with (go_at_call 11; refine (valid_any l A c _ hs hl).mono ?_; rintro e w1 ⟨rfl, hb1⟩; have hz1 := hb1.size; (try simp only [World.size_alloc, World.size_setCell, World.size_drew, size_drewN', size_grow, size_redrawn] at hz1); obtain ⟨hc1, hf1⟩ := bcellB (B := w.heap.size) hb1 (by first | omega | (simp only [World.size_alloc, World.size_setCell, World.size_drew, size_drewN', size_grow, size_redrawn]; omega)); rw [hv])
    go_loopw [4, 12] (fun d i wr => ∃ m : Nat, m ≤ l.length ∧ i = .int .i64 m ∧ d = .int .i64 (cntL (l.take m)) ∧ Below w.heap.size w wr) (fun _ i _ => l.length - (intOf i).toNat); case atStart => exact ⟨0, by omega, rfl, rfl, hb1⟩
    case round =>
      obtain ⟨m, hm, rfl, rfl, hbw⟩ := hrel
      have hbz := hbw.size
      by_cases hlt : m < l.length
      · have hx1 : (m : Int) < (l.length : Int) := by omega
        have hx4 : (0 : Int) ≤ (m : Int) := by omega
        obtain ⟨b, off, rfl, hbl, hcell⟩ := (hs.below hbw).at_ hlt
        have q0 := hcell 0 _ rfl
        have q1 := hcell 1 _ rfl
        rw [Nat.add_zero] at q0
        clear hcell
        have hst := cntL_step hlt
        have hbd := cntL_bd (l := l.take m) (fun x hx => HOK.out x (List.mem_of_mem_take hx))
        rw [List.length_take] at hbd
        have hsk := Spn.ok_iff.1 (HOK.out _ (List.getElem_mem hlt))
        have HST := Lib.hid hst
        clear hst
        generalize cntL (l.take m) = D at *
        have k1 : IntKind.i64.wrap (l[m].til - l[m].frm) = l[m].til - l[m].frm := IntWalk.i64_in _ (by omega)
        have k2 : IntKind.i64.wrap (D + (l[m].til - l[m].frm)) = D + (l[m].til - l[m].frm) := IntWalk.i64_in _ (by omega)
        have k3 : IntKind.i64.wrap (D + l[m].til) = D + l[m].til := IntWalk.i64_in _ (by omega)
        have k4 : IntKind.i64.wrap (D + l[m].til - l[m].frm) = D + l[m].til - l[m].frm := IntWalk.i64_in _ (by omega)
        go_wp2_with fail
        try (go_quiet (fail); go_wp2_with fail)
        go_roundw
        case rel => exact ⟨m + 1, by omega, by go_num, by first | (rw [HST.out]; done) | (rw [HST.out]; congr 1; omega), (by repeat' (first | (with_reducible exact Below.refl _ _) | (with_reducible assumption) | (with_reducible refine below_drewN ?_ _) | (with_reducible refine Below.drew ?_) | (with_reducible refine below_regrown_up _ _ ?_ ?_) | (with_reducible refine Below.alloc ?_ ?_ _) | (with_reducible refine Below.setCell ?_ ?_ _) | (with_reducible refine below_up ?_ ?_ (by assumption)) | (with_reducible exact Nat.le_refl _) | omega | (simp; done) | (simp; omega)))⟩
        case measure => simp [intOf]; omega
      · obtain rfl : m = l.length := by omega
        rw [List.take_of_length_le (Nat.le_refl _)]
        go_wp2
        go_ret2
        exact ⟨rfl, hbw⟩
theorem rcount_any (l : List Spn) (A : Option Addr) (c : Nat) (w : World) (hs : SlSpn w A l) (hl : l.length ≤ 140737488355328) :
    Calls Try.prog 21 #[.slice A l.length c] w fun e w' => e = .returned (.tuple #[.int .i64 (cntR l).1, .int .i64 (cntR l).2]) ∧ Below w.heap.size w w' := by
  cases hv : setOk l with
  | false =>
    have e1 : cntR l = (0, 1) := by unfold cntR; rw [hv]; rfl
    rw [e1]
    go_enter Try.func21, Try.ntmps21
    go_wp2_with (go_at_call 12; refine (rvalid_any l A c _ hs hl).mono ?_; rintro e w1 ⟨rfl, hb1⟩; have hz1 := hb1.size; (try simp only [World.size_alloc, World.size_setCell, World.size_drew, size_drewN', size_grow, size_redrawn] at hz1); obtain ⟨hc1, hf1⟩ := bcellB (B := w.heap.size) hb1 (by first | omega | (simp only [World.size_alloc, World.size_setCell, World.size_drew, size_drewN', size_grow, size_redrawn]; omega)); rw [hv])
    go_ret2
    exact ⟨rfl, hb1⟩
  | true =>
    have e1 : cntR l = (cntL l, 0) := by unfold cntR; rw [hv]; rfl
    rw [e1]
    have HOK := Lib.hid (setOk_iff.1 hv).1
    have hl5 := (setOk_iff.1 hv).2.2
    go_enter Try.func21, Try.ntmps21
    go_wp2_with (go_at_call 12; refine (rvalid_any l A c _ hs hl).mono ?_; rintro e w1 ⟨rfl, hb1⟩; have hz1 := hb1.size; (try simp only [World.size_alloc, World.size_setCell, World.size_drew, size_drewN', size_grow, size_redrawn] at hz1); obtain ⟨hc1, hf1⟩ := bcellB (B := w.heap.size) hb1 (by first | omega | (simp only [World.size_alloc, World.size_setCell, World.size_drew, size_drewN', size_grow, size_redrawn]; omega)); rw [hv])
    go_loopw [5, 6] (fun d i wr => ∃ m : Nat, m ≤ l.length ∧ i = .int .i64 m ∧ d = .int .i64 (cntL (l.take m)) ∧ Below w.heap.size w wr) (fun _ i _ => l.length - (intOf i).toNat); case atStart => exact ⟨0, by omega, rfl, rfl, hb1⟩
    case round =>
      obtain ⟨m, hm, rfl, rfl, hbw⟩ := hrel
      have hbz := hbw.size
      by_cases hlt : m < l.length
      · have hx1 : (m : Int) < (l.length : Int) := by omega
        have hx4 : (0 : Int) ≤ (m : Int) := by omega
        obtain ⟨b, off, rfl, hbl, hcell⟩ := (hs.below hbw).at_ hlt
        have q0 := hcell 0 _ rfl
        have q1 := hcell 1 _ rfl
        rw [Nat.add_zero] at q0
        clear hcell
        have hst := cntL_step hlt
        have hbd := cntL_bd (l := l.take m) (fun x hx => HOK.out x (List.mem_of_mem_take hx))
        rw [List.length_take] at hbd
        have hsk := Spn.ok_iff.1 (HOK.out _ (List.getElem_mem hlt))
        have HST := Lib.hid hst
        clear hst
        generalize cntL (l.take m) = D at *
        have k1 : IntKind.i64.wrap (l[m].til - l[m].frm) = l[m].til - l[m].frm := IntWalk.i64_in _ (by omega)
        have k2 : IntKind.i64.wrap (D + (l[m].til - l[m].frm)) = D + (l[m].til - l[m].frm) := IntWalk.i64_in _ (by omega)
        have k3 : IntKind.i64.wrap (D + l[m].til) = D + l[m].til := IntWalk.i64_in _ (by omega)
        have k4 : IntKind.i64.wrap (D + l[m].til - l[m].frm) = D + l[m].til - l[m].frm := IntWalk.i64_in _ (by omega)
        go_wp2_with fail
        try (go_quiet (fail); go_wp2_with fail)
        go_roundw
        case rel => exact ⟨m + 1, by omega, by go_num, by first | (rw [HST.out]; done) | (rw [HST.out]; congr 1; omega), (by repeat' (first | (with_reducible exact Below.refl _ _) | (with_reducible assumption) | (with_reducible refine below_drewN ?_ _) | (with_reducible refine Below.drew ?_) | (with_reducible refine below_regrown_up _ _ ?_ ?_) | (with_reducible refine Below.alloc ?_ ?_ _) | (with_reducible refine Below.setCell ?_ ?_ _) | (with_reducible refine below_up ?_ ?_ (by assumption)) | (with_reducible exact Nat.le_refl _) | omega | (simp; done) | (simp; omega)))⟩
        case measure => simp [intOf]; omega
      · obtain rfl : m = l.length := by omega
        rw [List.take_of_length_le (Nat.le_refl _)]
        go_wp2
        go_ret2
        exact ⟨rfl, hbw⟩
theorem elemE3 : Elem Try.prog 49 52 3 24 := elem_mk Try.underlying49 (by kernel_rfl)
theorem elemSpn : Elem Try.prog 22 42 2 16 := elem_mk Try.underlying22 (by kernel_rfl)
def endsOf (l : List Spn) (mark : Int) : List E3 := l.flatMap fun s => [(s.frm, mark, 1), (s.til, mark, -1)]
theorem endsOf_step {l : List Spn} {mark : Int} {m : Nat} (h : m < l.length) : endsOf (l.take (m + 1)) mark = endsOf (l.take m) mark ++ [(l[m].frm, mark, 1), (l[m].til, mark, -1)] := by
  unfold endsOf
  rw [List.take_succ_eq_append_getElem h, List.flatMap_append]
  simp
theorem endsOf_len (l : List Spn) (mark : Int) : (endsOf l mark).length = 2 * l.length := by
  induction l with
  | nil => rfl
  | cons s l ih =>
    have e : endsOf (s :: l) mark = [(s.frm, mark, 1), (s.til, mark, -1)] ++ endsOf l mark := rfl
    rw [e, List.length_append, ih, List.length_cons]
    simp
    omega
theorem ends_any (l : List Spn) (A : Option Addr) (c : Nat) (mark : Int) (w : World) (hs : SlSpn w A l) (hl : l.length ≤ 5000) :
    Calls Try.prog 38 #[.slice A l.length c, .int .i64 mark] w fun e w' => (∃ v, e = .returned v ∧ OwnL w' w.heap.size 52 3 e3C v (endsOf l mark)) ∧ Below w.heap.size w w' := by
  go_enter Try.func38, Try.ntmps38
  go_wp2
  go_loopw [5, 10] (fun v i wr => ∃ m : Nat, m ≤ l.length ∧ i = .int .i64 m ∧ OwnL wr w.heap.size 52 3 e3C v (endsOf (l.take m) mark) ∧ Below w.heap.size w wr) (fun _ i _ => l.length - (intOf i).toNat)
  case atStart => exact ⟨0, by omega, rfl, OwnL.nil_, Below.refl _ _⟩
  case round =>
    obtain ⟨m, hm, rfl, hown, hbw⟩ := hrel
    have hbz := hbw.size
    by_cases hlt : m < l.length
    · have hx1 : (m : Int) < (l.length : Int) := by omega
      have hx4 : (0 : Int) ≤ (m : Int) := by omega
      obtain ⟨b, off, rfl, hbl, hcell⟩ := (hs.below hbw).at_ hlt
      have q0 := hcell 0 _ rfl
      have q1 := hcell 1 _ rfl
      rw [Nat.add_zero] at q0
      clear hcell
      have hst := endsOf_step (mark := mark) hlt
      have hln := endsOf_len (l.take m) mark
      rw [List.length_take] at hln
      generalize endsOf (l.take m) mark = out at *
      have HST := Lib.hid hst
      clear hst
      have hMS : ∀ (W : World) (n : Nat), n = W.heap.size → Sl (W.alloc (.cells #[.int .i64 l[m].frm, .int .i64 mark, .int .i64 1, .int .i64 l[m].til, .int .i64 mark, .int .i64 (-1)] 52)) (n + 1) 3 e3C (some ⟨n, 0, none⟩) [(l[m].frm, mark, 1), (l[m].til, mark, -1)] := fun W n hn => by
        subst hn
        exact sl_of_box e3_len (fun o => World.cell?_alloc_new W _ _ o) (by omega) rfl
      go_wp2_with (at_builtin; go_loud (refine wpList_append_all _ rfl (.tmp 14) (.tmp 23) 49 52 rfl w.heap.size 3 24 e3C elemE3 e3_len e3_one _ out rfl ((hown.alloc _).alloc _) _ _ _ [(l[m].frm, mark, 1), (l[m].til, mark, -1)] rfl (hMS _ _ (by simp)) (by simp; omega) (by first | omega | (simp; done) | (simp; omega)) (by first | omega | (simp; done) | (simp; omega)) ?_); intro v2 w5 hown5 hgrow5 hat5)
      have hb5 : Below w.heap.size w w5 := below_push (by repeat' (first | (with_reducible exact Below.refl _ _) | (with_reducible assumption) | (with_reducible refine below_drewN ?_ _) | (with_reducible refine Below.drew ?_) | (with_reducible refine below_regrown_up _ _ ?_ ?_) | (with_reducible refine Below.alloc ?_ ?_ _) | (with_reducible refine Below.setCell ?_ ?_ _) | (with_reducible refine below_up ?_ ?_ (by assumption)) | (with_reducible exact Nat.le_refl _) | omega | (simp; done) | (simp; omega))) ((hown.alloc _).alloc _) hgrow5 (by first | omega | (simp; done) | (simp; omega))
      go_roundw
      case rel =>
        refine ⟨m + 1, by omega, by go_num, ?_, hb5⟩
        rw [HST.out]
        exact hown5
      case measure => simp [intOf]; omega
    · obtain rfl : m = l.length := by omega
      rw [List.take_of_length_le (Nat.le_refl _)] at hown
      go_wp2
      go_ret
      exact ⟨⟨_, rfl, hown⟩, hbw⟩
end Go.Proofs.Ytcfiiinlidicaaa
