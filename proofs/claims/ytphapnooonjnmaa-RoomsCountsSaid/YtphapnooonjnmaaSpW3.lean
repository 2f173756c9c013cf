/-
  Package span and its reference: counting; weekdays; the ends; what compares; the first wrong span.
-/
import Derived.Test.YtphapnooonjnmaaSpW2
import Derived.Deep.RegionLaw
namespace Go.Proofs.Ytphapnooonjnmaa
set_option linter.unusedSimpArgs false
set_option linter.unusedVariables false
open Go.RowKit
open Go.Sort (grow size_grow)

set_option maxHeartbeats 2000000
set_option maxRecDepth 100000
theorem idx_any (l : List Spn) (A : Option Addr) (c : Nat) (w : World) (hs : SlSpn w A l) (hl : l.length ≤ 140737488355328) :
    Calls Try.prog 53 #[.slice A l.length c, .func (.func 52) #[] #[]] w fun e w' => e = .returned (.int .i64 (ixOf (fun t => !t.ok) l)) ∧ Below w.heap.size w w' := by
  go_enter Try.func53, Try.ntmps53
  go_wp2
  go_loopw [8] (fun k wr => ∃ m : Nat, m ≤ l.length ∧ k = .int .i64 m ∧ Hid (∀ j (h : j < l.length), j < m → (!l[j].ok) = false) ∧ Below w.heap.size w wr) (fun k _ => l.length - (intOf k).toNat)
  case atStart => exact ⟨0, by omega, rfl, Lib.hid (fun j _ h => absurd h (by omega)), Below.refl _ _⟩
  case round =>
    obtain ⟨m, hm, rfl, hn, hbw⟩ := hrel
    have hbz := hbw.size
    by_cases hlt : m < l.length
    · obtain ⟨b, off, rfl, hbl, hcell⟩ := (hs.below hbw).at_ hlt
      have q0 := hcell 0 _ rfl
      have q1 := hcell 1 _ rfl
      rw [Nat.add_zero] at q0
      clear hcell
      go_wp2_with (go_at_call 52; refine (wrong_any l[m] _).mono ?_; rintro e w1 ⟨rfl, hb1⟩)
      · have hok : (!l[m].ok) = true := by first | assumption | simp [*]
        go_ret
        refine ⟨ret_int ?_, ?_⟩
        · exact (ixOf_found hlt hok hn.out).symm
        · repeat' (first
            | (with_reducible exact Below.refl _ _)
            | (with_reducible assumption)
            | (with_reducible refine below_drewN ?_ _)
            | (with_reducible refine Below.drew ?_)
            | (with_reducible refine below_regrown_up _ _ ?_ ?_)
            | (with_reducible refine Below.alloc ?_ ?_ _)
            | (with_reducible refine Below.setCell ?_ ?_ _)
            | (with_reducible refine below_up ?_ ?_ (by assumption))
            | (with_reducible exact Nat.le_refl _)
            | omega
            | (simp; done)
            | (simp; omega))
      · have hok : (!l[m].ok) = false := by first | assumption | simp [*]
        go_roundw
        case rel =>
          refine ⟨m + 1, by omega, by go_num, Lib.hid (fun j h hj => ?_), ?_⟩
          · by_cases e : j = m
            · subst e; exact hok
            · exact hn.out j h (by omega)
          · repeat' (first
              | (with_reducible exact Below.refl _ _)
              | (with_reducible assumption)
              | (with_reducible refine below_drewN ?_ _)
              | (with_reducible refine Below.drew ?_)
              | (with_reducible refine below_regrown_up _ _ ?_ ?_)
              | (with_reducible refine Below.alloc ?_ ?_ _)
              | (with_reducible refine Below.setCell ?_ ?_ _)
              | (with_reducible refine below_up ?_ ?_ (by assumption))
              | (with_reducible exact Nat.le_refl _)
              | omega
              | (simp; done)
              | (simp; omega))
        case measure => simp [intOf]; omega
    · obtain rfl : m = l.length := by omega
      go_wp2
      go_ret
      refine ⟨ret_int ?_, ?_⟩
      · exact (ixOf_none fun j h => hn.out j h h).symm
      · repeat' (first
          | (with_reducible exact Below.refl _ _)
          | (with_reducible assumption)
          | (with_reducible refine below_drewN ?_ _)
          | (with_reducible refine Below.drew ?_)
          | (with_reducible refine below_regrown_up _ _ ?_ ?_)
          | (with_reducible refine Below.alloc ?_ ?_ _)
          | (with_reducible refine Below.setCell ?_ ?_ _)
          | (with_reducible refine below_up ?_ ?_ (by assumption))
          | (with_reducible exact Nat.le_refl _)
          | omega
          | (simp; done)
          | (simp; omega))
theorem con_any (l : List Spn) (A : Option Addr) (c : Nat) (w : World) (hs : SlSpn w A l) (hl : l.length ≤ 140737488355328) :
    Calls Try.prog 44 #[.slice A l.length c, .func (.func 52) #[] #[]] w fun e w' => e = .returned (.bool (!l.all Spn.ok)) ∧ Below w.heap.size w w' := by
  have h := ixOf_any (fun t : Spn => !t.ok) l
  have h2 : (l.any fun t => !t.ok) = !l.all Spn.ok := by rw [List.not_all_eq_any_not]
  rw [h2] at h
  have H := Lib.hid h
  clear h h2
  go_enter Try.func44, Try.ntmps44
  go_wp2_with (go_at_call 53; refine (idx_any l A c _ hs hl).mono ?_; rintro e w1 ⟨rfl, hb1⟩)
  go_ret
  refine ⟨ret_bool ?_, ?_⟩
  · exact H.out
  · repeat' (first
      | (with_reducible exact Below.refl _ _)
      | (with_reducible assumption)
      | (with_reducible refine below_drewN ?_ _)
      | (with_reducible refine Below.drew ?_)
      | (with_reducible refine below_regrown_up _ _ ?_ ?_)
      | (with_reducible refine Below.alloc ?_ ?_ _)
      | (with_reducible refine Below.setCell ?_ ?_ _)
      | (with_reducible refine below_up ?_ ?_ (by assumption))
      | (with_reducible exact Nat.le_refl _)
      | omega
      | (simp; done)
      | (simp; omega))
def wkR (n : Int) : Int × Int := if n < 0 ∨ 366 < n then (0, 1) else ((n + 3) % 7, 0)
def cntL (l : List Spn) : Int := (l.map fun s => s.til - s.frm).sum
theorem cntL_step {l : List Spn} {m : Nat} (h : m < l.length) : cntL (l.take (m + 1)) = cntL (l.take m) + (l[m].til - l[m].frm) := by
  unfold cntL
  rw [List.take_succ_eq_append_getElem h, List.map_append, List.sum_append]
  simp
theorem cntL_bd : ∀ {l : List Spn}, (∀ s ∈ l, s.ok = true) → 0 ≤ cntL l ∧ cntL l ≤ 1000000000 * (l.length : Int)
  | [], _ => by simp [cntL]
  | s :: l, h => by
    have h1 := cntL_bd (l := l) (fun x hx => h x (by simp [hx]))
    have h2 := Spn.ok_iff.1 (h s (by simp))
    unfold cntL at h1 ⊢
    rw [List.map_cons, List.sum_cons, List.length_cons]
    omega
def cntR (l : List Spn) : Int × Int := if setOk l = true then (cntL l, 0) else (0, 1)
theorem elemE3 : Elem Try.prog 76 79 3 24 := elem_mk Try.underlying76 (by kernel_rfl)
theorem elemSpn : Elem Try.prog 23 27 2 16 := elem_mk Try.underlying23 (by kernel_rfl)
def endsOf (l : List Spn) (mark : Int) : List E3 := l.flatMap fun s => [(s.frm, mark, 1), (s.til, mark, -1)]
theorem endsOf_step {l : List Spn} {mark : Int} {m : Nat} (h : m < l.length) : endsOf (l.take (m + 1)) mark = endsOf (l.take m) mark ++ [(l[m].frm, mark, 1), (l[m].til, mark, -1)] := by
  unfold endsOf
  rw [List.take_succ_eq_append_getElem h, List.flatMap_append]
  simp
theorem endsOf_len (l : List Spn) (mark : Int) : (endsOf l mark).length = 2 * l.length := by
  induction l with
  | nil => rfl
  | cons s l ih =>
    have e : endsOf (s :: l) mark = [(s.frm, mark, 1), (s.til, mark, -1)] ++ endsOf l mark := rfl
    rw [e, List.length_append, ih, List.length_cons]
    simp
    omega
theorem ends_any (l : List Spn) (A : Option Addr) (c : Nat) (mark : Int) (w : World) (hs : SlSpn w A l) (hl : l.length ≤ 5000) :
    Calls Try.prog 59 #[.slice A l.length c, .int .i64 mark] w fun e w' => (∃ v, e = .returned v ∧ OwnL w' w.heap.size 79 3 e3C v (endsOf l mark)) ∧ Below w.heap.size w w' := by
  go_enter Try.func59, Try.ntmps59
  go_wp2
  go_loopw [5, 10] (fun v i wr => ∃ m : Nat, m ≤ l.length ∧ i = .int .i64 m ∧ OwnL wr w.heap.size 79 3 e3C v (endsOf (l.take m) mark) ∧ Below w.heap.size w wr) (fun _ i _ => l.length - (intOf i).toNat)
  case atStart => exact ⟨0, by omega, rfl, OwnL.nil_, Below.refl _ _⟩
  case round =>
    obtain ⟨m, hm, rfl, hown, hbw⟩ := hrel
    have hbz := hbw.size
    by_cases hlt : m < l.length
    · have hx1 : (m : Int) < (l.length : Int) := by omega
      have hx4 : (0 : Int) ≤ (m : Int) := by omega
      obtain ⟨b, off, rfl, hbl, hcell⟩ := (hs.below hbw).at_ hlt
      have q0 := hcell 0 _ rfl
      have q1 := hcell 1 _ rfl
      rw [Nat.add_zero] at q0
      clear hcell
      have hst := endsOf_step (mark := mark) hlt
      have hln := endsOf_len (l.take m) mark
      rw [List.length_take] at hln
      generalize endsOf (l.take m) mark = out at *
      have HST := Lib.hid hst
      clear hst
      have hMS : ∀ (W : World) (n : Nat), n = W.heap.size → Sl (W.alloc (.cells #[.int .i64 l[m].frm, .int .i64 mark, .int .i64 1, .int .i64 l[m].til, .int .i64 mark, .int .i64 (-1)] 79)) (n + 1) 3 e3C (some ⟨n, 0, none⟩) [(l[m].frm, mark, 1), (l[m].til, mark, -1)] := fun W n hn => by
        subst hn
        exact sl_of_box e3_len (fun o => World.cell?_alloc_new W _ _ o) (by omega) rfl
      go_wp2_with (at_builtin; go_loud (refine wpList_append_all _ rfl (.tmp 14) (.tmp 23) 76 79 rfl w.heap.size 3 24 e3C elemE3 e3_len e3_one _ out rfl ((hown.alloc _).alloc _) _ _ _ [(l[m].frm, mark, 1), (l[m].til, mark, -1)] rfl (hMS _ _ (by simp)) (by simp; omega) (by first | omega | (simp; done) | (simp; omega)) (by first | omega | (simp; done) | (simp; omega)) ?_); intro v2 w5 hown5 hgrow5 hat5)
      have hb5 : Below w.heap.size w w5 := below_push (by repeat' (first | (with_reducible exact Below.refl _ _) | (with_reducible assumption) | (with_reducible refine below_drewN ?_ _) | (with_reducible refine Below.drew ?_) | (with_reducible refine below_regrown_up _ _ ?_ ?_) | (with_reducible refine Below.alloc ?_ ?_ _) | (with_reducible refine Below.setCell ?_ ?_ _) | (with_reducible refine below_up ?_ ?_ (by assumption)) | (with_reducible exact Nat.le_refl _) | omega | (simp; done) | (simp; omega))) ((hown.alloc _).alloc _) hgrow5 (by first | omega | (simp; done) | (simp; omega))
      go_roundw
      case rel =>
        refine ⟨m + 1, by omega, by go_num, ?_, hb5⟩
        rw [HST.out]
        exact hown5
      case measure => simp [intOf]; omega
    · obtain rfl : m = l.length := by omega
      rw [List.take_of_length_le (Nat.le_refl _)] at hown
      go_wp2
      go_ret
      exact ⟨⟨_, rfl, hown⟩, hbw⟩
end Go.Proofs.Ytphapnooonjnmaa
