/-
  Contracts of package ledger and of its reference: lists of entries.
-/
import Derived.Test.YthnncojbckifnaaLed1
import Derived.Maps.AppendAt
namespace Go.Proofs.Ythnncojbckifnaa
set_option linter.unusedSimpArgs false
set_option linter.unusedVariables false
open Go.RowKit
open Go.Sort (grow size_grow)

set_option maxHeartbeats 2000000
set_option maxRecDepth 100000

theorem idx_ent_any (l : List Entry) (A : Option Addr) (c : Nat) (w : World) (hs : SlEnt w A l) (hl : l.length ≤ 140737488355328) :
    Calls Try.prog 103 #[.slice A l.length c, .func (.func 81) #[] #[]] w fun e w' => e = .returned (.int .i64 (ixOf (fun t => !t.ok) l)) ∧ Below w.heap.size w w' := by
  go_enter Try.func103, Try.ntmps103
  go_wp2
  go_loopw [8] (fun k wr => ∃ m : Nat, m ≤ l.length ∧ k = .int .i64 m ∧ Hid (∀ j (h : j < l.length), j < m → (!l[j].ok) = false) ∧ Below w.heap.size w wr) (fun k _ => l.length - (intOf k).toNat)
  case atStart => exact ⟨0, by omega, rfl, Lib.hid (fun j _ h => absurd h (by omega)), Below.refl _ _⟩
  case round =>
    obtain ⟨m, hm, rfl, hn, hbw⟩ := hrel
    have hbz := hbw.size
    by_cases hlt : m < l.length
    · obtain ⟨b, off, rfl, hbl, hcell⟩ := (hs.below hbw).at_ hlt
      have q0 := hcell 0 _ rfl
      have q1 := hcell 1 _ rfl
      have q2 := hcell 2 _ rfl
      have q3 := hcell 3 _ rfl
      have q4 := hcell 4 _ rfl
      rw [Nat.add_zero] at q0
      have HC := Lib.hid hcell
      clear hcell
      go_wp2_with (go_at_call 81; refine (valid1_any l[m] _).mono ?_; rintro e w1 ⟨rfl, hb1⟩)
      · have hok : (!l[m].ok) = true := by first | assumption | simp [*]
        go_ret
        refine ⟨ret_int ?_, ?_⟩
        · exact (ixOf_found hlt hok hn.out).symm
        · repeat' (first
            | (with_reducible exact Below.refl _ _)
            | (with_reducible assumption)
            | (with_reducible refine below_drewN ?_ _)
            | (with_reducible refine Below.drew ?_)
            | (with_reducible refine below_regrown_up _ _ ?_ ?_)
            | (with_reducible refine Below.alloc ?_ ?_ _)
            | (with_reducible refine Below.setCell ?_ ?_ _)
            | (with_reducible refine below_up ?_ ?_ (by assumption))
            | (with_reducible exact Nat.le_refl _)
            | omega
            | (simp; done)
            | (simp; omega))
      · have hok : (!l[m].ok) = false := by first | assumption | simp [*]
        go_roundw
        case rel =>
          refine ⟨m + 1, by omega, by go_num, Lib.hid (fun j h hj => ?_), ?_⟩
          · by_cases e : j = m
            · subst e; exact hok
            · exact hn.out j h (by omega)
          · repeat' (first
              | (with_reducible exact Below.refl _ _)
              | (with_reducible assumption)
              | (with_reducible refine below_drewN ?_ _)
              | (with_reducible refine Below.drew ?_)
              | (with_reducible refine below_regrown_up _ _ ?_ ?_)
              | (with_reducible refine Below.alloc ?_ ?_ _)
              | (with_reducible refine Below.setCell ?_ ?_ _)
              | (with_reducible refine below_up ?_ ?_ (by assumption))
              | (with_reducible exact Nat.le_refl _)
              | omega
              | (simp; done)
              | (simp; omega))
        case measure => simp [intOf]; omega
    · obtain rfl : m = l.length := by omega
      go_wp2
      go_ret
      refine ⟨ret_int ?_, ?_⟩
      · exact (ixOf_none fun j h => hn.out j h h).symm
      · repeat' (first
          | (with_reducible exact Below.refl _ _)
          | (with_reducible assumption)
          | (with_reducible refine below_drewN ?_ _)
          | (with_reducible refine Below.drew ?_)
          | (with_reducible refine below_regrown_up _ _ ?_ ?_)
          | (with_reducible refine Below.alloc ?_ ?_ _)
          | (with_reducible refine Below.setCell ?_ ?_ _)
          | (with_reducible refine below_up ?_ ?_ (by assumption))
          | (with_reducible exact Nat.le_refl _)
          | omega
          | (simp; done)
          | (simp; omega))

theorem con_ent_any (l : List Entry) (A : Option Addr) (c : Nat) (w : World) (hs : SlEnt w A l) (hl : l.length ≤ 140737488355328) :
    Calls Try.prog 84 #[.slice A l.length c, .func (.func 81) #[] #[]] w fun e w' => e = .returned (.bool (!l.all Entry.ok)) ∧ Below w.heap.size w w' := by
  have h := ixOf_any (fun t : Entry => !t.ok) l
  have h2 : (l.any fun t => !t.ok) = !l.all Entry.ok := by rw [List.not_all_eq_any_not]
  rw [h2] at h
  have H := Lib.hid h
  clear h h2
  go_enter Try.func84, Try.ntmps84
  go_wp2_with (go_at_call 103; refine (idx_ent_any l A c _ hs hl).mono ?_; rintro e w1 ⟨rfl, hb1⟩)
  go_ret
  refine ⟨ret_bool ?_, ?_⟩
  · exact H.out
  · repeat' (first
      | (with_reducible exact Below.refl _ _)
      | (with_reducible assumption)
      | (with_reducible refine below_drewN ?_ _)
      | (with_reducible refine Below.drew ?_)
      | (with_reducible refine below_regrown_up _ _ ?_ ?_)
      | (with_reducible refine Below.alloc ?_ ?_ _)
      | (with_reducible refine Below.setCell ?_ ?_ _)
      | (with_reducible refine below_up ?_ ?_ (by assumption))
      | (with_reducible exact Nat.le_refl _)
      | omega
      | (simp; done)
      | (simp; omega))

theorem sorted_any (l : List Entry) (A : Option Addr) (c : Nat) (w : World) (r : Bool) (hs : SlEnt w A l) (hl : l.length ≤ 140737488355328)
    (hr : Hid (r = true ↔ ∀ i (h : i + 1 < l.length), 0 ≤ wrap64 (l[i + 1].day - l[i].day))) :
    Calls Try.prog 82 #[.slice A l.length c, .func (.func 83) #[] #[]] w fun e w' => e = .returned (.bool r) ∧ Below w.heap.size w w' := by
  go_enter Try.func82, Try.ntmps82
  go_wp2
  go_loopw [5] (fun i wr => ∃ k : Int, -1 ≤ k ∧ k < l.length ∧ i = .int .i64 k ∧ Hid (∀ j (h : j + 1 < l.length), k ≤ j → 0 ≤ wrap64 (l[j + 1].day - l[j].day)) ∧ Below w.heap.size w wr) (fun i _ => (intOf i + 1).toNat)
  case atStart => exact ⟨_, by omega, by omega, rfl, Lib.hid (fun j h hj => by omega), Below.refl _ _⟩
  case round =>
    obtain ⟨k, hk1, hk2, rfl, hn, hbw⟩ := hrel
    have hbz := hbw.size
    by_cases hlt : 0 < k
    · obtain ⟨n, rfl⟩ : ∃ n : Nat, k = (n : Int) := ⟨k.toNat, by omega⟩
      obtain ⟨m, hmn⟩ : ∃ m : Nat, n = m + 1 := ⟨n - 1, by omega⟩
      have hm1 : m + 1 < l.length := by omega
      have hm0 : m < l.length := by omega
      obtain ⟨b, off, rfl, hbl, hcell⟩ := (hs.below hbw).at_ (k := m) hm0
      have hcell2 := ((hs.below hbw).cells (k := m + 1) hm1).2
      have q0 := hcell 0 _ rfl
      have q1 := hcell 1 _ rfl
      have q2 := hcell 2 _ rfl
      have q3 := hcell 3 _ rfl
      have q4 := hcell 4 _ rfl
      rw [Nat.add_zero] at q0
      have p0 := hcell2 0 _ rfl
      have p1 := hcell2 1 _ rfl
      have p2 := hcell2 2 _ rfl
      have p3 := hcell2 3 _ rfl
      have p4 := hcell2 4 _ rfl
      rw [Nat.add_zero] at p0
      have e5 : off + (m + 1) * 5 = off + n * 5 := by rw [hmn]
      rw [e5] at p0 p1 p2 p3 p4
      clear e5
      clear hcell hcell2
      have hx0 : (0 : Int) ≤ m := by omega
      have hx1 : (n : Int) < l.length := hk2
      have hx2 : (m : Int) < l.length := by omega
      have hx3 : (0 : Int) ≤ n := by omega
      have hw1 : IntKind.i64.wrap ((n : Int) - 1) = m := by rw [IntWalk.i64_in _ (by omega)]; omega
      have HM := Lib.hid hmn
      clear hmn
      go_wp2_with fail
      have hgr := regrown_cells wr (B := w.heap.size) (by omega)
      refine wp_region_quiet_below (by kernel_rfl) (by kernel_rfl) ?_
      repeat (quiet_step ((go_at_call 83; exact quiet_b (valid2_any l[m + 1] l[m] _))))
      refine wpQuiet_nil ?_
      intro _ hw'
      obtain ⟨⟨dq, osq⟩, hw''⟩ := hw'
      subst hw''
      have hb3 := below_regrown wr dq osq
      clear hgr
      generalize grow (redrawn wr dq) osq = w3 at hb3 ⊢
      have hz3 := hb3.size
      (try simp only [World.size_alloc, World.size_setCell, World.size_drew, size_drewN', size_grow, size_redrawn] at hz3)
      obtain ⟨hc3, hf3⟩ := bcellB (B := w.heap.size) hb3 (by first | omega | (simp only [World.size_alloc, World.size_setCell, World.size_drew, size_drewN', size_grow, size_redrawn]; omega))
      go_wp2_with fail
      · have hok : wrap64 (l[m + 1].day - l[m].day) < 0 := by assumption
        go_ret
        refine ⟨ret_bool ?_, ?_⟩
        · cases r with
          | false => rfl
          | true => exact absurd hok (by have := hr.out.1 rfl m hm1; omega)
        · repeat' (first
            | (with_reducible exact Below.refl _ _)
            | (with_reducible assumption)
            | (with_reducible refine below_drewN ?_ _)
            | (with_reducible refine Below.drew ?_)
            | (with_reducible refine below_regrown_up _ _ ?_ ?_)
            | (with_reducible refine Below.alloc ?_ ?_ _)
            | (with_reducible refine Below.setCell ?_ ?_ _)
            | (with_reducible refine below_up ?_ ?_ (by assumption))
            | (with_reducible exact Nat.le_refl _)
            | omega
            | (simp; done)
            | (simp; omega))
      · have hok : 0 ≤ wrap64 (l[m + 1].day - l[m].day) := by first | assumption | omega
        go_roundw
        case rel =>
          have hmn := HM.out
          refine ⟨m, by omega, by omega, rfl, Lib.hid (fun j h hj => ?_), ?_⟩
          · by_cases e : j = m
            · subst e; exact hok
            · exact hn.out j h (by omega)
          · repeat' (first
              | (with_reducible exact Below.refl _ _)
              | (with_reducible assumption)
              | (with_reducible refine below_drewN ?_ _)
              | (with_reducible refine Below.drew ?_)
              | (with_reducible refine below_regrown_up _ _ ?_ ?_)
              | (with_reducible refine Below.alloc ?_ ?_ _)
              | (with_reducible refine Below.setCell ?_ ?_ _)
              | (with_reducible refine below_up ?_ ?_ (by assumption))
              | (with_reducible exact Nat.le_refl _)
              | omega
              | (simp; done)
              | (simp; omega))
        case measure => have := HM.out; simp [intOf]; omega
    · go_wp2
      go_ret
      refine ⟨ret_bool ?_, ?_⟩
      · exact (hr.out.2 (fun i h => hn.out i h (by omega))).symm
      · repeat' (first
          | (with_reducible exact Below.refl _ _)
          | (with_reducible assumption)
          | (with_reducible refine below_drewN ?_ _)
          | (with_reducible refine Below.drew ?_)
          | (with_reducible refine below_regrown_up _ _ ?_ ?_)
          | (with_reducible refine Below.alloc ?_ ?_ _)
          | (with_reducible refine Below.setCell ?_ ?_ _)
          | (with_reducible refine below_up ?_ ?_ (by assumption))
          | (with_reducible exact Nat.le_refl _)
          | omega
          | (simp; done)
          | (simp; omega))
end Go.Proofs.Ythnncojbckifnaa
