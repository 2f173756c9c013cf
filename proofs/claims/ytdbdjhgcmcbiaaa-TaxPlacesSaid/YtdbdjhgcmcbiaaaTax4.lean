/-
  Contracts of the reference of package tax: lists of taxes.
-/
import Derived.Test.YtdbdjhgcmcbiaaaTax3
namespace Go.Proofs.Ytdbdjhgcmcbiaaa
set_option linter.unusedSimpArgs false
set_option linter.unusedVariables false
open Go.RowKit Go.Maps
open Go.Sort (grow size_grow)

set_option maxHeartbeats 2000000
set_option maxRecDepth 100000

theorem rtvalid_any (l : List Tax) (A : Option Addr) (c : Nat) (w : World) (hs : SlTax w A l) (hl : l.length ≤ 1000000000000) :
    Calls Try.prog 17 #[.slice A l.length c] w fun e w' => e = .returned (.bool (taxesOk l)) ∧ Below w.heap.size w w' := by
  by_cases h50 : l.length ≤ 50
  · have h5 : (l.length : Int) ≤ 50 := by omega
    go_enter Try.func17, Try.ntmps17
    go_wp2
    go_loopw [3] (fun k wr => ∃ m : Nat, m ≤ l.length ∧ k = .int .i64 m ∧ Hid (∀ j (h : j < l.length), j < m → l[j].ok = true) ∧ Hid (∀ j k (hj : j < l.length) (hk : k < l.length), j < k → k < m → l[j].id ≠ l[k].id) ∧ Below w.heap.size w wr) (fun k _ => l.length - (intOf k).toNat)
    case atStart => exact ⟨0, by omega, rfl, Lib.hid (fun j _ h => absurd h (by omega)), Lib.hid (fun j k _ _ _ h => absurd h (by omega)), Below.refl _ _⟩
    case round =>
      obtain ⟨m, hm, rfl, hn1, hn2, hbw⟩ := hrel
      have hbz := hbw.size
      by_cases hlt : m < l.length
      · obtain ⟨b, off, rfl, hbl, hcell⟩ := (hs.below hbw).at_ hlt
        have q0 := hcell 0 _ rfl
        have q1 := hcell 1 _ rfl
        have q2 := hcell 2 _ rfl
        have q3 := hcell 3 _ rfl
        have q4 := hcell 4 _ rfl
        have q5 := hcell 5 _ rfl
        have q6 := hcell 6 _ rfl
        rw [Nat.add_zero] at q0
        have hat := hs
        have HC := Lib.hid hat
        clear hat hcell
        cases hok : l[m].ok with
        | false =>
          go_wp2_with (go_at_call 41; refine (rtax_any l[m] _).mono ?_; rintro e w1 ⟨rfl, hb1⟩; rw [hok])
          go_ret
          refine ⟨ret_bool ?_, ?_⟩
          · exact (taxesOk_bad hlt hok).symm
          · repeat' (first
              | (with_reducible exact Below.refl _ _)
              | (with_reducible assumption)
              | (with_reducible refine below_drewN ?_ _)
              | (with_reducible refine Below.drew ?_)
              | (with_reducible refine below_regrown_up _ _ ?_ ?_)
              | (with_reducible refine Below.alloc ?_ ?_ _)
              | (with_reducible refine Below.setCell ?_ ?_ _)
              | (with_reducible refine below_up ?_ ?_ (by assumption))
              | (with_reducible exact Nat.le_refl _)
              | omega
              | (simp; done)
              | (simp; omega))
        | true =>
          go_wp2_with (go_at_call 41; refine (rtax_any l[m] _).mono ?_; rintro e w1 ⟨rfl, hb1⟩; have hz1 := hb1.size; (try simp only [World.size_alloc, World.size_setCell, World.size_drew, size_drewN', size_grow, size_redrawn] at hz1); obtain ⟨hc1, hf1⟩ := bcellB (B := w.heap.size) hb1 (by first | omega | (simp only [World.size_alloc, World.size_setCell, World.size_drew, size_drewN', size_grow, size_redrawn]; omega)); rw [hok])
          have hcell2 := HC.out
          have hbw1 := below_up hbw hbz hb1
          have q0' : w1.cell? ⟨b, off + m * 7, none⟩ = some (.int .i64 l[m].id) := (hc1 b _ hbl).trans q0
          clear q0 q1 q2 q3 q4 q5 q6
          go_loopw [5] (fun k wr2 => ∃ n : Nat, n ≤ m ∧ k = .int .i64 n ∧ Hid (∀ j (h : j < l.length), j < n → l[j].id ≠ l[m].id) ∧ Below w1.heap.size w1 wr2) (fun k _ => m - (intOf k).toNat)
          case atStart => exact ⟨0, by omega, rfl, Lib.hid (fun j _ h => absurd h (by omega)), Below.refl _ _⟩
          case round =>
            obtain ⟨n, hnm, rfl, hnn, hbw2⟩ := hrel
            have hbz2 := hbw2.size
            have hbw3 := below_up hbw1 (by omega) hbw2
            by_cases hlt2 : n < m
            · have hx1 : (n : Int) < (l.length : Int) := by omega
              have hx2 : (m : Int) < (l.length : Int) := by omega
              have hx3 : (0 : Int) ≤ (n : Int) := by omega
              have hx4 : (0 : Int) ≤ (m : Int) := by omega
              have p0 := (hcell2.below hbw3).cells (k := n) (by omega)
              have p1 := p0.2 0 _ rfl
              rw [Nat.add_zero] at p1
              have p2 : wr.cell? ⟨b, off + m * 7, none⟩ = some (.int .i64 l[m].id) := (hbw2.cell (p := ⟨b, off + m * 7, none⟩) (show b < _ by omega)).trans q0'
              clear p0
              by_cases he : l[n].id = l[m].id
              · have hb : (l[n].id == l[m].id) = true := by simpa using he
                have HE := Lib.hid he
                clear he
                go_wp2_with fail
                go_quiet (fail)
                go_wp2_with fail
                go_ret
                refine ⟨ret_bool ?_, ?_⟩
                · exact (taxesOk_twice (by omega) hlt hlt2 HE.out).symm
                · repeat' (first
                    | (with_reducible exact Below.refl _ _)
                    | (with_reducible assumption)
                    | (with_reducible refine below_drewN ?_ _)
                    | (with_reducible refine Below.drew ?_)
                    | (with_reducible refine below_regrown_up _ _ ?_ ?_)
                    | (with_reducible refine Below.alloc ?_ ?_ _)
                    | (with_reducible refine Below.setCell ?_ ?_ _)
                    | (with_reducible refine below_up ?_ ?_ (by assumption))
                    | (with_reducible exact Nat.le_refl _)
                    | omega
                    | (simp; done)
                    | (simp; omega))
              · have hb : (l[n].id == l[m].id) = false := by simpa using he
                have HE := Lib.hid he
                clear he
                go_wp2_with fail
                go_quiet (fail)
                go_wp2_with fail
                go_roundw
                case rel =>
                  refine ⟨n + 1, by omega, by go_num, Lib.hid (fun j h hj => ?_), ?_⟩
                  · by_cases e : j = n
                    · subst e; exact HE.out
                    · exact hnn.out j h (by omega)
                  · repeat' (first
                      | (with_reducible exact Below.refl _ _)
                      | (with_reducible assumption)
                      | (with_reducible refine below_drewN ?_ _)
                      | (with_reducible refine Below.drew ?_)
                      | (with_reducible refine below_regrown_up _ _ ?_ ?_)
                      | (with_reducible refine Below.alloc ?_ ?_ _)
                      | (with_reducible refine Below.setCell ?_ ?_ _)
                      | (with_reducible refine below_up ?_ ?_ (by assumption))
                      | (with_reducible exact Nat.le_refl _)
                      | omega
                      | (simp; done)
                      | (simp; omega))
                case measure => simp [intOf]; omega
            · obtain rfl : n = m := by omega
              go_wp2
              go_roundw
              case rel =>
                refine ⟨n + 1, by omega, by go_num, Lib.hid (fun j h hj => ?_), Lib.hid (fun j k hj hk hjk hkm => ?_), ?_⟩
                · by_cases e : j = n
                  · subst e; exact hok
                  · exact hn1.out j h (by omega)
                · by_cases e : k = n
                  · subst e; exact hnn.out j hj hjk
                  · exact hn2.out j k hj hk hjk (by omega)
                · repeat' (first
                    | (with_reducible exact Below.refl _ _)
                    | (with_reducible assumption)
                    | (with_reducible refine below_drewN ?_ _)
                    | (with_reducible refine Below.drew ?_)
                    | (with_reducible refine below_regrown_up _ _ ?_ ?_)
                    | (with_reducible refine Below.alloc ?_ ?_ _)
                    | (with_reducible refine Below.setCell ?_ ?_ _)
                    | (with_reducible refine below_up ?_ ?_ (by assumption))
                    | (with_reducible exact Nat.le_refl _)
                    | omega
                    | (simp; done)
                    | (simp; omega))
              case measure => simp [intOf]; omega
      · obtain rfl : m = l.length := by omega
        go_wp2
        go_ret
        refine ⟨ret_bool ?_, ?_⟩
        · exact (taxesOk_iff.2 ⟨h50, fun j h => hn1.out j h h, fun j k hj hk hjk => hn2.out j k hj hk hjk hk⟩).symm
        · repeat' (first
            | (with_reducible exact Below.refl _ _)
            | (with_reducible assumption)
            | (with_reducible refine below_drewN ?_ _)
            | (with_reducible refine Below.drew ?_)
            | (with_reducible refine below_regrown_up _ _ ?_ ?_)
            | (with_reducible refine Below.alloc ?_ ?_ _)
            | (with_reducible refine Below.setCell ?_ ?_ _)
            | (with_reducible refine below_up ?_ ?_ (by assumption))
            | (with_reducible exact Nat.le_refl _)
            | omega
            | (simp; done)
            | (simp; omega))
  · have h5 : 50 < (l.length : Int) := by omega
    clear h50
    go_enter Try.func17, Try.ntmps17
    go_wp2_with fail
    go_ret
    refine ⟨ret_bool ?_, ?_⟩
    · exact (taxesOk_long (by omega)).symm
    · repeat' (first
        | (with_reducible exact Below.refl _ _)
        | (with_reducible assumption)
        | (with_reducible refine below_drewN ?_ _)
        | (with_reducible refine Below.drew ?_)
        | (with_reducible refine below_regrown_up _ _ ?_ ?_)
        | (with_reducible refine Below.alloc ?_ ?_ _)
        | (with_reducible refine Below.setCell ?_ ?_ _)
        | (with_reducible refine below_up ?_ ?_ (by assumption))
        | (with_reducible exact Nat.le_refl _)
        | omega
        | (simp; done)
        | (simp; omega))
end Go.Proofs.Ytdbdjhgcmcbiaaa
