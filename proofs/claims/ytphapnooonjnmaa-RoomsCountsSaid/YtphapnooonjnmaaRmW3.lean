/-
  The reference of package rooms: whether a list consists of rooms.
-/
import Derived.Test.YtphapnooonjnmaaRmW1
namespace Go.Proofs.Ytphapnooonjnmaa
set_option linter.unusedSimpArgs false
set_option linter.unusedVariables false
open Go.RowKit
open Go.Sort (grow size_grow)

set_option maxHeartbeats 20000000
set_option maxRecDepth 100000
theorem rrvalid_any (l : List Room) (A : Option Addr) (c : Nat) (w : World) (hs : SlRoom w A l) (hl : l.length ≤ 140737488355328) (hT : Tame l) :
    Calls Try.prog 14 #[.slice A l.length c] w fun e w' => e = .returned (.bool (roomsOk l)) ∧ Below w.heap.size w w' := by
  by_cases h4 : l.length ≤ 400
  case neg =>
    have h4' : decide ((400 : Int) < (l.length : Int)) = true := by simp; omega
    have HR := Lib.hid (roomsOk_long h4)
    go_enter Try.func14, Try.ntmps14
    go_wp2_with fail
    go_ret
    exact ⟨ret_bool (by rw [HR.out]), Below.refl _ _⟩
  have h4' : decide ((400 : Int) < (l.length : Int)) = false := by simp; omega
  have HT := Lib.hid hT
  clear hT
  go_enter Try.func14, Try.ntmps14
  go_wp2_with fail
  go_loopw [3] (fun i wr => ∃ m : Nat, m ≤ l.length ∧ i = .int .i64 m ∧ Hid (∀ j, j < m → roundOk l j) ∧ Below w.heap.size w wr) (fun i _ => l.length - (intOf i).toNat)
  case atStart => exact ⟨0, by omega, rfl, Lib.hid (fun j h => absurd h (by omega)), Below.refl _ _⟩
  case round =>
    obtain ⟨m, hm, rfl, hP, hbw⟩ := hrel
    have hbz := hbw.size
    by_cases hlt : m < l.length
    · have hs' := hs.up hbw
      obtain ⟨b, off, A', c', rfl, hbl, hcell, hsp⟩ := hs'.at_ hlt
      have q0 := hcell 0 _ rfl
      have q1 := hcell 1 _ rfl
      have q2 := hcell 2 _ rfl
      have q3 := hcell 3 _ rfl
      have q4 := hcell 4 _ rfl
      have q5 := hcell 5 _ rfl
      rw [Nat.add_zero] at q0
      clear hcell
      have hx1 : (m : Int) < (l.length : Int) := by omega
      have hx4 : (0 : Int) ≤ (m : Int) := by omega
      cases hok : l[m].ok
      · have HR := Lib.hid (roomsOk_bad hlt hok)
        go_wp2_with fail
        refine (rroom_any l[m] A' c' _ hsp (HT.out.at_ hlt)).mono ?_
        rintro e w1 ⟨rfl, hb1⟩; have hz1 := hb1.size; (try simp only [World.size_alloc, World.size_setCell, World.size_drew, size_drewN', size_grow, size_redrawn] at hz1); obtain ⟨hc1, hf1⟩ := bcellB (B := wr.heap.size) hb1 (by first | omega | (simp only [World.size_alloc, World.size_setCell, World.size_drew, size_drewN', size_grow, size_redrawn]; omega))
        rw [hok]
        go_wp2_with fail
        go_ret
        refine ⟨ret_bool (by rw [HR.out]), ?_⟩
        repeat' (first
          | (with_reducible exact Below.refl _ _)
          | (with_reducible assumption)
          | (with_reducible refine below_drewN ?_ _)
          | (with_reducible refine Below.drew ?_)
          | (with_reducible refine below_regrown_up _ _ ?_ ?_)
          | (with_reducible refine Below.alloc ?_ ?_ _)
          | (with_reducible refine Below.setCell ?_ ?_ _)
          | (with_reducible refine below_up ?_ ?_ (by assumption))
          | (with_reducible exact Nat.le_refl _)
          | omega
          | (simp; done)
          | (simp; omega))
      · by_cases hix : idxR l l[m].id = m
        case neg =>
          have hix' : (idxR l l[m].id != (m : Int)) = true := by rw [bne_iff_ne]; exact hix
          have HR := Lib.hid (round_bad hlt (fun h => hix h.2.2.1))
          clear hix
          go_wp2_with fail
          refine (rroom_any l[m] A' c' _ hsp (HT.out.at_ hlt)).mono ?_
          rintro e w1 ⟨rfl, hb1⟩; have hz1 := hb1.size; (try simp only [World.size_alloc, World.size_setCell, World.size_drew, size_drewN', size_grow, size_redrawn] at hz1); obtain ⟨hc1, hf1⟩ := bcellB (B := wr.heap.size) hb1 (by first | omega | (simp only [World.size_alloc, World.size_setCell, World.size_drew, size_drewN', size_grow, size_redrawn]; omega))
          rw [hok]
          go_wp2_with fail
          refine (rindex_any l _ c l[m].id _ (hs'.up hb1) (by omega)).mono ?_
          rintro e w2 ⟨rfl, hb2⟩; have hz2 := hb2.size; (try simp only [World.size_alloc, World.size_setCell, World.size_drew, size_drewN', size_grow, size_redrawn] at hz2); obtain ⟨hc2, hf2⟩ := bcellB (B := wr.heap.size) hb2 (by first | omega | (simp only [World.size_alloc, World.size_setCell, World.size_drew, size_drewN', size_grow, size_redrawn]; omega))
          go_wp2_with fail
          go_ret
          refine ⟨ret_bool (by rw [HR.out]), ?_⟩
          repeat' (first
            | (with_reducible exact Below.refl _ _)
            | (with_reducible assumption)
            | (with_reducible refine below_drewN ?_ _)
            | (with_reducible refine Below.drew ?_)
            | (with_reducible refine below_regrown_up _ _ ?_ ?_)
            | (with_reducible refine Below.alloc ?_ ?_ _)
            | (with_reducible refine Below.setCell ?_ ?_ _)
            | (with_reducible refine below_up ?_ ?_ (by assumption))
            | (with_reducible exact Nat.le_refl _)
            | omega
            | (simp; done)
            | (simp; omega))
        have hix' : (idxR l l[m].id != (m : Int)) = false := by rw [bne_eq_false_iff_eq]; exact hix
        have HIX := Lib.hid hix
        clear hix
        have HS' := Lib.hid hs'
        by_cases hj : l[m].joins = 0
        · have hj' : (l[m].joins == 0) = true := by rw [beq_iff_eq]; exact hj
          have HJ := Lib.hid hj
          clear hj
          go_wp2_with fail
          refine (rroom_any l[m] A' c' _ hsp (HT.out.at_ hlt)).mono ?_
          rintro e w1 ⟨rfl, hb1⟩; have hz1 := hb1.size; (try simp only [World.size_alloc, World.size_setCell, World.size_drew, size_drewN', size_grow, size_redrawn] at hz1); obtain ⟨hc1, hf1⟩ := bcellB (B := wr.heap.size) hb1 (by first | omega | (simp only [World.size_alloc, World.size_setCell, World.size_drew, size_drewN', size_grow, size_redrawn]; omega))
          rw [hok]
          go_wp2_with fail
          refine (rindex_any l _ c l[m].id _ (HS'.out.up hb1) (by omega)).mono ?_
          rintro e w2 ⟨rfl, hb2⟩; have hz2 := hb2.size; (try simp only [World.size_alloc, World.size_setCell, World.size_drew, size_drewN', size_grow, size_redrawn] at hz2); obtain ⟨hc2, hf2⟩ := bcellB (B := wr.heap.size) hb2 (by first | omega | (simp only [World.size_alloc, World.size_setCell, World.size_drew, size_drewN', size_grow, size_redrawn]; omega))
          go_wp2_with fail
          go_roundw
          case rel =>
            refine ⟨m + 1, by omega, by go_num, Lib.hid (fun j hjm => ?_), ?_⟩
            · by_cases e : j = m
              · subst e
                exact ⟨hlt, hok, HIX.out, by rw [decide_eq_true HJ.out]; rfl⟩
              · exact hP.out j (by omega)
            · repeat' (first
                | (with_reducible exact Below.refl _ _)
                | (with_reducible assumption)
                | (with_reducible refine below_drewN ?_ _)
                | (with_reducible refine Below.drew ?_)
                | (with_reducible refine below_regrown_up _ _ ?_ ?_)
                | (with_reducible refine Below.alloc ?_ ?_ _)
                | (with_reducible refine Below.setCell ?_ ?_ _)
                | (with_reducible refine below_up ?_ ?_ (by assumption))
                | (with_reducible exact Nat.le_refl _)
                | omega
                | (simp; done)
                | (simp; omega))
          case measure => simp [intOf]; omega
        · have hj' : (l[m].joins == 0) = false := by rw [beq_eq_false_iff_ne]; exact hj
          have HJ := Lib.hid hj
          clear hj
          rcases idxR_cases l l[m].joins with ⟨k1, k2⟩ | ⟨k, hk, k1, k2, k3⟩
          · have HR := Lib.hid (round_bad hlt (fun h => by
              have h2 := h.2.2.2
              rw [decide_eq_false HJ.out] at h2
              unfold mateOk at h2
              rw [findR_none (by omega)] at h2
              cases h2))
            clear k2
            go_wp2_with fail
            refine (rroom_any l[m] A' c' _ hsp (HT.out.at_ hlt)).mono ?_
            rintro e w1 ⟨rfl, hb1⟩; have hz1 := hb1.size; (try simp only [World.size_alloc, World.size_setCell, World.size_drew, size_drewN', size_grow, size_redrawn] at hz1); obtain ⟨hc1, hf1⟩ := bcellB (B := wr.heap.size) hb1 (by first | omega | (simp only [World.size_alloc, World.size_setCell, World.size_drew, size_drewN', size_grow, size_redrawn]; omega))
            rw [hok]
            go_wp2_with fail
            refine (rindex_any l _ c l[m].id _ (HS'.out.up hb1) (by omega)).mono ?_
            rintro e w2 ⟨rfl, hb2⟩; have hz2 := hb2.size; (try simp only [World.size_alloc, World.size_setCell, World.size_drew, size_drewN', size_grow, size_redrawn] at hz2); obtain ⟨hc2, hf2⟩ := bcellB (B := wr.heap.size) hb2 (by first | omega | (simp only [World.size_alloc, World.size_setCell, World.size_drew, size_drewN', size_grow, size_redrawn]; omega))
            go_wp2_with fail
            refine (rindex_any l _ c l[m].joins _ ((HS'.out.up hb1).up hb2) (by omega)).mono ?_
            rintro e w3 ⟨rfl, hb3⟩; have hz3 := hb3.size; (try simp only [World.size_alloc, World.size_setCell, World.size_drew, size_drewN', size_grow, size_redrawn] at hz3); obtain ⟨hc3, hf3⟩ := bcellB (B := wr.heap.size) hb3 (by first | omega | (simp only [World.size_alloc, World.size_setCell, World.size_drew, size_drewN', size_grow, size_redrawn]; omega))
            rw [k1]
            go_wp2_with fail
            try (go_quiet (fail); go_wp2_with fail)
            go_ret
            refine ⟨ret_bool (by rw [HR.out]), ?_⟩
            repeat' (first
              | (with_reducible exact Below.refl _ _)
              | (with_reducible assumption)
              | (with_reducible refine below_drewN ?_ _)
              | (with_reducible refine Below.drew ?_)
              | (with_reducible refine below_regrown_up _ _ ?_ ?_)
              | (with_reducible refine Below.alloc ?_ ?_ _)
              | (with_reducible refine Below.setCell ?_ ?_ _)
              | (with_reducible refine below_up ?_ ?_ (by assumption))
              | (with_reducible exact Nat.le_refl _)
              | omega
              | (simp; done)
              | (simp; omega))
          · have hmo : mateOk l l[m] = decide (l[k].house = l[m].house ∧ l[k].joins = l[m].id) := by
              unfold mateOk
              rw [findR_idx hk k1]
            have HMO := Lib.hid hmo
            clear hmo k2 k3
            obtain ⟨b', off', A2, c2, e', _, hcell, _⟩ := hs'.at_ hk
            injection e' with e'
            injection e' with e1 e2
            subst e1 e2
            have p0 := hcell 0 _ rfl
            have p1 := hcell 1 _ rfl
            have p2 := hcell 2 _ rfl
            have p3 := hcell 3 _ rfl
            have p4 := hcell 4 _ rfl
            have p5 := hcell 5 _ rfl
            rw [Nat.add_zero] at p0
            clear hcell
            have hy1 : (k : Int) < (l.length : Int) := by omega
            have hy4 : (0 : Int) ≤ (k : Int) := by omega
            have hy5 : ¬ ((k : Int) < 0) := by omega
            go_wp2_with fail
            refine (rroom_any l[m] A' c' _ hsp (HT.out.at_ hlt)).mono ?_
            rintro e w1 ⟨rfl, hb1⟩; have hz1 := hb1.size; (try simp only [World.size_alloc, World.size_setCell, World.size_drew, size_drewN', size_grow, size_redrawn] at hz1); obtain ⟨hc1, hf1⟩ := bcellB (B := wr.heap.size) hb1 (by first | omega | (simp only [World.size_alloc, World.size_setCell, World.size_drew, size_drewN', size_grow, size_redrawn]; omega))
            rw [hok]
            go_wp2_with fail
            refine (rindex_any l _ c l[m].id _ (HS'.out.up hb1) (by omega)).mono ?_
            rintro e w2 ⟨rfl, hb2⟩; have hz2 := hb2.size; (try simp only [World.size_alloc, World.size_setCell, World.size_drew, size_drewN', size_grow, size_redrawn] at hz2); obtain ⟨hc2, hf2⟩ := bcellB (B := wr.heap.size) hb2 (by first | omega | (simp only [World.size_alloc, World.size_setCell, World.size_drew, size_drewN', size_grow, size_redrawn]; omega))
            go_wp2_with fail
            refine (rindex_any l _ c l[m].joins _ ((HS'.out.up hb1).up hb2) (by omega)).mono ?_
            rintro e w3 ⟨rfl, hb3⟩; have hz3 := hb3.size; (try simp only [World.size_alloc, World.size_setCell, World.size_drew, size_drewN', size_grow, size_redrawn] at hz3); obtain ⟨hc3, hf3⟩ := bcellB (B := wr.heap.size) hb3 (by first | omega | (simp only [World.size_alloc, World.size_setCell, World.size_drew, size_drewN', size_grow, size_redrawn]; omega))
            rw [k1]
            go_wp2_with fail
            have u1 : w3.cell? ⟨b, off + k * 6 + 1, none⟩ = some (.int .i64 l[k].house) := by rw [hc3 _ _ (by omega), hc2 _ _ (by omega), hc1 _ _ (by omega)]; exact p1
            have u3 : w3.cell? ⟨b, off + k * 6 + 3, none⟩ = some (.int .i64 l[k].joins) := by rw [hc3 _ _ (by omega), hc2 _ _ (by omega), hc1 _ _ (by omega)]; exact p3
            have v0 : w3.cell? ⟨b, off + m * 6, none⟩ = some (.int .i64 l[m].id) := by rw [hc3 _ _ (by omega), hc2 _ _ (by omega), hc1 _ _ (by omega)]; exact q0
            have v1 : w3.cell? ⟨b, off + m * 6 + 1, none⟩ = some (.int .i64 l[m].house) := by rw [hc3 _ _ (by omega), hc2 _ _ (by omega), hc1 _ _ (by omega)]; exact q1
            have hB3 : Below w.heap.size w w3 := below_up (below_up (below_up hbw hbz hb1) (by omega) hb2) (by omega) hb3
            have hz3' : w.heap.size ≤ w3.heap.size := by omega
            have hy6 : decide ((k : Int) < 0) = false := by simp
            have hbl3 : b < w3.heap.size := by omega
            clear hc1 hc2 hc3 hf1 hf2 hf3 q0 q1 q2 q3 q4 q5 p0 p1 p2 p3 p4 p5 hb1 hb2 hb3
            by_cases hm1 : l[k].house = l[m].house
            · have g1 : (l[k].house != l[m].house) = false := by rw [bne_eq_false_iff_eq]; exact hm1
              have G1 := Lib.hid hm1
              clear hm1
              by_cases hm2 : l[k].joins = l[m].id
              · have g2 : (l[k].joins != l[m].id) = false := by rw [bne_eq_false_iff_eq]; exact hm2
                have G2 := Lib.hid hm2
                clear hm2
                go_quiet (fail)
                go_wp2_with fail
                go_roundw
                case rel =>
                  refine ⟨m + 1, by omega, by go_num, Lib.hid (fun j hjm => ?_), ?_⟩
                  · by_cases e : j = m
                    · subst e
                      exact ⟨hlt, hok, HIX.out, by rw [HMO.out]; simp [G1.out, G2.out]⟩
                    · exact hP.out j (by omega)
                  · repeat' (first
                      | (with_reducible exact Below.refl _ _)
                      | (with_reducible assumption)
                      | (with_reducible refine below_drewN ?_ _)
                      | (with_reducible refine Below.drew ?_)
                      | (with_reducible refine below_regrown_up _ _ ?_ ?_)
                      | (with_reducible refine Below.alloc ?_ ?_ _)
                      | (with_reducible refine Below.setCell ?_ ?_ _)
                      | (with_reducible refine below_up ?_ ?_ (by assumption))
                      | (with_reducible exact Nat.le_refl _)
                      | omega
                      | (simp; done)
                      | (simp; omega))
                case measure => simp [intOf]; omega
              · have g2 : (l[k].joins != l[m].id) = true := by rw [bne_iff_ne]; exact hm2
                have HR := Lib.hid (round_bad hlt (fun h => by
                  have h2 := h.2.2.2
                  rw [decide_eq_false HJ.out, HMO.out, decide_eq_false (fun h => hm2 h.2)] at h2
                  cases h2))
                clear hm2
                go_quiet (fail)
                go_wp2_with fail
                go_ret
                refine ⟨ret_bool (by rw [HR.out]), ?_⟩
                repeat' (first
                  | (with_reducible exact Below.refl _ _)
                  | (with_reducible assumption)
                  | (with_reducible refine below_drewN ?_ _)
                  | (with_reducible refine Below.drew ?_)
                  | (with_reducible refine below_regrown_up _ _ ?_ ?_)
                  | (with_reducible refine Below.alloc ?_ ?_ _)
                  | (with_reducible refine Below.setCell ?_ ?_ _)
                  | (with_reducible refine below_up ?_ ?_ (by assumption))
                  | (with_reducible exact Nat.le_refl _)
                  | omega
                  | (simp; done)
                  | (simp; omega))
            · have g1 : (l[k].house != l[m].house) = true := by rw [bne_iff_ne]; exact hm1
              have HR := Lib.hid (round_bad hlt (fun h => by
                have h2 := h.2.2.2
                rw [decide_eq_false HJ.out, HMO.out, decide_eq_false (fun h => hm1 h.1)] at h2
                cases h2))
              clear hm1
              go_quiet (fail)
              go_wp2_with fail
              go_ret
              refine ⟨ret_bool (by rw [HR.out]), ?_⟩
              repeat' (first
                | (with_reducible exact Below.refl _ _)
                | (with_reducible assumption)
                | (with_reducible refine below_drewN ?_ _)
                | (with_reducible refine Below.drew ?_)
                | (with_reducible refine below_regrown_up _ _ ?_ ?_)
                | (with_reducible refine Below.alloc ?_ ?_ _)
                | (with_reducible refine Below.setCell ?_ ?_ _)
                | (with_reducible refine below_up ?_ ?_ (by assumption))
                | (with_reducible exact Nat.le_refl _)
                | omega
                | (simp; done)
                | (simp; omega))
    · obtain rfl : m = l.length := by omega
      have HR := Lib.hid (rounds_ok h4 (fun j h => hP.out j h))
      go_wp2_with fail
      go_ret
      exact ⟨ret_bool (by rw [HR.out]), hbw⟩
end Go.Proofs.Ytphapnooonjnmaa
