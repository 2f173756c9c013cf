/-
  Package returns: the third question that Agree asks: the houses.
-/
import Derived.Test.YtmlhoojcdidgkaaGreatRet4
import Derived.Test.YtmlhoojcdidgkaaGreatRet1
namespace Go.Proofs.YtmlhoojcdidgkaaGreat
set_option linter.unusedSimpArgs false
set_option linter.unusedVariables false
open Go.RowKit Go.Maps
open Go.Sort (grow size_grow)


set_option maxHeartbeats 4000000
set_option maxRecDepth 100000
def houseOk (p d : Int) (es : List Entry) (b : Bill) : Bool := (-movedR es (300 + b.place) b.stay) == b.price + comm p d b.price
def ask3R (p d : Int) (bills : List Bill) (es : List Entry) : Bool := bills.all (houseOk p d es)
theorem ask3R_snoc (p d : Int) (bills : List Bill) (es : List Entry) (b : Bill) : ask3R p d (bills ++ [b]) es = (ask3R p d bills es && houseOk p d es b) := by
  unfold ask3R
  rw [List.all_append]
  simp
abbrev OwnP (w : World) (bm n : Nat) (D : DM) : Prop := w.ownsMap Tryz.prog 81 (plainElem Tryz.prog 3) bm n D
theorem ask3_any (p d : Int) (bills : List Bill) (es : List Entry) (A : Option Addr) (c b5 b7 b11 bm N : Nat) (D : DM) (w : World) (hs : SlBill w A bills) (hown : OwnP w bm N D) (hP : PairOf D es)
    (k0 : w.cell? ⟨b7, 0, none⟩ = some (.int .i64 p)) (k1 : w.cell? ⟨b7, 1, none⟩ = some (.int .i64 d)) (k5 : w.cell? ⟨b5, 0, none⟩ = some (.slice A bills.length c)) (k11 : w.cell? ⟨b11, 0, none⟩ = some (.map (some bm)))
    (l7 : b7 < w.heap.size) (l5 : b5 < w.heap.size) (l11 : b11 < w.heap.size) (h0 : bills.length ≤ 3000) (h1 : partOk p d = true) (h2 : ∀ b ∈ bills, b.ok = true) :
    Calls Tryz.prog 43 #[.pointer (some ⟨b5, 0, none⟩), .pointer (some ⟨b7, 0, none⟩), .pointer (some ⟨b11, 0, none⟩)] w fun e w' => e = .returned (.tuple #[.bool (ask3R p d bills es), .int .i64 0]) ∧ Below w.heap.size w w' := by
  have HK := Lib.hid h2
  have HP := Lib.hid hP
  have H1 := Lib.hid h1
  clear h2 hP h1
  go_enter Tryz.func43, Tryz.ntmps43
  go_wp2_with fail
  go_loopw [5, 12] (fun up i wr => ∃ m : Nat, m ≤ bills.length ∧ i = .int .i64 m ∧ up = .bool (ask3R p d (bills.take m) es) ∧ Below w.heap.size w wr) (fun _ i _ => bills.length - (intOf i).toNat)
  case atStart => exact ⟨0, by omega, rfl, rfl, Below.refl _ _⟩
  case round =>
    obtain ⟨m, hm, rfl, rfl, hbw⟩ := hrel
    have hbz := hbw.size
    by_cases hlt : m < bills.length
    · have hx1 : (0 : Int) ≤ (m : Int) := by omega
      have hx2 : (m : Int) < (bills.length : Int) := by omega
      obtain ⟨bb, off, rfl, hbl, hcell⟩ := (hs.up hbw).at_ hlt
      have q0 := hcell 0 _ rfl
      have q1 := hcell 1 _ rfl
      have q2 := hcell 2 _ rfl
      have q3 := hcell 3 _ rfl
      have q4 := hcell 4 _ rfl
      have q5 := hcell 5 _ rfl
      have q6 := hcell 6 _ rfl
      have q7 := hcell 7 _ rfl
      have q8 := hcell 8 _ rfl
      rw [Nat.add_zero] at q0
      clear hcell
      have g0 := (hbw.cell (p := ⟨b7, 0, none⟩) l7).trans k0
      have g1 := (hbw.cell (p := ⟨b7, 1, none⟩) l7).trans k1
      have l7w : b7 < wr.heap.size := by omega
      have hbk := HK.out _ (List.getElem_mem hlt)
      have hb := Bill.ok_iff.1 hbk
      have hsy := hb.2.2.2.1
      have hpl := hb.2.2.2.2.2.1
      have hpr := hb.2.2.2.2.2.2.1
      have hcm := comm_bd H1.out hpr.1
      have HONE := Lib.hid (oneR_ok H1.out hbk)
      have hst : bills.take (m + 1) = bills.take m ++ [bills[m]] := List.take_succ_eq_append_getElem hlt
      have hsucc := ask3R_snoc p d (bills.take m) es bills[m]
      rw [← hst] at hsucc
      clear hb hbk hst
      generalize hcc : comm p d bills[m].price = cm at *
      have HCC := Lib.hid hcc
      clear hcc
      go_wp2_with fail
      refine name_calls (fun w3 hw3 => ?_)
      have b3 : Below wr.heap.size wr w3 := by rw [hw3]; exact (by repeat' (first | (with_reducible exact Below.refl _ _) | (with_reducible assumption) | (with_reducible refine below_drewN ?_ _) | (with_reducible refine Below.drew ?_) | (with_reducible refine below_regrown_up _ _ ?_ ?_) | (with_reducible refine Below.alloc ?_ ?_ _) | (with_reducible refine Below.setCell ?_ ?_ _) | (with_reducible refine below_up ?_ ?_ (by assumption)) | (with_reducible exact Nat.le_refl _) | omega | (simp; done) | (simp; omega)))
      have j0 : w3.cell? ⟨wr.heap.size, 0, none⟩ = some (.int .i64 bills[m].stay) := by rw [hw3]; go_simp
      have j2 : w3.cell? ⟨wr.heap.size, 2, none⟩ = some (.int .i64 bills[m].place) := by rw [hw3]; go_simp
      have j7 : w3.cell? ⟨wr.heap.size, 7, none⟩ = some (.int .i64 bills[m].price) := by rw [hw3]; go_simp
      have l3 : wr.heap.size < w3.heap.size := by rw [hw3]; simp
      clear hw3 q0 q1 q2 q3 q4 q5 q6 q7 q8 g0 g1
      refine (cone_any HONE.out _).mono ?_
      rintro e w4 ⟨rfl, b4⟩
      have i0 := (b4.cell (p := ⟨wr.heap.size, 0, none⟩) l3).trans j0
      have i2 := (b4.cell (p := ⟨wr.heap.size, 2, none⟩) l3).trans j2
      have i7 := (b4.cell (p := ⟨wr.heap.size, 7, none⟩) l3).trans j7
      have B4 := below_up hbw hbz (below_up b3 b3.size b4)
      have f11 := (B4.cell (p := ⟨b11, 0, none⟩) l11).trans k11
      have ho4 : OwnP w4 bm N D := hown.kept (grownBy_below B4 none) (by simp)
      obtain ⟨cv, hcv⟩ : ∃ cv, cv = -movedR es (300 + bills[m].place) bills[m].stay := ⟨_, rfl⟩
      have hrun : ∀ q, (Instr.lookup 80 (.map (some bm)) (.agg #[.int .i64 (300 + bills[m].place), .int .i64 bills[m].stay]) false).run Tryz.prog (w4.drewN q) = .ok (.int .i64 cv) (w4.drewN q) := fun q => by
        obtain ⟨cv', hrun, hat, hwc⟩ := (show OwnP (w4.drewN q) bm N D from ho4).lookup_int (t := 80) keyedP Tryz.underlying80 Tryz.underlying3 (zero_int4 _) (key := .agg #[.int .i64 (300 + bills[m].place), .int .i64 bills[m].stay]) (keyP (wf_small (by omega) (by omega)) (wf_small (by omega) (by omega)))
        have h1 := getP_of hat
        rw [HP.out.at_ _ _ (by omega) (by omega) (by omega) (by omega), ← hcv] at h1
        rw [h1]
        exact hrun
      have hok : houseOk p d es bills[m] = (cv == bills[m].price + cm) := by unfold houseOk; rw [hcv, HCC.out]
      rw [hok] at hsucc
      have HS := Lib.hid hsucc
      have hw1 : IntKind.i64.wrap (300 + bills[m].place) = 300 + bills[m].place := IntWalk.i64_in _ (by omega)
      have hw2 : IntKind.i64.wrap (bills[m].price + cm) = bills[m].price + cm := IntWalk.i64_in _ (by omega)
      clear j0 j2 j7 hcv hok hsucc
      cases hA : ask3R p d (bills.take m) es
      all_goals
        go_wp2_with fail
        go_quiet (fail)
        go_wp2_with fail
        go_roundw
        case rel =>
          refine ⟨m + 1, by omega, by go_num, ?_, (by repeat' (first | (with_reducible exact Below.refl _ _) | (with_reducible assumption) | (with_reducible refine below_drewN ?_ _) | (with_reducible refine Below.drew ?_) | (with_reducible refine below_regrown_up _ _ ?_ ?_) | (with_reducible refine Below.alloc ?_ ?_ _) | (with_reducible refine Below.setCell ?_ ?_ _) | (with_reducible refine below_up ?_ ?_ (by assumption)) | (with_reducible exact Nat.le_refl _) | omega | (simp; done) | (simp; omega)))⟩
          rw [HS.out, hA]
          first | rfl | simp
        case measure => simp [intOf]; omega
    · obtain rfl : m = bills.length := by omega
      rw [List.take_of_length_le (Nat.le_refl _)]
      go_wp2_with fail
      go_ret2
      exact ⟨rfl, hbw⟩
end Go.Proofs.YtmlhoojcdidgkaaGreat
