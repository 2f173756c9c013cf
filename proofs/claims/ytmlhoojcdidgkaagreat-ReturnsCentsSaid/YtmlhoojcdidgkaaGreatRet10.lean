/-
  The laws of package returns: the example.
-/
import Derived.Test.YtmlhoojcdidgkaaGreatRet9
namespace Go.Proofs.YtmlhoojcdidgkaaGreat
set_option linter.unusedSimpArgs false
set_option linter.unusedVariables false
open Go.RowKit Go.Maps
open Go.Sort (grow size_grow)


set_option maxHeartbeats 4000000
set_option maxRecDepth 100000
def hdB : Bill := ⟨7, 4, 2, 1, 3, 5, 2, 10000, 0⟩
def hdT : Tax := ⟨1, 2, 0, 7, 100, 0, 3⟩
def hdV : Env := ⟨[hdT], 1, 10, ⟨0, 0, 1, 0⟩⟩
def hdD : List Deed := [⟨1, 0, 7, 0⟩, ⟨4, 3, 7, 0⟩, ⟨5, 5, 7, 0⟩]
def hdE : List Entry := [⟨5, 204, 302, 10000, 7⟩, ⟨5, 204, 402, 700, 7⟩, ⟨5, 704, 302, 1000, 7⟩]
theorem hd_run : runR hdV [hdB] hdD = (hdE, [0, 0, 0], 0) := by decide +kernel
theorem hd_place : placeR [hdT] [hdB] 2 = (700, 0) := by decide +kernel
theorem hd_place2 : placeR [hdT] [hdB, hdB] 2 = (0, 1) := by decide +kernel
theorem hd_agree : agreeR hdE [hdB] [hdT] 1 10 = (true, 0) := by decide +kernel
theorem hd_agree0 : agreeR hdE [] [hdT] 1 10 = (false, 0) := by decide +kernel
theorem hd_broke : brokeR hdE 4 = (10700, 0) := by decide +kernel
theorem hd_broke0 : brokeR hdE 0 = (0, 1) := by decide +kernel
theorem none_any (w : World) : Calls Tryz.prog 24 #[] w fun e w' => e = .returned (.agg #[.int .i64 0, .int .i64 0, .int .i64 1, .int .i64 0]) ∧ Below w.heap.size w w' := by
  go_enter Tryz.func24, Tryz.ntmps24
  go_wp2_with fail
  refine bodyPost_ret (v := .agg #[.int .i64 0, .int .i64 0, .int .i64 1, .int .i64 0]) (by simp [results, Tryz.results24, go_sem]) rfl ⟨rfl, ?_⟩
  repeat' (first
    | (with_reducible exact Below.refl _ _)
    | (with_reducible assumption)
    | (with_reducible refine below_drewN ?_ _)
    | (with_reducible refine Below.drew ?_)
    | (with_reducible refine below_regrown_up _ _ ?_ ?_)
    | (with_reducible refine Below.alloc ?_ ?_ _)
    | (with_reducible refine Below.setCell ?_ ?_ _)
    | (with_reducible refine below_up ?_ ?_ (by assumption))
    | (with_reducible exact Nat.le_refl _)
    | omega
    | (simp; done)
    | (simp; omega))
def bCells : Array Value := #[.int .i64 7, .int .i64 4, .int .i64 2, .int .i64 1, .int .i64 3, .int .i64 5, .int .i64 2, .int .i64 10000, .int .i64 0]
def dCells : Array Value := #[.int .i64 1, .int .i64 0, .int .i64 7, .int .i64 0, .int .i64 4, .int .i64 3, .int .i64 7, .int .i64 0, .int .i64 5, .int .i64 5, .int .i64 7, .int .i64 0]
theorem slB {W : World} {k : Nat} (hk : k < W.heap.size) (h : ∀ o, W.cell? ⟨k, o, none⟩ = bCells[o]?) : SlBill W (some ⟨k, 0, none⟩) [hdB] := sl_of_box (cs := bCells) (fun _ => rfl) h hk rfl
theorem slD {W : World} {k : Nat} (hk : k < W.heap.size) (h : ∀ o, W.cell? ⟨k, o, none⟩ = dCells[o]?) : SlDeed W (some ⟨k, 0, none⟩) hdD := sl_of_box (cs := dCells) (fun _ => rfl) h hk rfl
theorem cell_drew_at {w : World} {k : Nat} (hk : w.heap.size = k) (cs : Array Value) (t : TypeId) (o : Nat) : ((w.alloc (.cells cs t)).drew).cell? ⟨k, o, none⟩ = cs[o]? := cell_alloc_at hk cs t o
theorem cell_drew_lt (w : World) (ob : Obj) {k o : Nat} (hk : k < w.heap.size) : ((w.alloc ob).drew).cell? ⟨k, o, none⟩ = w.cell? ⟨k, o, none⟩ := World.cell?_alloc_lt w ob ⟨k, o, none⟩ hk
theorem slBB {W : World} {k : Nat} (hk : k < W.heap.size) (h : ∀ o, W.cell? ⟨k, o, none⟩ = (#[.int .i64 7, .int .i64 4, .int .i64 2, .int .i64 1, .int .i64 3, .int .i64 5, .int .i64 2, .int .i64 10000, .int .i64 0, .int .i64 7, .int .i64 4, .int .i64 2, .int .i64 1, .int .i64 3, .int .i64 5, .int .i64 2, .int .i64 10000, .int .i64 0] : Array Value)[o]?) : SlBill W (some ⟨k, 0, none⟩) [hdB, hdB] := sl_of_box (cs := #[.int .i64 7, .int .i64 4, .int .i64 2, .int .i64 1, .int .i64 3, .int .i64 5, .int .i64 2, .int .i64 10000, .int .i64 0, .int .i64 7, .int .i64 4, .int .i64 2, .int .i64 1, .int .i64 3, .int .i64 5, .int .i64 2, .int .i64 10000, .int .i64 0]) (fun _ => rfl) h hk rfl
theorem head33_any (w : World) : Calls Tryz.prog 8 #[] w fun e w' => e = .returned (.bool true) ∧ Below w.heap.size w w' := by
  have HF : Hid (∀ (W : World) (Ab At A9 : Option Addr) (cb ct c9 : Nat), SlBill W Ab [hdB] → SlTax W At [hdT] → SlDeed W A9 hdD → Calls Tryz.prog 17 #[.slice Ab 1 cb, .slice At 1 ct, .agg #[.int .i64 1, .int .i64 10], .agg #[.int .i64 0, .int .i64 0, .int .i64 1, .int .i64 0], .slice A9 3 c9] W fun e w' => (∃ A1 c1 A2 c2, e = .returned (.tuple #[.slice A1 3 c1, .slice A2 3 c2, .int .i64 0]) ∧ SlEnt w' A1 hdE ∧ SlInt w' A2 [0, 0, 0]) ∧ Below W.heap.size W w') := Lib.hid (fun W Ab At A9 cb ct c9 h1 h2 h3 =>
    frun_lit (V := hdV) hd_run Ab At A9 cb ct c9 W h1 h2 h3 (by decide) (by decide) (by decide) (by decide))
  go_enter Tryz.func8, Tryz.ntmps8
  go_wp2_with fail
  refine name_world (fun wS hwS => ?_)
  have bS : Below w.heap.size w wS := by rw [hwS]; exact (by repeat' (first | (with_reducible exact Below.refl _ _) | (with_reducible assumption) | (with_reducible refine below_drewN ?_ _) | (with_reducible refine Below.drew ?_) | (with_reducible refine below_regrown_up _ _ ?_ ?_) | (with_reducible refine Below.alloc ?_ ?_ _) | (with_reducible refine Below.setCell ?_ ?_ _) | (with_reducible refine below_up ?_ ?_ (by assumption)) | (with_reducible exact Nat.le_refl _) | omega | (simp; done) | (simp; omega)))
  have zS : w.heap.size + 1 + 1 < wS.heap.size := by rw [hwS]; simp
  have HS : Hid (∀ W, Below wS.heap.size wS W → W.cell? ⟨w.heap.size, 0, none⟩ = some (.int .i64 7) ∧ W.cell? ⟨w.heap.size, 1, none⟩ = some (.int .i64 4) ∧ W.cell? ⟨w.heap.size, 2, none⟩ = some (.int .i64 2) ∧ W.cell? ⟨w.heap.size, 3, none⟩ = some (.int .i64 1) ∧ W.cell? ⟨w.heap.size, 4, none⟩ = some (.int .i64 3) ∧ W.cell? ⟨w.heap.size, 5, none⟩ = some (.int .i64 5) ∧ W.cell? ⟨w.heap.size, 6, none⟩ = some (.int .i64 2) ∧ W.cell? ⟨w.heap.size, 7, none⟩ = some (.int .i64 10000) ∧ W.cell? ⟨w.heap.size, 8, none⟩ = some (.int .i64 0) ∧ W.cell? ⟨w.heap.size + 1 + 1, 0, none⟩ = some (.int .i64 1) ∧ W.cell? ⟨w.heap.size + 1 + 1, 1, none⟩ = some (.int .i64 10) ∧ Below wS.heap.size wS W) := Lib.hid (fun W hb => by
    have e : ∀ b o, b < wS.heap.size → W.cell? ⟨b, o, none⟩ = wS.cell? ⟨b, o, none⟩ := fun b o h => hb.cell (p := ⟨b, o, none⟩) h
    refine ⟨?_, ?_, ?_, ?_, ?_, ?_, ?_, ?_, ?_, ?_, ?_, hb⟩
    all_goals
      rw [e _ _ (by omega), hwS]
      go_simp)
  have hT : SlTax wS (some ⟨w.heap.size + 1, 0, none⟩) [hdT] := by
    refine sl_of_box (cs := #[.int .i64 1, .int .i64 2, .int .i64 0, .int .i64 7, .int .i64 100, .int .i64 0, .int .i64 3]) (fun _ => rfl) (fun o => ?_) (by omega) rfl
    rw [hwS, World.cell?_alloc_lt _ _ _ (by simp)]
    exact cell_alloc_at (by simp) _ _ o
  clear hwS
  go_cut [4, 5, 6] (fun x y z W => ∃ A1 c1 A2 c2, x = .slice A1 3 c1 ∧ y = .slice A2 3 c2 ∧ z = .int .i64 0 ∧ SlEnt W A1 hdE ∧ SlInt W A2 [0, 0, 0] ∧ Below wS.heap.size wS W)
  case first =>
    go_region_held3 (fun W => W.cell? ⟨w.heap.size, 0, none⟩ = some (.int .i64 7) ∧ W.cell? ⟨w.heap.size, 1, none⟩ = some (.int .i64 4) ∧ W.cell? ⟨w.heap.size, 2, none⟩ = some (.int .i64 2) ∧ W.cell? ⟨w.heap.size, 3, none⟩ = some (.int .i64 1) ∧ W.cell? ⟨w.heap.size, 4, none⟩ = some (.int .i64 3) ∧ W.cell? ⟨w.heap.size, 5, none⟩ = some (.int .i64 5) ∧ W.cell? ⟨w.heap.size, 6, none⟩ = some (.int .i64 2) ∧ W.cell? ⟨w.heap.size, 7, none⟩ = some (.int .i64 10000) ∧ W.cell? ⟨w.heap.size, 8, none⟩ = some (.int .i64 0) ∧ W.cell? ⟨w.heap.size + 1 + 1, 0, none⟩ = some (.int .i64 1) ∧ W.cell? ⟨w.heap.size + 1 + 1, 1, none⟩ = some (.int .i64 10) ∧ Below wS.heap.size wS W)
      ((go_split_ands; refine HS.out _ ?_; repeat' (first
        | (with_reducible exact Below.refl _ _)
        | (with_reducible assumption)
        | (with_reducible refine Below.drew ?_)
        | (with_reducible refine Below.alloc ?_ ?_ _)
        | (with_reducible refine below_up ?_ ?_ (by assumption))
        | omega
        | (simp; done)
        | (simp; omega))))
      (first
      | (go_simp; go_at_call 24; go_loud (refine (none_any _).mono ?_); rintro e w5 ⟨rfl, b5⟩; have z5 := b5.size; have e5 : Below wS.heap.size wS w5 := below_up (by repeat' (first | (with_reducible exact Below.refl _ _) | (with_reducible assumption) | (with_reducible refine below_drewN ?_ _) | (with_reducible refine Below.drew ?_) | (with_reducible refine below_regrown_up _ _ ?_ ?_) | (with_reducible refine Below.alloc ?_ ?_ _) | (with_reducible refine Below.setCell ?_ ?_ _) | (with_reducible refine below_up ?_ ?_ (by assumption)) | (with_reducible exact Nat.le_refl _) | omega | (simp; done) | (simp; omega))) (by first | omega | (simp; done) | (simp; omega)) b5; have z6 := e5.size; try simp at z5)
      | (go_simp; go_at_call 17; go_loud (refine (HF.out _ _ _ _ _ _ _ (slB (by first | omega | (simp; done) | (simp; omega)) (by intro o; repeat' (first | (exact cell_alloc_at (by first | rfl | omega | (simp; done) | (simp; omega)) _ _ o) | (exact cell_drew_at (by first | rfl | omega | (simp; done) | (simp; omega)) _ _ o) | (refine (World.cell?_alloc_lt _ _ _ (by first | rfl | omega | (simp; done) | (simp; omega))).trans ?_) | (refine (cell_drew_lt _ _ (by first | rfl | omega | (simp; done) | (simp; omega))).trans ?_) | (refine (b5.cell (p := ⟨_, o, none⟩) (by first | rfl | omega | (simp; done) | (simp; omega))).trans ?_)))) (hT.up (by repeat' (first | (with_reducible exact Below.refl _ _) | (with_reducible assumption) | (with_reducible refine below_drewN ?_ _) | (with_reducible refine Below.drew ?_) | (with_reducible refine below_regrown_up _ _ ?_ ?_) | (with_reducible refine Below.alloc ?_ ?_ _) | (with_reducible refine Below.setCell ?_ ?_ _) | (with_reducible refine below_up ?_ ?_ (by assumption)) | (with_reducible exact Nat.le_refl _) | omega | (simp; done) | (simp; omega)))) (slD (by first | omega | (simp; done) | (simp; omega)) (by intro o; repeat' (first | (exact cell_alloc_at (by first | rfl | omega | (simp; done) | (simp; omega)) _ _ o) | (exact cell_drew_at (by first | rfl | omega | (simp; done) | (simp; omega)) _ _ o) | (refine (World.cell?_alloc_lt _ _ _ (by first | rfl | omega | (simp; done) | (simp; omega))).trans ?_) | (refine (cell_drew_lt _ _ (by first | rfl | omega | (simp; done) | (simp; omega))).trans ?_) | (refine (b5.cell (p := ⟨_, o, none⟩) (by first | rfl | omega | (simp; done) | (simp; omega))).trans ?_))))).mono ?_); rintro e w6 ⟨⟨A1, c1, A2, c2, rfl, s1, s2⟩, b6⟩; have e6 : Below wS.heap.size wS w6 := below_up (by repeat' (first | (with_reducible exact Below.refl _ _) | (with_reducible assumption) | (with_reducible refine below_drewN ?_ _) | (with_reducible refine Below.drew ?_) | (with_reducible refine below_regrown_up _ _ ?_ ?_) | (with_reducible refine Below.alloc ?_ ?_ _) | (with_reducible refine Below.setCell ?_ ?_ _) | (with_reducible refine below_up ?_ ?_ (by assumption)) | (with_reducible exact Nat.le_refl _) | omega | (simp; done) | (simp; omega))) (by first | omega | (simp; done) | (simp; omega)) b6))
    all_goals
      go_wp2_with fail
      go_meet
      exact ⟨_, _, _, _, rfl, rfl, rfl, s1, s2, e6⟩
  case rest =>
    obtain ⟨A1, c1, A2, c2, rfl, rfl, rfl, s1, s2, b1⟩ := hcut
    obtain ⟨b2', o2, rfl, hbl2, hcell2⟩ := s2.at_ (k := 2) (by decide)
    have q2 := hcell2 0 _ rfl
    clear hcell2
    have l0 : w.heap.size < wc.heap.size := by have := b1.size; omega
    obtain ⟨k0, k1, k2, k3, k4, k5, k6, k7, k8, j0, j1, _⟩ := HS.out _ b1
    go_wp2_with fail
    refine name_calls (fun w2 hw2 => ?_)
    have b2 : Below wc.heap.size wc w2 := by rw [hw2]; exact (by repeat' (first | (with_reducible exact Below.refl _ _) | (with_reducible assumption) | (with_reducible refine below_drewN ?_ _) | (with_reducible refine Below.drew ?_) | (with_reducible refine below_regrown_up _ _ ?_ ?_) | (with_reducible refine Below.alloc ?_ ?_ _) | (with_reducible refine Below.setCell ?_ ?_ _) | (with_reducible refine below_up ?_ ?_ (by assumption)) | (with_reducible exact Nat.le_refl _) | omega | (simp; done) | (simp; omega)))
    have sB : SlBill w2 (some ⟨wc.heap.size, 0, none⟩) [hdB] := slB (by rw [hw2]; simp) (fun o => by rw [hw2]; exact cell_alloc_at rfl _ _ o)
    clear hw2
    clear k0 k1 k2 k3 k4 k5 k6 k7 k8 j0 j1
    have e2 := below_up b1 b1.size b2
    refine (rplace_any [hdT] [hdB] _ _ 1 1 2 w2 (hT.up e2) sB (by decide) (by decide)).mono ?_
    rintro e w3 ⟨rfl, b3⟩
    rw [hd_place]
    have e3 := below_up e2 e2.size b3
    have f3 := below_up b2 b2.size b3
    have l3 : w.heap.size < w3.heap.size := by have := e3.size; omega
    have l3' : w.heap.size + 1 + 1 < w3.heap.size := by have := e3.size; omega
    obtain ⟨k0, k1, k2, k3, k4, k5, k6, k7, k8, j0, j1, _⟩ := HS.out _ e3
    go_wp2_with fail
    refine name_calls (fun w4 hw4 => ?_)
    have b4 : Below w3.heap.size w3 w4 := by rw [hw4]; exact (by repeat' (first | (with_reducible exact Below.refl _ _) | (with_reducible assumption) | (with_reducible refine below_drewN ?_ _) | (with_reducible refine Below.drew ?_) | (with_reducible refine below_regrown_up _ _ ?_ ?_) | (with_reducible refine Below.alloc ?_ ?_ _) | (with_reducible refine Below.setCell ?_ ?_ _) | (with_reducible refine below_up ?_ ?_ (by assumption)) | (with_reducible exact Nat.le_refl _) | omega | (simp; done) | (simp; omega)))
    have sB4 : SlBill w4 (some ⟨w3.heap.size, 0, none⟩) [hdB] := slB (by rw [hw4]; simp) (fun o => by rw [hw4]; exact cell_alloc_at rfl _ _ o)
    clear hw4
    clear k0 k1 k2 k3 k4 k5 k6 k7 k8 j0 j1
    have e4 := below_up e3 e3.size b4
    have f4 := below_up f3 f3.size b4
    refine (agree_any hdE [hdB] [hdT] 1 10 A1 _ _ c1 1 1 w4 (s1.up f4) sB4 (hT.up e4) (by decide) (by decide) (by decide)).mono ?_
    rintro e w5 ⟨rfl, b5⟩
    rw [hd_agree]
    have e5 := below_up e4 e4.size b5
    have f5 := below_up f4 f4.size b5
    have l5 : w.heap.size + 1 + 1 < w5.heap.size := by have := e5.size; omega
    obtain ⟨k0, k1, k2, k3, k4, k5, k6, k7, k8, j0, j1, _⟩ := HS.out _ e5
    go_wp2_with fail
    refine (agree_any hdE [] [hdT] 1 10 A1 none _ c1 0 1 w5 (s1.up f5) Sl.nil_ (hT.up e5) (by decide) (by decide) (by decide)).mono ?_
    rintro e w6 ⟨rfl, b6⟩
    rw [hd_agree0]
    clear k0 k1 k2 k3 k4 k5 k6 k7 k8 j0 j1
    have e6 := below_up e5 e5.size b6
    have f6 := below_up f5 f5.size b6
    go_wp2_with fail
    refine (rbroke_any hdE A1 c1 4 w6 (s1.up f6) (by decide)).mono ?_
    rintro e w7 ⟨rfl, b7⟩
    rw [hd_broke]
    have e7 := below_up e6 e6.size b7
    have f7 := below_up f6 f6.size b7
    go_wp2_with fail
    refine (rbroke_any hdE A1 c1 0 w7 (s1.up f7) (by decide)).mono ?_
    rintro e w8 ⟨rfl, b8⟩
    rw [hd_broke0]
    have e8 := below_up e7 e7.size b8
    have l8 : w.heap.size < w8.heap.size := by have := e8.size; omega
    obtain ⟨k0, k1, k2, k3, k4, k5, k6, k7, k8, j0, j1, _⟩ := HS.out _ e8
    go_wp2_with fail
    refine name_calls (fun w9 hw9 => ?_)
    have b9 : Below w8.heap.size w8 w9 := by rw [hw9]; exact (by repeat' (first | (with_reducible exact Below.refl _ _) | (with_reducible assumption) | (with_reducible refine below_drewN ?_ _) | (with_reducible refine Below.drew ?_) | (with_reducible refine below_regrown_up _ _ ?_ ?_) | (with_reducible refine Below.alloc ?_ ?_ _) | (with_reducible refine Below.setCell ?_ ?_ _) | (with_reducible refine below_up ?_ ?_ (by assumption)) | (with_reducible exact Nat.le_refl _) | omega | (simp; done) | (simp; omega)))
    have sB9 : SlBill w9 (some ⟨w8.heap.size, 0, none⟩) [hdB, hdB] := slBB (by rw [hw9]; simp) (fun o => by rw [hw9]; exact cell_alloc_at rfl _ _ o)
    clear hw9
    clear k0 k1 k2 k3 k4 k5 k6 k7 k8 j0 j1
    have e9 := below_up e8 e8.size b9
    refine (rplace_any [hdT] [hdB, hdB] _ _ 1 2 2 w9 (hT.up e9) sB9 (by decide) (by decide)).mono ?_
    rintro e w10 ⟨rfl, b10⟩
    rw [hd_place2]
    have e10 := below_up e9 e9.size b10
    go_wp2_with fail
    go_ret
    exact ⟨ret_bool (by simp), below_up bS bS.size e10⟩
end Go.Proofs.YtmlhoojcdidgkaaGreat
