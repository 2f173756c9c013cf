/-
  Package returns: the second question that Agree asks: the channels' statements.
-/
import Derived.Test.YtmlhoojcdidgkaaGreatRet1
import Derived.Test.YtmlhoojcdidgkaaGreatM28
namespace Go.Proofs.YtmlhoojcdidgkaaGreat
set_option linter.unusedSimpArgs false
set_option linter.unusedVariables false
open Go.RowKit Go.Maps
open Go.Sort (grow size_grow)


set_option maxHeartbeats 4000000
set_option maxRecDepth 100000
def chFar (p d : Int) (bills : List Bill) (j : Nat) : Bool := decide (1000000000 < (comms p d (ofCh bills (j : Int))).sum)
def chOk (p d : Int) (bills : List Bill) (es : List Entry) (j : Nat) : Bool := agrees (comms p d (ofCh bills (j : Int))) (comms p d (ofCh bills (j : Int))) (ofCh bills (j : Int)) es (700 + (j : Int))
def all2 (p d : Int) (bills : List Bill) (es : List Entry) (n : Nat) : Bool := (List.range n).all (chOk p d bills es)
theorem all2_succ (p d : Int) (bills : List Bill) (es : List Entry) (n : Nat) : all2 p d bills es (n + 1) = (all2 p d bills es n && chOk p d bills es n) := by
  unfold all2
  rw [List.range_succ, List.all_append]
  simp
def ask2R (p d : Int) (bills : List Bill) (es : List Entry) : Bool × Int := if (List.range 30).any (chFar p d bills) = true then (false, 3) else (all2 p d bills es 30, 0)
theorem ask2R_far {p d : Int} {bills : List Bill} {es : List Entry} {j : Nat} (hj : j < 30) (h : chFar p d bills j = true) : ask2R p d bills es = (false, 3) := by
  unfold ask2R
  rw [if_pos (List.any_eq_true.2 ⟨j, List.mem_range.2 hj, h⟩)]
theorem ask2R_ok {p d : Int} {bills : List Bill} {es : List Entry} (h : ∀ j, j < 30 → chFar p d bills j = false) : ask2R p d bills es = (all2 p d bills es 30, 0) := by
  unfold ask2R
  rw [if_neg]
  intro h'
  obtain ⟨j, hj, h2⟩ := List.any_eq_true.1 h'
  rw [h j (List.mem_range.1 hj)] at h2
  cases h2
theorem ask2_any (p d : Int) (bills : List Bill) (es : List Entry) (A E : Option Addr) (c cE b7 b5 b4 : Nat) (w : World) (hs : SlBill w A bills) (he : SlEnt w E es)
    (k0 : w.cell? ⟨b7, 0, none⟩ = some (.int .i64 p)) (k1 : w.cell? ⟨b7, 1, none⟩ = some (.int .i64 d)) (k5 : w.cell? ⟨b5, 0, none⟩ = some (.slice A bills.length c)) (k4 : w.cell? ⟨b4, 0, none⟩ = some (.slice E es.length cE))
    (l7 : b7 < w.heap.size) (l5 : b5 < w.heap.size) (l4 : b4 < w.heap.size) (h0 : bills.length ≤ 3000) (h1 : partOk p d = true) (h2 : billsOk bills = true) (h3 : ledOk es = true) :
    Calls Tryz.prog 40 #[.pointer (some ⟨b7, 0, none⟩), .pointer (some ⟨b5, 0, none⟩), .pointer (some ⟨b4, 0, none⟩)] w fun e w' => e = .returned (.tuple #[.bool (ask2R p d bills es).1, .int .i64 (ask2R p d bills es).2]) ∧ Below w.heap.size w w' := by
  have hel := (ledOk_iff.1 h3).1
  have HF : Hid (∀ (m : Nat) (W : World), m < 30 → chFar p d bills m = true → SlBill W A bills → Calls Tryz.prog 41 #[.agg #[.int .i64 p, .int .i64 d], .slice A bills.length c, .int .i64 m] W fun e w' => (∃ A' c', e = .returned (.tuple #[.slice A' 0 c', .int .i64 0, .int .i64 3])) ∧ Below W.heap.size W w') := Lib.hid (fun m W hm hf hW => by
    have hst := stmtR_far (p := p) (d := d) (ch := (m : Int)) h0 h1 h2 (inB_iff.2 (by omega)) (of_decide_eq_true hf)
    refine (cstmt_lit hst A c W hW (by unfold maxLen; omega)).mono ?_
    rintro e w' ⟨⟨A', c', h, _⟩, hb⟩
    exact ⟨⟨A', c', h⟩, hb⟩)
  have HN : Hid (∀ (m : Nat) (W : World), m < 30 → chFar p d bills m = false → SlBill W A bills → Calls Tryz.prog 41 #[.agg #[.int .i64 p, .int .i64 d], .slice A bills.length c, .int .i64 m] W fun e w' => (∃ A' c' n, e = .returned (.tuple #[.slice A' (comms p d (ofCh bills (m : Int))).length c', .int .i64 n, .int .i64 0]) ∧ SlInt w' A' (comms p d (ofCh bills (m : Int)))) ∧ Below W.heap.size W w') := Lib.hid (fun m W hm hf hW => by
    have hst := stmtR_ok (p := p) (d := d) (ch := (m : Int)) h0 h1 h2 (inB_iff.2 (by omega)) (of_decide_eq_false hf)
    refine (cstmt_lit hst A c W hW (by unfold maxLen; omega)).mono ?_
    rintro e w' ⟨⟨A', c', h, h'⟩, hb⟩
    exact ⟨⟨A', c', _, h, h'⟩, hb⟩)
  have HA : Hid (∀ (m : Nat) (W : World) (A' : Option Addr) (c' : Nat), m < 30 → chFar p d bills m = false → SlBill W A bills → SlInt W A' (comms p d (ofCh bills (m : Int))) → SlEnt W E es → Calls Tryz.prog 42 #[.agg #[.int .i64 p, .int .i64 d], .slice A bills.length c, .int .i64 m, .slice A' (comms p d (ofCh bills (m : Int))).length c', .slice E es.length cE] W fun e w' => e = .returned (.tuple #[.bool (chOk p d bills es m), .int .i64 0]) ∧ Below W.heap.size W w') := Lib.hid (fun m W A' c' hm hf hW hA' hE => by
    have hst := stmtR_ok (p := p) (d := d) (ch := (m : Int)) h0 h1 h2 (inB_iff.2 (by omega)) (of_decide_eq_false hf)
    have hag : agreesR p d bills (m : Int) (comms p d (ofCh bills (m : Int))) es = (chOk p d bills es m, 0) := by
      unfold agreesR chOk
      rw [hst, h3]
      simp
    refine cagrees_lit hag A c A' c' E cE W hW (by unfold maxLen; omega) hA' ?_ hE (by omega)
    have := ofCh_len bills (m : Int)
    unfold comms maxLen
    rw [List.length_map]
    omega)
  clear h1 h2 h3
  go_enter Tryz.func40, Tryz.ntmps40
  go_wp2_with fail
  go_loopw [5, 11] (fun up i wr => ∃ m : Nat, m ≤ 30 ∧ i = .int .i64 m ∧ up = .bool (all2 p d bills es m) ∧ Hid (∀ j, j < m → chFar p d bills j = false) ∧ Below w.heap.size w wr) (fun _ i _ => 30 - (intOf i).toNat)
  case atStart => exact ⟨0, by omega, rfl, rfl, Lib.hid (fun j h => absurd h (by omega)), Below.refl _ _⟩
  case round =>
    obtain ⟨m, hm, rfl, rfl, hnf, hbw⟩ := hrel
    have hbz := hbw.size
    by_cases hlt : m < 30
    · have hx2 : (m : Int) < 30 := by omega
      have g0 := (hbw.cell (p := ⟨b7, 0, none⟩) l7).trans k0
      have g1 := (hbw.cell (p := ⟨b7, 1, none⟩) l7).trans k1
      have g5 := (hbw.cell (p := ⟨b5, 0, none⟩) l5).trans k5
      cases hf : chFar p d bills m
      · have HFF := Lib.hid hf
        clear hf
        go_wp2_with fail
        refine (HN.out m wr hlt HFF.out (hs.up hbw)).mono ?_
        rintro e w1 ⟨⟨A1, c1, n1, rfl, s1⟩, b1⟩
        have B1 := below_up hbw hbz b1
        have f0 := (B1.cell (p := ⟨b7, 0, none⟩) l7).trans k0
        have f1 := (B1.cell (p := ⟨b7, 1, none⟩) l7).trans k1
        have f5 := (B1.cell (p := ⟨b5, 0, none⟩) l5).trans k5
        have f4 := (B1.cell (p := ⟨b4, 0, none⟩) l4).trans k4
        clear g0 g1 g5
        go_wp2_with fail
        refine (HA.out m w1 A1 c1 hlt HFF.out (hs.up B1) s1 (he.up B1)).mono ?_
        rintro e w2 ⟨rfl, b2⟩
        have B2 := below_up B1 B1.size b2
        clear f0 f1 f5 f4
        have hsucc := all2_succ p d bills es m
        cases hA : all2 p d bills es m <;> cases hC : chOk p d bills es m
        all_goals
          rw [hA, hC] at hsucc
          have HS := Lib.hid hsucc
          clear hsucc hA hC
          go_wp2_with fail
          go_roundw
          case rel =>
            refine ⟨m + 1, by omega, by go_num, by rw [HS.out]; rfl, Lib.hid (fun j hj => ?_), B2⟩
            by_cases e : j = m
            · subst e; exact HFF.out
            · exact hnf.out j (by omega)
          case measure => simp [intOf]; omega
      · have hr := ask2R_far (es := es) hlt hf
        have HFF := Lib.hid hf
        have HR := Lib.hid hr
        clear hf hr
        go_wp2_with fail
        refine (HF.out m wr hlt HFF.out (hs.up hbw)).mono ?_
        rintro e w1 ⟨⟨A1, c1, rfl⟩, b1⟩
        go_wp2_with fail
        go_ret2
        exact ⟨by rw [HR.out]; rfl, below_up hbw hbz b1⟩
    · obtain rfl : m = 30 := by omega
      have hr := ask2R_ok (es := es) (fun j hj => hnf.out j hj)
      have HR := Lib.hid hr
      clear hr
      go_wp2_with fail
      go_ret2
      exact ⟨by rw [HR.out]; rfl, hbw⟩
end Go.Proofs.YtmlhoojcdidgkaaGreat
