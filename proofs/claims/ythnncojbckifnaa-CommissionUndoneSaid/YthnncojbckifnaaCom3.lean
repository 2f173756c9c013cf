/-
  Package commission: the reference's statements; lists of integers.
-/
import Derived.Test.YthnncojbckifnaaCom2
import Derived.Test.YthnncojbckifnaaIntEl
import Derived.Test.YthnncojbckifnaaLed12
namespace Go.Proofs.Ythnncojbckifnaa
set_option linter.unusedSimpArgs false
set_option linter.unusedVariables false
open Go.RowKit Go.Maps
open Go.Sort (grow size_grow)

set_option maxHeartbeats 4000000
set_option maxRecDepth 100000
theorem same30_any (xs ys : List Int) (A B : Option Addr) (c d : Nat) (w : World) (hx : SlInt w A xs) (hy : SlInt w B ys) (hl1 : xs.length ≤ 1000000000000) (hl2 : ys.length ≤ 1000000000000) :
    Calls Try.prog 28 #[.slice A xs.length c, .slice B ys.length d] w fun e w' => e = .returned (.bool (decide (xs = ys))) ∧ Below w.heap.size w w' := by
  by_cases hlen : xs.length = ys.length
  · have hb : ((xs.length : Int) != (ys.length : Int)) = false := by rw [bne_eq_false_iff_eq]; omega
    have hbn : (xs.length != ys.length) = false := by simpa using hlen
    have HL := Lib.hid hlen
    have hi1 : (xs.length : Int) ≤ ys.length := by omega
    have hi2 : (ys.length : Int) ≤ xs.length := by omega
    clear hlen
    go_enter Try.func28, Try.ntmps28
    go_wp2
    go_loopw [5] (fun k wr => ∃ m : Nat, m ≤ xs.length ∧ k = .int .i64 m ∧ Hid (xs.take m = ys.take m) ∧ Below w.heap.size w wr) (fun k _ => xs.length - (intOf k).toNat)
    case atStart => exact ⟨0, by omega, rfl, Lib.hid rfl, Below.refl _ _⟩
    case round =>
      obtain ⟨m, hm, rfl, hn, hbw⟩ := hrel
      have hbz := hbw.size
      by_cases hlt : m < xs.length
      · have hlt2 : m < ys.length := by have := HL.out; omega
        obtain ⟨b1, off1, rfl, hbl1, hcell1⟩ := (hx.below hbw).at_ hlt
        obtain ⟨b2, off2, rfl, hbl2, hcell2⟩ := (hy.below hbw).at_ hlt2
        have p1 := hcell1 0 _ rfl
        have p2 := hcell2 0 _ rfl
        rw [Nat.add_zero, Nat.mul_one] at p1 p2
        have HC1 := Lib.hid hcell1
        have HC2 := Lib.hid hcell2
        clear hcell1 hcell2
        have hx1 : (m : Int) < (xs.length : Int) := by omega
        have hx2 : (m : Int) < (ys.length : Int) := by omega
        have hx4 : (0 : Int) ≤ (m : Int) := by omega
        by_cases he : xs[m] = ys[m]
        · have hb2 : (xs[m] != ys[m]) = false := by simpa using he
          have HE := Lib.hid he
          clear he
          go_wp2_with fail
          go_quiet (fail)
          go_wp2_with fail
          go_roundw
          case rel =>
            refine ⟨m + 1, by omega, by go_num, Lib.hid ?_, ?_⟩
            · rw [List.take_succ_eq_append_getElem hlt, List.take_succ_eq_append_getElem hlt2, hn.out, HE.out]
            · repeat' (first
                | (with_reducible exact Below.refl _ _)
                | (with_reducible assumption)
                | (with_reducible refine below_drewN ?_ _)
                | (with_reducible refine Below.drew ?_)
                | (with_reducible refine below_regrown_up _ _ ?_ ?_)
                | (with_reducible refine Below.alloc ?_ ?_ _)
                | (with_reducible refine Below.setCell ?_ ?_ _)
                | (with_reducible refine below_up ?_ ?_ (by assumption))
                | (with_reducible exact Nat.le_refl _)
                | omega
                | (simp; done)
                | (simp; omega))
          case measure => simp [intOf]; omega
        · have hb2 : (xs[m] != ys[m]) = true := by simpa using he
          have HE := Lib.hid he
          clear he
          go_wp2_with fail
          go_quiet (fail)
          go_wp2_with fail
          go_ret
          refine ⟨ret_bool ?_, ?_⟩
          · symm
            rw [decide_eq_false_iff_not]
            intro e
            refine HE.out ?_
            simp [e]
          · repeat' (first
              | (with_reducible exact Below.refl _ _)
              | (with_reducible assumption)
              | (with_reducible refine below_drewN ?_ _)
              | (with_reducible refine Below.drew ?_)
              | (with_reducible refine below_regrown_up _ _ ?_ ?_)
              | (with_reducible refine Below.alloc ?_ ?_ _)
              | (with_reducible refine Below.setCell ?_ ?_ _)
              | (with_reducible refine below_up ?_ ?_ (by assumption))
              | (with_reducible exact Nat.le_refl _)
              | omega
              | (simp; done)
              | (simp; omega))
      · obtain rfl : m = xs.length := by omega
        go_wp2
        go_ret
        refine ⟨ret_bool ?_, ?_⟩
        · symm
          rw [decide_eq_true_eq]
          have := hn.out
          rw [List.take_of_length_le (Nat.le_refl _), List.take_of_length_le (by have := HL.out; omega)] at this
          exact this
        · repeat' (first
            | (with_reducible exact Below.refl _ _)
            | (with_reducible assumption)
            | (with_reducible refine below_drewN ?_ _)
            | (with_reducible refine Below.drew ?_)
            | (with_reducible refine below_regrown_up _ _ ?_ ?_)
            | (with_reducible refine Below.alloc ?_ ?_ _)
            | (with_reducible refine Below.setCell ?_ ?_ _)
            | (with_reducible refine below_up ?_ ?_ (by assumption))
            | (with_reducible exact Nat.le_refl _)
            | omega
            | (simp; done)
            | (simp; omega))
  · have hb : ((xs.length : Int) != (ys.length : Int)) = true := by rw [bne_iff_ne]; omega
    have hbn : (xs.length != ys.length) = true := by simpa using hlen
    have HL := Lib.hid hlen
    clear hlen
    go_enter Try.func28, Try.ntmps28
    go_wp2
    go_ret
    refine ⟨ret_bool ?_, ?_⟩
    · symm
      rw [decide_eq_false_iff_not]
      intro e
      exact HL.out (by rw [e])
    · repeat' (first
        | (with_reducible exact Below.refl _ _)
        | (with_reducible assumption)
        | (with_reducible refine below_drewN ?_ _)
        | (with_reducible refine Below.drew ?_)
        | (with_reducible refine below_regrown_up _ _ ?_ ?_)
        | (with_reducible refine Below.alloc ?_ ?_ _)
        | (with_reducible refine Below.setCell ?_ ?_ _)
        | (with_reducible refine below_up ?_ ?_ (by assumption))
        | (with_reducible exact Nat.le_refl _)
        | omega
        | (simp; done)
        | (simp; omega))

def comms (p d : Int) (l : List Bill) : List Int := l.map fun b => comm p d b.price
def ofCh (l : List Bill) (ch : Int) : List Bill := l.filter fun b => b.channel == ch
theorem ofCh_step {l : List Bill} {ch : Int} {j : Nat} (h : j < l.length) : ofCh (l.take (j + 1)) ch = if l[j].channel = ch then ofCh (l.take j) ch ++ [l[j]] else ofCh (l.take j) ch := by
  unfold ofCh
  rw [List.take_succ_eq_append_getElem h, List.filter_append]
  by_cases hd : l[j].channel = ch
  · rw [if_pos hd]; simp [hd]
  · rw [if_neg hd]; simp [hd]
theorem ofCh_len (l : List Bill) (ch : Int) : (ofCh l ch).length ≤ l.length := List.length_filter_le _ _
def stmtR (p d : Int) (l : List Bill) (ch : Int) : List Int × Int × Int :=
  if 3000 < l.length then ([], 0, 2) else if (!partOk p d || !billsOk l || !inB ch 0 29) = true then ([], 0, 1)
  else if 1000000000 < (comms p d (ofCh l ch)).sum then ([], 0, 3) else (comms p d (ofCh l ch), (comms p d (ofCh l ch)).sum, 0)
theorem stmtR_many {p d ch : Int} {l : List Bill} (h : 3000 < l.length) : stmtR p d l ch = ([], 0, 2) := by unfold stmtR; rw [if_pos h]
theorem stmtR_no {p d ch : Int} {l : List Bill} (h0 : l.length ≤ 3000) (h : (!partOk p d || !billsOk l || !inB ch 0 29) = true) : stmtR p d l ch = ([], 0, 1) := by unfold stmtR; rw [if_neg (by omega), if_pos h]
theorem stmtR_far {p d ch : Int} {l : List Bill} (h0 : l.length ≤ 3000) (h1 : partOk p d = true) (h2 : billsOk l = true) (h3 : inB ch 0 29 = true) (h : 1000000000 < (comms p d (ofCh l ch)).sum) : stmtR p d l ch = ([], 0, 3) := by
  unfold stmtR; rw [if_neg (by omega), h1, h2, h3, if_neg (by simp), if_pos h]
theorem stmtR_ok {p d ch : Int} {l : List Bill} (h0 : l.length ≤ 3000) (h1 : partOk p d = true) (h2 : billsOk l = true) (h3 : inB ch 0 29 = true) (h : ¬ 1000000000 < (comms p d (ofCh l ch)).sum) : stmtR p d l ch = (comms p d (ofCh l ch), (comms p d (ofCh l ch)).sum, 0) := by
  unfold stmtR; rw [if_neg (by omega), h1, h2, h3, if_neg (by simp), if_neg h]
theorem comms_bd {p d : Int} (h1 : partOk p d = true) : ∀ {l : List Bill}, (∀ b ∈ l, b.ok = true) → 0 ≤ (comms p d l).sum ∧ (comms p d l).sum ≤ 1000000000 * (l.length : Int)
  | [], _ => by simp [comms]
  | b :: l, h => by
    have hb := h b (by simp)
    obtain ⟨n0, n1⟩ := (Bill.ok_iff.1 hb).2.2.2.2.2.2.1
    have := comm_bd h1 n0
    have ih := comms_bd h1 (l := l) (fun x hx => h x (by simp [hx]))
    unfold comms at ih ⊢
    rw [List.map_cons, List.sum_cons, List.length_cons]
    omega
theorem comms_snoc (p d : Int) (l : List Bill) (b : Bill) : comms p d (l ++ [b]) = comms p d l ++ [comm p d b.price] := by unfold comms; rw [List.map_append]; rfl
theorem elemBill : Elem Try.prog 44 25 9 72 := elem_mk Try.underlying44 (by kernel_rfl)
theorem bill_one (b : Bill) : ∀ u ∈ b.cs, u.oneCell' = true := by simp [Bill.cs, Value.oneCell']
theorem rOf_any (l : List Bill) (A : Option Addr) (c : Nat) (ch : Int) (w : World) (hs : SlBill w A l) (hl : l.length ≤ 3000) :
    Calls Try.prog 34 #[.slice A l.length c, .int .i64 ch] w fun e w' => (∃ v, e = .returned v ∧ OwnL w' w.heap.size 25 9 Bill.cs v (ofCh l ch)) ∧ Below w.heap.size w w' := by
  go_enter Try.func34, Try.ntmps34
  go_wp2
  go_loopw [5, 6] (fun ov i wr => ∃ m : Nat, m ≤ l.length ∧ i = .int .i64 m ∧ OwnL wr w.heap.size 25 9 Bill.cs ov (ofCh (l.take m) ch) ∧ Below w.heap.size w wr) (fun _ i _ => l.length - (intOf i).toNat)
  case atStart => exact ⟨0, by omega, rfl, OwnL.nil_, Below.refl _ _⟩
  case round =>
    obtain ⟨m, hm, rfl, hown, hbw⟩ := hrel
    have hbz := hbw.size
    by_cases hlt : m < l.length
    · have hx1 : (0 : Int) ≤ (m : Int) := by omega
      have hx2 : (m : Int) < (l.length : Int) := by omega
      obtain ⟨b, off, rfl, hbl, hcell⟩ := (hs.below hbw).at_ hlt
      have q0 := hcell 0 _ rfl
      have q1 := hcell 1 _ rfl
      have q2 := hcell 2 _ rfl
      have q3 := hcell 3 _ rfl
      have q4 := hcell 4 _ rfl
      have q5 := hcell 5 _ rfl
      have q6 := hcell 6 _ rfl
      have q7 := hcell 7 _ rfl
      have q8 := hcell 8 _ rfl
      rw [Nat.add_zero] at q0
      clear hcell
      have hst := ofCh_step (ch := ch) hlt
      have hlen := ofCh_len (l.take m) ch
      rw [List.length_take] at hlen
      have hlen2 : (ofCh (l.take m) ch).length ≤ 3000 := by omega
      clear hlen
      generalize hout : ofCh (l.take m) ch = out at *
      clear hout
      by_cases hd : l[m].channel = ch
      · have hrb : (l[m].channel == ch) = true := by simpa using hd
        rw [if_pos hd] at hst
        have HST := Lib.hid hst
        clear hst hd
        go_wp2_with (at_builtin; go_loud (refine wpList_push _ rfl (.tmp 20) (.tmp 25) 44 25 rfl w.heap.size 9 72 Bill.cs elemBill bill_len bill_one _ out rfl (hown.alloc _) _ 1 l[m] rfl (news_at _ _ _ rfl (by simp)) (by first | omega | (simp; done) | (simp; omega)) (by first | omega | (simp; done) | (simp; omega)) (by first | omega | (simp; done) | (simp; omega)) ?_); intro v2 w5 hown5 hgrow5)
        have hb5 : Below w.heap.size w w5 := below_push (by repeat' (first | (with_reducible exact Below.refl _ _) | (with_reducible assumption) | (with_reducible refine below_drewN ?_ _) | (with_reducible refine Below.drew ?_) | (with_reducible refine below_regrown_up _ _ ?_ ?_) | (with_reducible refine Below.alloc ?_ ?_ _) | (with_reducible refine Below.setCell ?_ ?_ _) | (with_reducible refine below_up ?_ ?_ (by assumption)) | (with_reducible exact Nat.le_refl _) | omega | (simp; done) | (simp; omega))) (hown.alloc _) hgrow5 (by first | omega | (simp; done) | (simp; omega))
        go_roundw
        case rel =>
          refine ⟨m + 1, by omega, by go_num, ?_, hb5⟩
          rw [HST.out]
          exact hown5
        case measure => simp [intOf]; omega
      · have hrb : (l[m].channel == ch) = false := by simpa using hd
        rw [if_neg hd] at hst
        have HST := Lib.hid hst
        clear hst hd
        go_wp2_with fail
        go_roundw
        case rel =>
          refine ⟨m + 1, by omega, by go_num, ?_, hbw⟩
          rw [HST.out]
          exact hown
        case measure => simp [intOf]; omega
    · obtain rfl : m = l.length := by omega
      rw [List.take_of_length_le (Nat.le_refl _)] at hown
      go_wp2
      go_ret
      exact ⟨⟨_, rfl, hown⟩, hbw⟩
def OutI3 (r : List Int × Int × Int) (e : Ending) (w' : World) : Prop := ∃ A c, e = .returned (.tuple #[.slice A r.1.length c, .int .i64 r.2.1, .int .i64 r.2.2]) ∧ SlInt w' A r.1
theorem outI3_nil {s er : Int} {w' : World} : OutI3 ([], s, er) (.returned (.tuple #[.slice none 0 0, .int .i64 s, .int .i64 er])) w' := ⟨none, 0, rfl, Sl.nil_⟩
end Go.Proofs.Ythnncojbckifnaa
