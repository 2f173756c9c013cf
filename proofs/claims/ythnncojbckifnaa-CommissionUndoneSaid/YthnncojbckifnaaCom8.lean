/-
  Package commission: statements as a whole; lists that are equal; what entries with a reference move.
-/
import Derived.Test.YthnncojbckifnaaCom7
namespace Go.Proofs.Ythnncojbckifnaa
set_option linter.unusedSimpArgs false
set_option linter.unusedVariables false
open Go.RowKit Go.Maps
open Go.Sort (grow size_grow)

set_option maxHeartbeats 4000000
set_option maxRecDepth 100000
theorem cstmt_any (p d : Int) (l : List Bill) (A : Option Addr) (c : Nat) (ch : Int) (w : World) (hs : SlBill w A l) (hl0 : l.length ≤ maxLen) :
    Calls Try.prog 26 #[.agg #[.int .i64 p, .int .i64 d], .slice A l.length c, .int .i64 ch] w fun e w' => OutI3 (stmtR p d l ch) e w' ∧ Below w.heap.size w w' := by
  by_cases h : l.length ≤ 3000 ∧ partOk p d = true ∧ billsOk l = true ∧ inB ch 0 29 = true
  · obtain ⟨h0, h1, h2, h3⟩ := h
    obtain ⟨L, hL⟩ := bok_of (billsOk_iff.1 h2).1
    exact cstmt_ok p d l L hL A c ch w hs h0 h1 h2 h3
  · exact cstmt_no p d l A c ch w hs hl0 h
theorem cstmt_lit {p d ch s er : Int} {l : List Bill} {r : List Int} (h : stmtR p d l ch = (r, s, er)) (A : Option Addr) (c : Nat) (w : World) (hs : SlBill w A l) (hl0 : l.length ≤ maxLen) :
    Calls Try.prog 26 #[.agg #[.int .i64 p, .int .i64 d], .slice A l.length c, .int .i64 ch] w fun e w' => (∃ A' c', e = .returned (.tuple #[.slice A' r.length c', .int .i64 s, .int .i64 er]) ∧ SlInt w' A' r) ∧ Below w.heap.size w w' := by
  have := cstmt_any p d l A c ch w hs hl0
  rw [h] at this
  exact this
theorem rstmt_lit {p d ch s er : Int} {l : List Bill} {r : List Int} (h : stmtR p d l ch = (r, s, er)) (A : Option Addr) (c : Nat) (w : World) (hs : SlBill w A l) (hl0 : l.length ≤ maxLen) (c0 : -9223372036854775808 ≤ ch) (c1 : ch ≤ 9223372036854775807) :
    Calls Try.prog 27 #[.agg #[.int .i64 p, .int .i64 d], .slice A l.length c, .int .i64 ch] w fun e w' => (∃ A' c', e = .returned (.tuple #[.slice A' r.length c', .int .i64 s, .int .i64 er]) ∧ SlInt w' A' r) ∧ Below w.heap.size w w' := by
  have := rstmt_any p d l A c ch w hs hl0 c0 c1
  rw [h] at this
  exact this
theorem equal_ints_any (xs ys : List Int) (A B : Option Addr) (c d : Nat) (w : World) (hx : SlInt w A xs) (hy : SlInt w B ys) (hl1 : xs.length ≤ 1000000000000) :
    Calls Try.prog 57 #[.slice A xs.length c, .slice B ys.length d] w fun e w' => e = .returned (.bool (decide (xs = ys))) ∧ Below w.heap.size w w' := by
  by_cases hlen : xs.length = ys.length
  · have hb : ((xs.length : Int) != (ys.length : Int)) = false := by rw [bne_eq_false_iff_eq]; omega
    have hbn : (xs.length != ys.length) = false := by simpa using hlen
    have HL := Lib.hid hlen
    have hi1 : (xs.length : Int) ≤ ys.length := by omega
    have hi2 : (ys.length : Int) ≤ xs.length := by omega
    clear hlen
    go_enter Try.func57, Try.ntmps57
    go_wp2
    go_loopw [13] (fun k wr => ∃ m : Nat, m ≤ xs.length ∧ k = .int .i64 m ∧ Hid (xs.take m = ys.take m) ∧ Below w.heap.size w wr) (fun k _ => xs.length - (intOf k).toNat)
    case atStart => exact ⟨0, by omega, rfl, Lib.hid rfl, Below.refl _ _⟩
    case round =>
      obtain ⟨m, hm, rfl, hn, hbw⟩ := hrel
      have hbz := hbw.size
      by_cases hlt : m < xs.length
      · have hlt2 : m < ys.length := by have := HL.out; omega
        obtain ⟨b1, off1, rfl, hbl1, hcell1⟩ := (hx.below hbw).at_ hlt
        obtain ⟨b2, off2, rfl, hbl2, hcell2⟩ := (hy.below hbw).at_ hlt2
        have p1 := hcell1 0 _ rfl
        have p2 := hcell2 0 _ rfl
        rw [Nat.add_zero, Nat.mul_one] at p1 p2
        clear hcell1 hcell2
        have hx1 : (m : Int) < (xs.length : Int) := by omega
        have hx2 : (m : Int) < (ys.length : Int) := by omega
        have hx4 : (0 : Int) ≤ (m : Int) := by omega
        by_cases he : xs[m] = ys[m]
        · have hb2 : (xs[m] != ys[m]) = false := by simpa using he
          have HE := Lib.hid he
          clear he
          go_wp2_with fail
          go_quiet (fail)
          go_wp2_with fail
          go_roundw
          case rel =>
            refine ⟨m + 1, by omega, by go_num, Lib.hid ?_, ?_⟩
            · rw [List.take_succ_eq_append_getElem hlt, List.take_succ_eq_append_getElem hlt2, hn.out, HE.out]
            · repeat' (first
                | (with_reducible exact Below.refl _ _)
                | (with_reducible assumption)
                | (with_reducible refine below_drewN ?_ _)
                | (with_reducible refine Below.drew ?_)
                | (with_reducible refine below_regrown_up _ _ ?_ ?_)
                | (with_reducible refine Below.alloc ?_ ?_ _)
                | (with_reducible refine Below.setCell ?_ ?_ _)
                | (with_reducible refine below_up ?_ ?_ (by assumption))
                | (with_reducible exact Nat.le_refl _)
                | omega
                | (simp; done)
                | (simp; omega))
          case measure => simp [intOf]; omega
        · have hb2 : (xs[m] != ys[m]) = true := by simpa using he
          have HE := Lib.hid he
          clear he
          go_wp2_with fail
          go_quiet (fail)
          go_wp2_with fail
          go_ret
          refine ⟨ret_bool ?_, ?_⟩
          · symm
            rw [decide_eq_false_iff_not]
            intro e
            refine HE.out ?_
            simp [e]
          · repeat' (first
              | (with_reducible exact Below.refl _ _)
              | (with_reducible assumption)
              | (with_reducible refine below_drewN ?_ _)
              | (with_reducible refine Below.drew ?_)
              | (with_reducible refine below_regrown_up _ _ ?_ ?_)
              | (with_reducible refine Below.alloc ?_ ?_ _)
              | (with_reducible refine Below.setCell ?_ ?_ _)
              | (with_reducible refine below_up ?_ ?_ (by assumption))
              | (with_reducible exact Nat.le_refl _)
              | omega
              | (simp; done)
              | (simp; omega))
      · obtain rfl : m = xs.length := by omega
        go_wp2
        go_ret
        refine ⟨ret_bool ?_, ?_⟩
        · symm
          rw [decide_eq_true_eq]
          have := hn.out
          rw [List.take_of_length_le (Nat.le_refl _), List.take_of_length_le (by have := HL.out; omega)] at this
          exact this
        · repeat' (first
            | (with_reducible exact Below.refl _ _)
            | (with_reducible assumption)
            | (with_reducible refine below_drewN ?_ _)
            | (with_reducible refine Below.drew ?_)
            | (with_reducible refine below_regrown_up _ _ ?_ ?_)
            | (with_reducible refine Below.alloc ?_ ?_ _)
            | (with_reducible refine Below.setCell ?_ ?_ _)
            | (with_reducible refine below_up ?_ ?_ (by assumption))
            | (with_reducible exact Nat.le_refl _)
            | omega
            | (simp; done)
            | (simp; omega))
  · have hb : ((xs.length : Int) != (ys.length : Int)) = true := by rw [bne_iff_ne]; omega
    have hbn : (xs.length != ys.length) = true := by simpa using hlen
    have HL := Lib.hid hlen
    clear hlen
    go_enter Try.func57, Try.ntmps57
    go_wp2
    go_ret
    refine ⟨ret_bool ?_, ?_⟩
    · symm
      rw [decide_eq_false_iff_not]
      intro e
      exact HL.out (by rw [e])
    · repeat' (first
        | (with_reducible exact Below.refl _ _)
        | (with_reducible assumption)
        | (with_reducible refine below_drewN ?_ _)
        | (with_reducible refine Below.drew ?_)
        | (with_reducible refine below_regrown_up _ _ ?_ ?_)
        | (with_reducible refine Below.alloc ?_ ?_ _)
        | (with_reducible refine Below.setCell ?_ ?_ _)
        | (with_reducible refine below_up ?_ ?_ (by assumption))
        | (with_reducible exact Nat.le_refl _)
        | omega
        | (simp; done)
        | (simp; omega))
def movedR (es : List Entry) (acc ref : Int) : Int := mvs (fun a => a == acc) (es.filter fun e => e.ref == ref)
theorem movedR_snoc (es : List Entry) (e : Entry) (acc ref : Int) : movedR (es ++ [e]) acc ref = movedR es acc ref + if e.ref = ref then mv (fun a => a == acc) e else 0 := by
  unfold movedR
  rw [List.filter_append, mvs_append]
  by_cases h : e.ref = ref
  · rw [if_pos h]; simp [h, mvs_cons, mvs_nil]
  · rw [if_neg h]; simp [h, mvs_nil]
theorem mv_acc (acc : Int) (e : Entry) : mv (fun a => a == acc) e = (if e.debit = acc then e.cents else 0) - (if e.credit = acc then e.cents else 0) := by
  unfold mv
  simp
theorem movedR_bd {es : List Entry} {acc ref : Int} (h : ∀ e ∈ es, e.ok = true) : -(1000000000 * (es.length : Int)) ≤ movedR es acc ref ∧ movedR es acc ref ≤ 1000000000 * (es.length : Int) := by
  have h1 := mvs_bd (fun a => a == acc) (l := es.filter fun e => e.ref == ref) (fun e he => h e (List.mem_filter.1 he).1)
  have h2 := List.length_filter_le (fun e : Entry => e.ref == ref) es
  unfold movedR
  omega
theorem rmoved_any (es : List Entry) (A : Option Addr) (c : Nat) (acc ref : Int) (w : World) (hs : SlEnt w A es) (hk : ledOk es = true) :
    Calls Try.prog 58 #[.slice A es.length c, .int .i64 acc, .int .i64 ref] w fun e w' => e = .returned (.int .i64 (movedR es acc ref)) ∧ Below w.heap.size w w' := by
  obtain ⟨hl, hok, _⟩ := ledOk_iff.1 hk
  have HOK := Lib.hid hok
  clear hok
  go_enter Try.func58, Try.ntmps58
  go_wp2
  go_loopw [7, 8] (fun nv i wr => ∃ m : Nat, m ≤ es.length ∧ i = .int .i64 m ∧ nv = .int .i64 (movedR (es.take m) acc ref) ∧ Below w.heap.size w wr) (fun _ i _ => es.length - (intOf i).toNat)
  case atStart => exact ⟨0, by omega, rfl, rfl, Below.refl _ _⟩
  case round =>
    obtain ⟨m, hm, rfl, rfl, hbw⟩ := hrel
    have hbz := hbw.size
    by_cases hlt : m < es.length
    · have hx1 : (0 : Int) ≤ (m : Int) := by omega
      have hx2 : (m : Int) < (es.length : Int) := by omega
      obtain ⟨b, off, rfl, hbl, hcell⟩ := (hs.below hbw).at_ hlt
      have q0 := hcell 0 _ rfl
      have q1 := hcell 1 _ rfl
      have q2 := hcell 2 _ rfl
      have q3 := hcell 3 _ rfl
      have q4 := hcell 4 _ rfl
      rw [Nat.add_zero] at q0
      clear hcell
      obtain ⟨_, _, _, hne, ⟨m0, m1⟩, _⟩ := Entry.ok_iff.1 (HOK.out _ (List.getElem_mem hlt))
      have hbd := movedR_bd (acc := acc) (ref := ref) (es := es.take m) (fun e he => HOK.out e (List.mem_of_mem_take he))
      rw [List.length_take] at hbd
      have hst := movedR_snoc (es.take m) es[m] acc ref
      rw [← List.take_succ_eq_append_getElem hlt] at hst
      rw [mv_acc] at hst
      obtain ⟨b0, b1⟩ := hbd
      generalize movedR (es.take m) acc ref = S at *
      have HST := Lib.hid hst
      have HNE := Lib.hid hne
      have hw1 : IntKind.i64.wrap (S + es[m].cents) = S + es[m].cents := IntWalk.i64_in _ (by omega)
      have hw2 : IntKind.i64.wrap (S - es[m].cents) = S - es[m].cents := IntWalk.i64_in _ (by omega)
      clear hst hne
      by_cases t0 : es[m].ref = ref
      · have s0 : (es[m].ref == ref) = true := by simpa using t0
        by_cases t1 : es[m].debit = acc
        · have s1 : (es[m].debit == acc) = true := by simpa using t1
          have s2 : (es[m].credit == acc) = false := by rw [beq_eq_false_iff_ne]; exact fun e => HNE.out (t1.trans e.symm)
          have HT : Hid (movedR (es.take (m + 1)) acc ref = S + es[m].cents) := Lib.hid (by rw [HST.out, if_pos t0, if_pos t1, if_neg (fun e => HNE.out (t1.trans e.symm))]; omega)
          clear t0 t1
          go_wp2_with fail
          go_roundw
          case rel => exact ⟨m + 1, by omega, by go_num, by rw [HT.out], hbw⟩
          case measure => simp [intOf]; omega
        · have s1 : (es[m].debit == acc) = false := by simpa using t1
          by_cases t2 : es[m].credit = acc
          · have s2 : (es[m].credit == acc) = true := by simpa using t2
            have HT : Hid (movedR (es.take (m + 1)) acc ref = S - es[m].cents) := Lib.hid (by rw [HST.out, if_pos t0, if_neg t1, if_pos t2]; omega)
            clear t0 t1 t2
            go_wp2_with fail
            go_roundw
            case rel => exact ⟨m + 1, by omega, by go_num, by rw [HT.out], hbw⟩
            case measure => simp [intOf]; omega
          · have s2 : (es[m].credit == acc) = false := by simpa using t2
            have HT : Hid (movedR (es.take (m + 1)) acc ref = S) := Lib.hid (by rw [HST.out, if_pos t0, if_neg t1, if_neg t2]; omega)
            clear t0 t1 t2
            go_wp2_with fail
            go_roundw
            case rel => exact ⟨m + 1, by omega, by go_num, by rw [HT.out], hbw⟩
            case measure => simp [intOf]; omega
      · have s0 : (es[m].ref == ref) = false := by simpa using t0
        have HT : Hid (movedR (es.take (m + 1)) acc ref = S) := Lib.hid (by rw [HST.out, if_neg t0]; omega)
        clear t0
        go_wp2_with fail
        go_roundw
        case rel => exact ⟨m + 1, by omega, by go_num, by rw [HT.out], hbw⟩
        case measure => simp [intOf]; omega
    · obtain rfl : m = es.length := by omega
      rw [List.take_of_length_le (Nat.le_refl _)]
      go_wp2
      go_ret
      exact ⟨rfl, hbw⟩
end Go.Proofs.Ythnncojbckifnaa
