/-
  Texts, one behind the other: FoW17, FoHead, ComArgs, Two.
-/
import Derived.Test.YtmlhoojcdidgkaaM23
import Derived.Test.YtmlhoojcdidgkaaM08
import Derived.Test.YtmlhoojcdidgkaaM11
import Derived.Test.YtmlhoojcdidgkaaM07
import Derived.HandedShaped
import Derived.Test.YtmlhoojcdidgkaaM01
/-
  Package folio and its reference: what the laws ask.
-/
namespace Go.Proofs.Ytmlhoojcdidgkaa
set_option linter.unusedSimpArgs false
set_option linter.unusedVariables false
open Go.RowKit
open Go.Sort (grow size_grow)


set_option maxHeartbeats 4000000
set_option maxRecDepth 100000
theorem frun_any (V : Env) (bills : List Bill) (l : List Deed) (A At Al : Option Addr) (c ct cl : Nat) (w : World) (hs : SlBill w A bills) (hts : SlTax w At V.ts) (hsl : SlDeed w Al l) (hb : bills.length ≤ 3000) (htl : V.ts.length ≤ 1000) (hll : l.length ≤ 500)
    (hst : ∀ x ∈ l, -9223372036854775808 ≤ x.stay ∧ x.stay ≤ 9223372036854775807) :
    Calls Try.prog 12 #[.slice A bills.length c, .slice At V.ts.length ct, .agg #[.int .i64 V.p, .int .i64 V.d], V.k.v, .slice Al l.length cl] w fun e w' => OutRun (runR V bills l) e w' ∧ Below w.heap.size w w' := by
  cases hok : runOk V bills
  · exact frun_no V bills l A At Al c ct cl w hs hts hb htl hll hok
  · exact frun_ok V bills l A At Al c ct cl w hs hts hsl hb htl hll hst hok
def fewB (a b c : Nat) : Bool := decide (a ≤ 40) && decide (b ≤ 60) && decide (c ≤ 40)
theorem few32_any (a b c : Nat) (A B C : Option Addr) (x y z : Nat) (w : World) :
    Calls Try.prog 11 #[.slice A a x, .slice B b y, .slice C c z] w fun e w' => e = .returned (.bool (fewB a b c)) ∧ w = w' := by
  unfold fewB
  by_cases h1 : a ≤ 40
  · have g1 : (a : Int) ≤ 40 := by omega
    by_cases h2 : b ≤ 60
    · have g2 : (b : Int) ≤ 60 := by omega
      by_cases h3 : c ≤ 40
      · have g3 : (c : Int) ≤ 40 := by omega
        go_enter Try.func11, Try.ntmps11
        go_wp2
        go_ret
        exact ⟨ret_bool (by simp [h1, h2, h3]), rfl⟩
      · have g3 : ¬ (c : Int) ≤ 40 := by omega
        go_enter Try.func11, Try.ntmps11
        go_wp2
        go_ret
        exact ⟨ret_bool (by simp [h1, h2, h3]), rfl⟩
    · have g2 : ¬ (b : Int) ≤ 60 := by omega
      go_enter Try.func11, Try.ntmps11
      go_wp2
      go_ret
      exact ⟨ret_bool (by simp [h1, h2]), rfl⟩
  · have g1 : ¬ (a : Int) ≤ 40 := by omega
    go_enter Try.func11, Try.ntmps11
    go_wp2
    go_ret
    exact ⟨ret_bool (by simp [h1]), rfl⟩
theorem serr_any (xs ys : List Int) (A B : Option Addr) (c d : Nat) (w : World) (hx : SlInt w A xs) (hy : SlInt w B ys) (hl1 : xs.length ≤ 1000000000000) (hl2 : ys.length ≤ 1000000000000) :
    Calls Try.prog 14 #[.slice A xs.length c, .slice B ys.length d] w fun e w' => e = .returned (.bool (decide (xs = ys))) ∧ Below w.heap.size w w' := by
  by_cases hlen : xs.length = ys.length
  · have hb : ((xs.length : Int) != (ys.length : Int)) = false := by rw [bne_eq_false_iff_eq]; omega
    have hbn : (xs.length != ys.length) = false := by simpa using hlen
    have HL := Lib.hid hlen
    have hi1 : (xs.length : Int) ≤ ys.length := by omega
    have hi2 : (ys.length : Int) ≤ xs.length := by omega
    clear hlen
    go_enter Try.func14, Try.ntmps14
    go_wp2
    go_loopw [5] (fun k wr => ∃ m : Nat, m ≤ xs.length ∧ k = .int .i64 m ∧ Hid (xs.take m = ys.take m) ∧ Below w.heap.size w wr) (fun k _ => xs.length - (intOf k).toNat)
    case atStart => exact ⟨0, by omega, rfl, Lib.hid rfl, Below.refl _ _⟩
    case round =>
      obtain ⟨m, hm, rfl, hn, hbw⟩ := hrel
      have hbz := hbw.size
      by_cases hlt : m < xs.length
      · have hlt2 : m < ys.length := by have := HL.out; omega
        obtain ⟨b1, off1, rfl, hbl1, hcell1⟩ := (hx.below hbw).at_ hlt
        obtain ⟨b2, off2, rfl, hbl2, hcell2⟩ := (hy.below hbw).at_ hlt2
        have p1 := hcell1 0 _ rfl
        have p2 := hcell2 0 _ rfl
        rw [Nat.add_zero, Nat.mul_one] at p1 p2
        clear hcell1 hcell2
        have hx1 : (m : Int) < (xs.length : Int) := by omega
        have hx2 : (m : Int) < (ys.length : Int) := by omega
        have hx4 : (0 : Int) ≤ (m : Int) := by omega
        by_cases he : xs[m] = ys[m]
        · have hb2 : (xs[m] != ys[m]) = false := by simpa using he
          have HE := Lib.hid he
          clear he
          go_wp2_with fail
          go_quiet (fail)
          go_wp2_with fail
          go_roundw
          case rel =>
            refine ⟨m + 1, by omega, by go_num, Lib.hid ?_, ?_⟩
            · rw [List.take_succ_eq_append_getElem hlt, List.take_succ_eq_append_getElem hlt2, hn.out, HE.out]
            · repeat' (first
                | (with_reducible exact Below.refl _ _)
                | (with_reducible assumption)
                | (with_reducible refine below_drewN ?_ _)
                | (with_reducible refine Below.drew ?_)
                | (with_reducible refine below_regrown_up _ _ ?_ ?_)
                | (with_reducible refine Below.alloc ?_ ?_ _)
                | (with_reducible refine Below.setCell ?_ ?_ _)
                | (with_reducible refine below_up ?_ ?_ (by assumption))
                | (with_reducible exact Nat.le_refl _)
                | omega
                | (simp; done)
                | (simp; omega))
          case measure => simp [intOf]; omega
        · have hb2 : (xs[m] != ys[m]) = true := by simpa using he
          have HE := Lib.hid he
          clear he
          go_wp2_with fail
          go_quiet (fail)
          go_wp2_with fail
          go_ret
          refine ⟨ret_bool ?_, ?_⟩
          · symm
            rw [decide_eq_false_iff_not]
            intro e
            refine HE.out ?_
            simp [e]
          · repeat' (first
              | (with_reducible exact Below.refl _ _)
              | (with_reducible assumption)
              | (with_reducible refine below_drewN ?_ _)
              | (with_reducible refine Below.drew ?_)
              | (with_reducible refine below_regrown_up _ _ ?_ ?_)
              | (with_reducible refine Below.alloc ?_ ?_ _)
              | (with_reducible refine Below.setCell ?_ ?_ _)
              | (with_reducible refine below_up ?_ ?_ (by assumption))
              | (with_reducible exact Nat.le_refl _)
              | omega
              | (simp; done)
              | (simp; omega))
      · obtain rfl : m = xs.length := by omega
        go_wp2
        go_ret
        refine ⟨ret_bool ?_, ?_⟩
        · symm
          rw [decide_eq_true_eq]
          have := hn.out
          rw [List.take_of_length_le (Nat.le_refl _), List.take_of_length_le (by have := HL.out; omega)] at this
          exact this
        · repeat' (first
            | (with_reducible exact Below.refl _ _)
            | (with_reducible assumption)
            | (with_reducible refine below_drewN ?_ _)
            | (with_reducible refine Below.drew ?_)
            | (with_reducible refine below_regrown_up _ _ ?_ ?_)
            | (with_reducible refine Below.alloc ?_ ?_ _)
            | (with_reducible refine Below.setCell ?_ ?_ _)
            | (with_reducible refine below_up ?_ ?_ (by assumption))
            | (with_reducible exact Nat.le_refl _)
            | omega
            | (simp; done)
            | (simp; omega))
  · have hb : ((xs.length : Int) != (ys.length : Int)) = true := by rw [bne_iff_ne]; omega
    have hbn : (xs.length != ys.length) = true := by simpa using hlen
    have HL := Lib.hid hlen
    clear hlen
    go_enter Try.func14, Try.ntmps14
    go_wp2
    go_ret
    refine ⟨ret_bool ?_, ?_⟩
    · symm
      rw [decide_eq_false_iff_not]
      intro e
      exact HL.out (by rw [e])
    · repeat' (first
        | (with_reducible exact Below.refl _ _)
        | (with_reducible assumption)
        | (with_reducible refine below_drewN ?_ _)
        | (with_reducible refine Below.drew ?_)
        | (with_reducible refine below_regrown_up _ _ ?_ ?_)
        | (with_reducible refine Below.alloc ?_ ?_ _)
        | (with_reducible refine Below.setCell ?_ ?_ _)
        | (with_reducible refine below_up ?_ ?_ (by assumption))
        | (with_reducible exact Nat.le_refl _)
        | omega
        | (simp; done)
        | (simp; omega))
theorem rbal_any (es : List Entry) (A : Option Addr) (c : Nat) (acc ref : Int) (w : World) (hs : SlEnt w A es) (hl : es.length ≤ 6000) (hok : ∀ e ∈ es, e.ok = true) (hr : 0 ≤ ref) :
    Calls Try.prog 33 #[.slice A es.length c, .int .i64 acc, .int .i64 ref, .int .i64 366] w fun e w' => e = .returned (.int .i64 (movedR es acc ref)) ∧ Below w.heap.size w w' := by
  have HOK := Lib.hid hok
  clear hok
  go_enter Try.func33, Try.ntmps33
  go_wp2
  go_loopw [9, 10] (fun nv i wr => ∃ m : Nat, m ≤ es.length ∧ i = .int .i64 m ∧ nv = .int .i64 (movedR (es.take m) acc ref) ∧ Below w.heap.size w wr) (fun _ i _ => es.length - (intOf i).toNat)
  case atStart => exact ⟨0, by omega, rfl, rfl, Below.refl _ _⟩
  case round =>
    obtain ⟨m, hm, rfl, rfl, hbw⟩ := hrel
    have hbz := hbw.size
    by_cases hlt : m < es.length
    · have hx1 : (0 : Int) ≤ (m : Int) := by omega
      have hx2 : (m : Int) < (es.length : Int) := by omega
      obtain ⟨b, off, rfl, hbl, hcell⟩ := (hs.below hbw).at_ hlt
      have q0 := hcell 0 _ rfl
      have q1 := hcell 1 _ rfl
      have q2 := hcell 2 _ rfl
      have q3 := hcell 3 _ rfl
      have q4 := hcell 4 _ rfl
      rw [Nat.add_zero] at q0
      clear hcell
      obtain ⟨⟨d0, d1⟩, _, _, hne, ⟨m0, m1⟩, _⟩ := Entry.ok_iff.1 (HOK.out _ (List.getElem_mem hlt))
      have hbd := movedR_bd (acc := acc) (ref := ref) (es := es.take m) (fun e he => HOK.out e (List.mem_of_mem_take he))
      rw [List.length_take] at hbd
      obtain ⟨b0, b1⟩ := hbd
      have hst : movedR (es.take (m + 1)) acc ref = movedR (es.take m) acc ref + if es[m].ref = ref then ((if es[m].debit = acc then es[m].cents else 0) - (if es[m].credit = acc then es[m].cents else 0)) else 0 := by
        rw [List.take_succ_eq_append_getElem hlt, movedR_snoc, mv_acc]
      generalize movedR (es.take m) acc ref = S at *
      have HST := Lib.hid hst
      clear hst
      have hw1 : IntKind.i64.wrap (S + es[m].cents) = S + es[m].cents := IntWalk.i64_in _ (by omega)
      have hw2 : IntKind.i64.wrap (S - es[m].cents) = S - es[m].cents := IntWalk.i64_in _ (by omega)
      have hdd : decide (366 < es[m].day) = false := by rw [decide_eq_false_iff_not]; omega
      have hNE := Lib.hid hne
      clear hne
      by_cases t0 : es[m].ref = ref
      · have s0 : (es[m].ref != ref) = false := by simpa using t0
        by_cases t1 : es[m].debit = acc
        · have s1 : (es[m].debit == acc) = true := by simpa using t1
          have t2 : es[m].credit ≠ acc := fun e => hNE.out (t1.trans e.symm)
          have s2 : (es[m].credit == acc) = false := by simpa using t2
          have HT : Hid (movedR (es.take (m + 1)) acc ref = S + es[m].cents) := Lib.hid (by rw [HST.out, if_pos t0, if_pos t1, if_neg t2]; omega)
          clear t0 t1 t2
          go_wp2_with fail
          go_roundw
          case rel =>
            refine ⟨m + 1, by omega, by go_num, by rw [HT.out], ?_⟩
            repeat' (first
              | (with_reducible exact Below.refl _ _)
              | (with_reducible assumption)
              | (with_reducible refine below_drewN ?_ _)
              | (with_reducible refine Below.drew ?_)
              | (with_reducible refine below_regrown_up _ _ ?_ ?_)
              | (with_reducible refine Below.alloc ?_ ?_ _)
              | (with_reducible refine Below.setCell ?_ ?_ _)
              | (with_reducible refine below_up ?_ ?_ (by assumption))
              | (with_reducible exact Nat.le_refl _)
              | omega
              | (simp; done)
              | (simp; omega))
          case measure => simp [intOf]; omega
        · have s1 : (es[m].debit == acc) = false := by simpa using t1
          by_cases t2 : es[m].credit = acc
          · have s2 : (es[m].credit == acc) = true := by simpa using t2
            have HT : Hid (movedR (es.take (m + 1)) acc ref = S - es[m].cents) := Lib.hid (by rw [HST.out, if_pos t0, if_neg t1, if_pos t2]; omega)
            clear t0 t1 t2
            go_wp2_with fail
            go_roundw
            case rel =>
              refine ⟨m + 1, by omega, by go_num, by rw [HT.out], ?_⟩
              repeat' (first
                | (with_reducible exact Below.refl _ _)
                | (with_reducible assumption)
                | (with_reducible refine below_drewN ?_ _)
                | (with_reducible refine Below.drew ?_)
                | (with_reducible refine below_regrown_up _ _ ?_ ?_)
                | (with_reducible refine Below.alloc ?_ ?_ _)
                | (with_reducible refine Below.setCell ?_ ?_ _)
                | (with_reducible refine below_up ?_ ?_ (by assumption))
                | (with_reducible exact Nat.le_refl _)
                | omega
                | (simp; done)
                | (simp; omega))
            case measure => simp [intOf]; omega
          · have s2 : (es[m].credit == acc) = false := by simpa using t2
            have HT : Hid (movedR (es.take (m + 1)) acc ref = S) := Lib.hid (by rw [HST.out, if_pos t0, if_neg t1, if_neg t2]; omega)
            clear t0 t1 t2
            go_wp2_with fail
            go_roundw
            case rel =>
              refine ⟨m + 1, by omega, by go_num, by rw [HT.out], ?_⟩
              repeat' (first
                | (with_reducible exact Below.refl _ _)
                | (with_reducible assumption)
                | (with_reducible refine below_drewN ?_ _)
                | (with_reducible refine Below.drew ?_)
                | (with_reducible refine below_regrown_up _ _ ?_ ?_)
                | (with_reducible refine Below.alloc ?_ ?_ _)
                | (with_reducible refine Below.setCell ?_ ?_ _)
                | (with_reducible refine below_up ?_ ?_ (by assumption))
                | (with_reducible exact Nat.le_refl _)
                | omega
                | (simp; done)
                | (simp; omega))
            case measure => simp [intOf]; omega
      · have s0 : (es[m].ref != ref) = true := by simpa using t0
        have HT : Hid (movedR (es.take (m + 1)) acc ref = S) := Lib.hid (by rw [HST.out, if_neg t0]; omega)
        clear t0
        go_wp2_with fail
        go_roundw
        case rel =>
          refine ⟨m + 1, by omega, by go_num, by rw [HT.out], ?_⟩
          repeat' (first
            | (with_reducible exact Below.refl _ _)
            | (with_reducible assumption)
            | (with_reducible refine below_drewN ?_ _)
            | (with_reducible refine Below.drew ?_)
            | (with_reducible refine below_regrown_up _ _ ?_ ?_)
            | (with_reducible refine Below.alloc ?_ ?_ _)
            | (with_reducible refine Below.setCell ?_ ?_ _)
            | (with_reducible refine below_up ?_ ?_ (by assumption))
            | (with_reducible exact Nat.le_refl _)
            | omega
            | (simp; done)
            | (simp; omega))
        case measure => simp [intOf]; omega
    · obtain rfl : m = es.length := by omega
      rw [List.take_of_length_le (Nat.le_refl _)]
      go_wp2
      go_ret
      exact ⟨rfl, hbw⟩
theorem rmov_any (es : List Entry) (A : Option Addr) (c : Nat) (acc ref : Int) (w : World) (hs : SlEnt w A es) (hl : es.length ≤ 6000) (hok : ∀ e ∈ es, e.ok = true) (hr : 0 ≤ ref) :
    Calls Try.prog 15 #[.slice A es.length c, .int .i64 acc, .int .i64 ref] w fun e w' => e = .returned (.int .i64 (movedR es acc ref)) ∧ Below w.heap.size w w' := by
  go_enter Try.func15, Try.ntmps15
  go_wp2_with fail
  refine (rbal_any es A c acc ref w hs hl hok hr).mono ?_
  rintro e w1 ⟨rfl, hb1⟩
  go_wp2_with fail
  go_ret
  exact ⟨rfl, hb1⟩
/-- Was a deed of a kind done for a stay? -/
def didR (l : List Deed) (errs : List Int) (k s : Int) : Bool := (l.zip errs).any fun p => (p.2 == 0) && (p.1.kind == k) && (p.1.stay == s)
theorem didR_step {l : List Deed} {errs : List Int} {k s : Int} {m : Nat} (h1 : m < l.length) (h2 : m < errs.length) : didR (l.take (m + 1)) (errs.take (m + 1)) k s = (didR (l.take m) (errs.take m) k s || ((errs[m] == 0) && (l[m].kind == k) && (l[m].stay == s))) := by
  unfold didR
  rw [List.take_succ_eq_append_getElem h1, List.take_succ_eq_append_getElem h2, List.zip_append (by rw [List.length_take, List.length_take]; omega), List.any_append]
  simp
theorem did_any (l : List Deed) (errs : List Int) (A B : Option Addr) (c d : Nat) (k s : Int) (w : World) (hs : SlDeed w A l) (he : SlInt w B errs) (hle : errs.length = l.length) (hl : l.length ≤ 1000000) :
    Calls Try.prog 17 #[.slice A l.length c, .slice B errs.length d, .int .i64 k, .int .i64 s] w fun e w' => e = .returned (.bool (didR l errs k s)) ∧ Below w.heap.size w w' := by
  have hle1 : errs.length ≤ l.length := by omega
  have hle2 : l.length ≤ errs.length := by omega
  clear hle
  go_enter Try.func17, Try.ntmps17
  go_wp2
  go_loopw [9] (fun i wr => ∃ m : Nat, m ≤ l.length ∧ i = .int .i64 m ∧ Hid (didR (l.take m) (errs.take m) k s = false) ∧ Below w.heap.size w wr) (fun i _ => l.length - (intOf i).toNat)
  case atStart => exact ⟨0, by omega, rfl, Lib.hid rfl, Below.refl _ _⟩
  case round =>
    obtain ⟨m, hm, rfl, hn, hbw⟩ := hrel
    have hbz := hbw.size
    by_cases hlt : m < l.length
    · have hlt2 : m < errs.length := by omega
      have hx1 : (0 : Int) ≤ (m : Int) := by omega
      have hx2 : (m : Int) < (l.length : Int) := by omega
      have hx3 : (m : Int) < (errs.length : Int) := by omega
      obtain ⟨b1, o1, rfl, hbl1, hcell1⟩ := (hs.below hbw).at_ hlt
      obtain ⟨b2, o2, rfl, hbl2, hcell2⟩ := (he.below hbw).at_ hlt2
      have p0 := hcell1 0 _ rfl
      have p2 := hcell1 2 _ rfl
      have q0 := hcell2 0 _ rfl
      rw [Nat.add_zero] at p0
      rw [Nat.add_zero, Nat.mul_one] at q0
      clear hcell1 hcell2
      have hst := didR_step (k := k) (s := s) hlt hlt2
      rw [hn.out, Bool.false_or] at hst
      have hlast : didR l errs k s = true → True := fun _ => trivial
      have HALL : Hid (((errs[m] == 0) && (l[m].kind == k) && (l[m].stay == s)) = true → didR l errs k s = true) := Lib.hid (fun h => by
        unfold didR
        rw [List.any_eq_true]
        refine ⟨(l[m], errs[m]), ?_, h⟩
        rw [List.mem_iff_getElem]
        exact ⟨m, by rw [List.length_zip]; omega, by simp⟩)
      clear hlast
      have HST := Lib.hid hst
      clear hst
      cases h1 : (errs[m] == 0)
      · go_wp2_with fail
        go_roundw
        case rel =>
          refine ⟨m + 1, by omega, by go_num, Lib.hid (by rw [HST.out, h1]; rfl), ?_⟩
          repeat' (first
            | (with_reducible exact Below.refl _ _)
            | (with_reducible assumption)
            | (with_reducible refine below_drewN ?_ _)
            | (with_reducible refine Below.drew ?_)
            | (with_reducible refine below_regrown_up _ _ ?_ ?_)
            | (with_reducible refine Below.alloc ?_ ?_ _)
            | (with_reducible refine Below.setCell ?_ ?_ _)
            | (with_reducible refine below_up ?_ ?_ (by assumption))
            | (with_reducible exact Nat.le_refl _)
            | omega
            | (simp; done)
            | (simp; omega))
        case measure => simp [intOf]; omega
      · cases h2 : (l[m].kind == k)
        · go_wp2_with fail
          go_roundw
          case rel =>
            refine ⟨m + 1, by omega, by go_num, Lib.hid (by rw [HST.out, h1, h2]; rfl), ?_⟩
            repeat' (first
              | (with_reducible exact Below.refl _ _)
              | (with_reducible assumption)
              | (with_reducible refine below_drewN ?_ _)
              | (with_reducible refine Below.drew ?_)
              | (with_reducible refine below_regrown_up _ _ ?_ ?_)
              | (with_reducible refine Below.alloc ?_ ?_ _)
              | (with_reducible refine Below.setCell ?_ ?_ _)
              | (with_reducible refine below_up ?_ ?_ (by assumption))
              | (with_reducible exact Nat.le_refl _)
              | omega
              | (simp; done)
              | (simp; omega))
          case measure => simp [intOf]; omega
        · cases h3 : (l[m].stay == s)
          · go_wp2_with fail
            go_roundw
            case rel =>
              refine ⟨m + 1, by omega, by go_num, Lib.hid (by rw [HST.out, h1, h2, h3]; rfl), ?_⟩
              repeat' (first
                | (with_reducible exact Below.refl _ _)
                | (with_reducible assumption)
                | (with_reducible refine below_drewN ?_ _)
                | (with_reducible refine Below.drew ?_)
                | (with_reducible refine below_regrown_up _ _ ?_ ?_)
                | (with_reducible refine Below.alloc ?_ ?_ _)
                | (with_reducible refine Below.setCell ?_ ?_ _)
                | (with_reducible refine below_up ?_ ?_ (by assumption))
                | (with_reducible exact Nat.le_refl _)
                | omega
                | (simp; done)
                | (simp; omega))
            case measure => simp [intOf]; omega
          · have HF : Hid (didR l errs k s = true) := Lib.hid (HALL.out (by rw [h1, h2, h3]; rfl))
            go_wp2_with fail
            go_ret
            refine ⟨ret_bool (by rw [HF.out]), ?_⟩
            repeat' (first
              | (with_reducible exact Below.refl _ _)
              | (with_reducible assumption)
              | (with_reducible refine below_drewN ?_ _)
              | (with_reducible refine Below.drew ?_)
              | (with_reducible refine below_regrown_up _ _ ?_ ?_)
              | (with_reducible refine Below.alloc ?_ ?_ _)
              | (with_reducible refine Below.setCell ?_ ?_ _)
              | (with_reducible refine below_up ?_ ?_ (by assumption))
              | (with_reducible exact Nat.le_refl _)
              | omega
              | (simp; done)
              | (simp; omega))
    · obtain rfl : m = l.length := by omega
      go_wp2
      go_ret
      refine ⟨ret_bool ?_, hbw⟩
      have := hn.out
      rw [List.take_of_length_le (Nat.le_refl _), List.take_of_length_le (by omega)] at this
      rw [this]
/-! ### What is due -/
def dueR (l : List Entry) (s day : Int) : Int × Int := if (ledOk l && inB s 1 1000000 && inB day 0 366) = true then (sumE (guestA s) (ofE s day) l, 0) else (0, 1)
theorem fof_any (s day : Int) (w : World) : Calls Try.prog 43 #[.int .i64 s, .int .i64 day] w fun e w' => e = .returned (.func (.func 71) #[] #[.pointer (some ⟨w.heap.size, 0, none⟩), .pointer (some ⟨w.heap.size + 1, 0, none⟩)]) ∧ w' = (w.alloc (.cells #[.int .i64 s] 3)).alloc (.cells #[.int .i64 day] 3) := by
  go_enter Try.func43, Try.ntmps43
  go_wp2_with fail
  go_ret
  exact ⟨rfl, rfl⟩
theorem due_any (l : List Entry) (A : Option Addr) (c : Nat) (s day : Int) (w : World) (hs : SlEnt w A l) (hl : l.length ≤ 5000) :
    Calls Try.prog 20 #[.slice A l.length c, .int .i64 s, .int .i64 day] w fun e w' => e = .returned (.tuple #[.int .i64 (dueR l s day).1, .int .i64 (dueR l s day).2]) ∧ Below w.heap.size w w' := by
  have hD : dueR l s day = if (ledOk l && inB s 1 1000000 && inB day 0 366) = true then (sumE (guestA s) (ofE s day) l, 0) else (0, 1) := rfl
  cases h1 : ledOk l
  · rw [h1] at hD
    have HD := Lib.hid hD
    clear hD
    go_enter Try.func20, Try.ntmps20
    go_wp2_with (first
      | (go_at_call 22; refine (lvalid_any l A c _ hs (by omega)).mono ?_; rintro e w1 ⟨rfl, hb1⟩; rw [h1]))
    go_ret2
    exact ⟨by rw [HD.out]; rfl, hb1⟩
  · cases h2 : inB s 1 1000000
    · rw [h1, h2] at hD
      have HD := Lib.hid hD
      clear hD
      go_enter Try.func20, Try.ntmps20
      go_wp2_with (first
        | (go_at_call 22; refine (lvalid_any l A c _ hs (by omega)).mono ?_; rintro e w1 ⟨rfl, hb1⟩; rw [h1])
        | (go_at_call 40; refine (fo_within_any _ _ _ _).mono ?_; rintro e w' ⟨rfl, rfl⟩; rw [h2]))
      go_ret2
      exact ⟨by rw [HD.out]; rfl, hb1⟩
    · cases h3 : inB day 0 366
      · rw [h1, h2, h3] at hD
        have HD := Lib.hid hD
        clear hD
        go_enter Try.func20, Try.ntmps20
        go_wp2_with fail
        refine (lvalid_any l A c _ hs (by omega)).mono ?_
        rintro e w1 ⟨rfl, hb1⟩
        rw [h1]
        go_wp2_with fail
        refine (fo_within_any _ _ _ _).mono ?_
        rintro e w' ⟨rfl, rfl⟩
        rw [h2]
        go_wp2_with fail
        refine (fo_within_any _ _ _ _).mono ?_
        rintro e w' ⟨rfl, rfl⟩
        rw [h3]
        go_wp2_with fail
        go_ret2
        exact ⟨by rw [HD.out]; rfl, hb1⟩
      · rw [h1, h2, h3] at hD
        have HD := Lib.hid hD
        have HCE : Hid (CentsOk l) := Lib.hid (fun e he => (Entry.ok_iff.1 ((ledOk_iff.1 h1).2.1 e he)).2.2.2.2.1)
        obtain ⟨s0, s1⟩ := inB_iff.1 h2
        clear hD
        go_enter Try.func20, Try.ntmps20
        go_wp2_with fail
        refine (lvalid_any l A c _ hs (by omega)).mono ?_
        rintro e w1 ⟨rfl, hb1⟩
        rw [h1]
        go_wp2_with fail
        refine (fo_within_any _ _ _ _).mono ?_
        rintro e w' ⟨rfl, rfl⟩
        rw [h2]
        go_wp2_with fail
        refine (fo_within_any _ _ _ _).mono ?_
        rintro e w' ⟨rfl, rfl⟩
        rw [h3]
        go_wp2_with fail
        refine (guest_any _ _ (by omega) s1).mono ?_
        rintro e w' ⟨rfl, rfl⟩
        go_wp2_with fail
        refine (fof_any s day _).mono ?_
        rintro e w2 ⟨rfl, hw2⟩
        have b2 : Below w1.heap.size w1 w2 := by rw [hw2]; exact (by repeat' (first | (with_reducible exact Below.refl _ _) | (with_reducible assumption) | (with_reducible refine below_drewN ?_ _) | (with_reducible refine Below.drew ?_) | (with_reducible refine below_regrown_up _ _ ?_ ?_) | (with_reducible refine Below.alloc ?_ ?_ _) | (with_reducible refine Below.setCell ?_ ?_ _) | (with_reducible refine below_up ?_ ?_ (by assumption)) | (with_reducible exact Nat.le_refl _) | omega | (simp; done) | (simp; omega)))
        have z2 : w2.heap.size = w1.heap.size + 1 + 1 := by rw [hw2]; simp
        have x1 : w2.cell? ⟨w1.heap.size, 0, none⟩ = some (.int .i64 s) := by rw [hw2]; go_simp
        have x2 : w2.cell? ⟨w1.heap.size + 1, 0, none⟩ = some (.int .i64 day) := by rw [hw2]; go_simp
        have l1 : w1.heap.size < w2.heap.size := by omega
        have l2 : w1.heap.size + 1 < w2.heap.size := by omega
        clear hw2 z2
        have hB2 := below_up hb1 hb1.size b2
        go_wp2_with fail
        refine (sum_of0 l A c (guestA s) s day w1.heap.size (w1.heap.size + 1) w2 (hs.up hB2) (by omega) HCE.out (fun e W hb => of1_any e s day w1.heap.size (w1.heap.size + 1) W ((hb.cell (p := ⟨w1.heap.size, 0, none⟩) l1).trans x1) ((hb.cell (p := ⟨w1.heap.size + 1, 0, none⟩) l2).trans x2) (by have := hb.size; omega) (by have := hb.size; omega))).mono ?_
        rintro e w3 ⟨rfl, b3⟩
        go_wp2_with fail
        go_ret2
        exact ⟨by rw [HD.out]; rfl, below_up hB2 hB2.size b3⟩
theorem closed_any (l : List Entry) (A : Option Addr) (c : Nat) (s : Int) (w : World) (hs : SlEnt w A l) (hl : l.length ≤ 5000) :
    Calls Try.prog 21 #[.slice A l.length c, .int .i64 s] w fun e w' => e = .returned (.tuple #[.bool (((dueR l s 366).2 == 0) && ((dueR l s 366).1 == 0)), .int .i64 (dueR l s 366).2]) ∧ Below w.heap.size w w' := by
  obtain ⟨n, er, hd⟩ : ∃ n er, dueR l s 366 = (n, er) := ⟨_, _, rfl⟩
  have key := due_any l A c s 366 w hs hl
  rw [hd] at key ⊢
  have HK := Lib.hid key
  clear key hd
  cases h1 : (er == 0)
  all_goals
    go_enter Try.func21, Try.ntmps21
    go_wp2_with fail
    refine HK.out.mono ?_
    rintro e w1 ⟨rfl, hb1⟩
    go_wp2_with fail
    go_ret2
    exact ⟨by simp [h1], hb1⟩
end Go.Proofs.Ytmlhoojcdidgkaa

/-
  Package folio: the examples.
-/
namespace Go.Proofs.Ytmlhoojcdidgkaa
set_option linter.unusedSimpArgs false
set_option linter.unusedVariables false
open Go.RowKit
open Go.Sort (grow size_grow)


set_option maxHeartbeats 4000000
set_option maxRecDepth 100000
def fxB : Bill := ⟨7, 0, 4, 1, 5, 8, 2, 30000, 0⟩
def fxO : Bill := ⟨8, 3, 4, 1, 5, 8, 2, 30000, 0⟩
def fxT : Tax := ⟨1, 4, 200, 0, 1, 0, 1⟩
def fxV : Env := ⟨[fxT], 1, 10, ⟨100, 0, 1, 1⟩⟩
def fxV0 : Env := ⟨[], 0, 0, ⟨100, 0, 1, 1⟩⟩
def fxD : List Deed := [⟨1, 0, 7, 0⟩, ⟨2, 1, 7, 10000⟩, ⟨4, 5, 7, 0⟩, ⟨5, 8, 7, 0⟩, ⟨2, 9, 7, 21201⟩, ⟨2, 9, 7, 21200⟩, ⟨1, 9, 8, 0⟩, ⟨4, 9, 8, 0⟩, ⟨5, 9, 8, 0⟩, ⟨9, 10, 3, 0⟩]
def fxE : List Entry := [⟨1, 900, 507, 10000, 7⟩, ⟨8, 507, 304, 30000, 7⟩, ⟨8, 507, 404, 1200, 7⟩, ⟨8, 700, 304, 3000, 7⟩, ⟨9, 900, 507, 21200, 7⟩, ⟨9, 203, 304, 30000, 8⟩, ⟨9, 203, 404, 1200, 8⟩, ⟨9, 703, 304, 3000, 8⟩, ⟨10, 803, 203, 31200, 0⟩]
def fxR : List Int := [0, 0, 0, 0, 41, 0, 0, 0, 0, 0]
theorem fx_run : runR fxV [fxB, fxO] fxD = (fxE, fxR, 0) := by decide +kernel
theorem fx_run0 : runR fxV0 [] [] = ([], [], 1) := by decide +kernel
theorem fx_due : dueR fxE 7 8 = (21200, 0) := by decide +kernel
theorem fx_clo : dueR fxE 7 366 = (0, 0) := by decide +kernel
theorem fx_b1 : balR fxE 304 366 = (-66000, 0) := by decide +kernel
theorem fx_b2 : balR fxE 803 366 = (31200, 0) := by decide +kernel
theorem frun_lit {V : Env} {bills : List Bill} {l : List Deed} {es : List Entry} {errs : List Int} {er : Int} (h : runR V bills l = (es, errs, er)) (A At Al : Option Addr) (c ct cl : Nat) (w : World) (hs : SlBill w A bills) (hts : SlTax w At V.ts) (hsl : SlDeed w Al l) (hb : bills.length ≤ 3000) (htl : V.ts.length ≤ 1000) (hll : l.length ≤ 500)
    (hst : ∀ x ∈ l, -9223372036854775808 ≤ x.stay ∧ x.stay ≤ 9223372036854775807) :
    Calls Try.prog 12 #[.slice A bills.length c, .slice At V.ts.length ct, .agg #[.int .i64 V.p, .int .i64 V.d], V.k.v, .slice Al l.length cl] w fun e w' => (∃ A1 c1 A2 c2, e = .returned (.tuple #[.slice A1 es.length c1, .slice A2 errs.length c2, .int .i64 er]) ∧ SlEnt w' A1 es ∧ SlInt w' A2 errs) ∧ Below w.heap.size w w' := by
  have := frun_any V bills l A At Al c ct cl w hs hts hsl hb htl hll hst
  rw [h] at this
  exact this
theorem example_any (w : World) : Calls Try.prog 28 #[] w fun e w' => (∃ g, e = .returned (.tuple #[.agg #[.int .i64 7, .int .i64 0, .int .i64 4, .int .i64 1, .int .i64 5, .int .i64 8, .int .i64 2, .int .i64 30000, .int .i64 0], .slice (some ⟨g, 0, none⟩) 1 1]) ∧ SlTax w' (some ⟨g, 0, none⟩) [fxT]) ∧ Below w.heap.size w w' := by
  go_enter Try.func28, Try.ntmps28
  go_wp2_with fail
  refine bodyPost_ret (v := .tuple #[.agg #[.int .i64 7, .int .i64 0, .int .i64 4, .int .i64 1, .int .i64 5, .int .i64 8, .int .i64 2, .int .i64 30000, .int .i64 0], .slice (some ⟨w.heap.size + 1 + 1, 0, none⟩) 1 1]) (by simp [results, Try.results28, go_sem]) rfl ⟨⟨w.heap.size + 1 + 1, rfl, ?_⟩, ?_⟩
  · refine sl_of_box (cs := #[.int .i64 1, .int .i64 4, .int .i64 200, .int .i64 0, .int .i64 1, .int .i64 0, .int .i64 1]) (fun _ => rfl) (fun o => ?_) (by simp) rfl
    exact cell_alloc_at (by simp) _ _ o
  · repeat' (first
      | (with_reducible exact Below.refl _ _)
      | (with_reducible assumption)
      | (with_reducible refine below_drewN ?_ _)
      | (with_reducible refine Below.drew ?_)
      | (with_reducible refine below_regrown_up _ _ ?_ ?_)
      | (with_reducible refine Below.alloc ?_ ?_ _)
      | (with_reducible refine Below.setCell ?_ ?_ _)
      | (with_reducible refine below_up ?_ ?_ (by assumption))
      | (with_reducible exact Nat.le_refl _)
      | omega
      | (simp; done)
      | (simp; omega))
theorem make10 (W : World) : (Instr.makeSlice 32 (.int .i64 10) (.int .i64 10)).run Try.prog W = .ok (.slice (some ⟨W.heap.size, 0, none⟩) 10 10) (W.alloc (.cells #[.int .i64 0, .int .i64 0, .int .i64 0, .int .i64 0, .int .i64 0, .int .i64 0, .int .i64 0, .int .i64 0, .int .i64 0, .int .i64 0] 33)) := by kernel_rfl
theorem head32_any (w : World) : Calls Try.prog 10 #[] w fun e w' => e = .returned (.bool true) ∧ Below w.heap.size w w' := by
  have hmk := make10
  go_enter Try.func10, Try.ntmps10
  go_wp2_with fail
  refine (example_any _).mono ?_
  rintro e w1 ⟨⟨g, rfl, ht⟩, b1⟩
  go_wp2_with fail
  refine name_calls (fun w2 hw2 => ?_)
  have b2 : Below w1.heap.size w1 w2 := by rw [hw2]; exact (by repeat' (first | (with_reducible exact Below.refl _ _) | (with_reducible assumption) | (with_reducible refine below_drewN ?_ _) | (with_reducible refine Below.drew ?_) | (with_reducible refine below_regrown_up _ _ ?_ ?_) | (with_reducible refine Below.alloc ?_ ?_ _) | (with_reducible refine Below.setCell ?_ ?_ _) | (with_reducible refine below_up ?_ ?_ (by assumption)) | (with_reducible exact Nat.le_refl _) | omega | (simp; done) | (simp; omega)))
  have z2 : w2.heap.size = w1.heap.size + 1 + 1 + 1 + 1 + 1 + 1 := by rw [hw2]; simp
  have sB : SlBill w2 (some ⟨w1.heap.size + 1 + 1 + 1 + 1 + 1, 0, none⟩) [fxB, fxO] := by
    refine sl_of_box (cs := #[.int .i64 7, .int .i64 0, .int .i64 4, .int .i64 1, .int .i64 5, .int .i64 8, .int .i64 2, .int .i64 30000, .int .i64 0, .int .i64 8, .int .i64 3, .int .i64 4, .int .i64 1, .int .i64 5, .int .i64 8, .int .i64 2, .int .i64 30000, .int .i64 0]) (fun _ => rfl) (fun o => ?_) (by rw [z2]; omega) rfl
    rw [hw2]
    exact cell_alloc_at (by simp) _ _ o
  have sD : SlDeed w2 (some ⟨w1.heap.size + 1 + 1 + 1 + 1, 0, none⟩) fxD := by
    refine sl_of_box (cs := (fxD.flatMap Deed.cs).toArray) (fun _ => rfl) (fun o => ?_) (by rw [z2]; omega) (by simp)
    rw [hw2, World.cell?_alloc_lt _ _ _ (by simp)]
    exact cell_alloc_at (by simp) _ _ o
  have X0 : w2.cell? ⟨w1.heap.size + 1 + 1, 0, none⟩ = some (.int .i64 100) := by rw [hw2]; go_simp
  have X1 : w2.cell? ⟨w1.heap.size + 1 + 1, 1, none⟩ = some (.int .i64 0) := by rw [hw2]; go_simp
  have X2 : w2.cell? ⟨w1.heap.size + 1 + 1, 2, none⟩ = some (.int .i64 1) := by rw [hw2]; go_simp
  have X3 : w2.cell? ⟨w1.heap.size + 1 + 1, 3, none⟩ = some (.int .i64 1) := by rw [hw2]; go_simp
  have lx : w1.heap.size + 1 + 1 < w2.heap.size := by omega
  clear hw2 z2
  have B2 := below_up b1 b1.size b2
  refine (frun_lit fx_run _ _ _ 2 1 10 w2 sB (ht.up b2) sD (by decide) (by decide) (by decide) (by decide)).mono ?_
  rintro e w3 ⟨⟨A1, c1, A2, c2, rfl, s1, s2⟩, b3⟩
  have B3 := below_up B2 B2.size b3
  have lE : fxE.length = 9 := rfl
  have lR : fxR.length = 10 := rfl
  have HLE := Lib.hid lE
  have HLR := Lib.hid lR
  clear lE lR
  go_wp2_with fail
  refine (due_any fxE A1 c1 7 8 w3 s1 (by decide)).mono ?_
  rintro e w4 ⟨rfl, b4⟩
  rw [fx_due]
  have B4 := below_up B3 B3.size b4
  go_wp2_with fail
  refine (closed_any fxE A1 c1 7 w4 (s1.up b4) (by decide)).mono ?_
  rintro e w5 ⟨rfl, b5⟩
  rw [fx_clo]
  have b35 := below_up b4 b4.size b5
  have B5 := below_up B4 B4.size b5
  go_wp2_with fail
  refine (lbalance_any fxE A1 c1 304 366 w5 (s1.up b35) (by decide)).mono ?_
  rintro e w6 ⟨rfl, b6⟩
  rw [fx_b1]
  have b36 := below_up b35 b35.size b6
  have B6 := below_up B5 B5.size b6
  go_wp2_with fail
  refine (lbalance_any fxE A1 c1 803 366 w6 (s1.up b36) (by decide)).mono ?_
  rintro e w7 ⟨rfl, b7⟩
  rw [fx_b2]
  have b37 := below_up b36 b36.size b7
  have B7 := below_up B6 B6.size b7
  have b27 := below_up b3 b3.size b37
  have Y0 := (b27.cell (p := ⟨w1.heap.size + 1 + 1, 0, none⟩) lx).trans X0
  have Y1 := (b27.cell (p := ⟨w1.heap.size + 1 + 1, 1, none⟩) lx).trans X1
  have Y2 := (b27.cell (p := ⟨w1.heap.size + 1 + 1, 2, none⟩) lx).trans X2
  have Y3 := (b27.cell (p := ⟨w1.heap.size + 1 + 1, 3, none⟩) lx).trans X3
  have ly : w1.heap.size + 1 + 1 < w7.heap.size := Nat.lt_of_lt_of_le lx b27.size
  clear X0 X1 X2 X3
  go_wp2_with fail
  refine (frun_lit (V := fxV0) fx_run0 none none none 0 0 0 w7 Sl.nil_ Sl.nil_ Sl.nil_ (by decide) (by decide) (by decide) (by decide)).mono ?_
  rintro e w8 ⟨⟨A3, c3, A4, c4, rfl, _, _⟩, b8⟩
  have B8 := below_up B7 B7.size b8
  have S8 := (s2.up b37).up b8
  clear Y0 Y1 Y2 Y3
  go_wp2_with fail
  refine name_calls (fun w9 hw9 => ?_)
  have b9 : Below w8.heap.size w8 w9 := by rw [hw9]; exact (by repeat' (first | (with_reducible exact Below.refl _ _) | (with_reducible assumption) | (with_reducible refine below_drewN ?_ _) | (with_reducible refine Below.drew ?_) | (with_reducible refine below_regrown_up _ _ ?_ ?_) | (with_reducible refine Below.alloc ?_ ?_ _) | (with_reducible refine Below.setCell ?_ ?_ _) | (with_reducible refine below_up ?_ ?_ (by assumption)) | (with_reducible exact Nat.le_refl _) | omega | (simp; done) | (simp; omega)))
  have s9 : SlInt w9 (some ⟨w8.heap.size, 0, none⟩) fxR := by
    refine sl_of_box (cs := #[.int .i64 0, .int .i64 0, .int .i64 0, .int .i64 0, .int .i64 41, .int .i64 0, .int .i64 0, .int .i64 0, .int .i64 0, .int .i64 0]) (fun _ => rfl) (fun o => ?_) (by rw [hw9]; simp) rfl
    rw [hw9]
    exact World.cell?_alloc_new _ _ _ _
  clear hw9
  have key := serr_any fxR fxR A2 (some ⟨w8.heap.size, 0, none⟩) c2 10 w9 (S8.up b9) s9 (by decide) (by decide)
  rw [decide_eq_true rfl] at key
  rw [show (10 : Nat) = fxR.length from rfl]
  refine key.mono ?_
  rintro e w10 ⟨rfl, b10⟩
  have B10 := below_up (below_up B8 B8.size b9) (by have := B8.size; have := b9.size; omega) b10
  go_wp2_with fail
  go_ret
  exact ⟨ret_bool (by simp), B10⟩
end Go.Proofs.Ytmlhoojcdidgkaa

/-
  The laws of package commission: their arguments.
-/
namespace Go.Proofs.Ytmlhoojcdidgkaa
set_option linter.unusedSimpArgs false
set_option linter.unusedVariables false
open Go.ChangeShapes Go.WideShapes Go.ChangeAt Go.RowKit Go.Deep
set_option maxRecDepth 100000
theorem dec_billC (cs : List Value) (h : cs.length = 9) (hc : ∀ (i : Nat) (c : Value), cs[i]? = some c → isI64 c) : ∃ b : Bill, cs = b.cs := by
  match cs, h with
  | [a, b, c, d, e, f, g, x, y], _ =>
    obtain ⟨a, rfl, _⟩ := hc 0 _ rfl
    obtain ⟨b, rfl, _⟩ := hc 1 _ rfl
    obtain ⟨c, rfl, _⟩ := hc 2 _ rfl
    obtain ⟨d, rfl, _⟩ := hc 3 _ rfl
    obtain ⟨e, rfl, _⟩ := hc 4 _ rfl
    obtain ⟨f, rfl, _⟩ := hc 5 _ rfl
    obtain ⟨g, rfl, _⟩ := hc 6 _ rfl
    obtain ⟨x, rfl, _⟩ := hc 7 _ rfl
    obtain ⟨y, rfl, _⟩ := hc 8 _ rfl
    exact ⟨⟨a, b, c, d, e, f, g, x, y⟩, rfl⟩
theorem dec_rat (cs : List Value) (h : cs.length = 2) (hc : ∀ (i : Nat) (c : Value), cs[i]? = some c → isI64 c) : ∃ t : Int × Int, Value.agg cs.toArray = .agg #[.int .i64 t.1, .int .i64 t.2] := by
  match cs, h with
  | [a, b], _ =>
    obtain ⟨a, rfl, _⟩ := hc 0 _ rfl
    obtain ⟨b, rfl, _⟩ := hc 1 _ rfl
    exact ⟨(a, b), rfl⟩
theorem dec_int1 (cs : List Value) (h : cs.length = 1) (hc : ∀ (i : Nat) (c : Value), cs[i]? = some c → isI64 c) : ∃ n : Int, cs = intC n := by
  match cs, h with
  | [a], _ =>
    obtain ⟨a, rfl, _⟩ := hc 0 _ rfl
    exact ⟨a, rfl⟩
section
variable {H : Type} {enc : TypeId × Value → H} {w : World} {r : Reach} {b0 : Nat} {v : Value} {d : DataW H} {p : List MemPlace}
theorem arg_rat (hv : Value.okWide Try.prog w r b0 25 v) (h : DataW.Trod enc Try.prog w 0 (fun _ => true) true 25 v d p) : ∃ t : Int × Int, v = .agg #[.int .i64 t.1, .int .i64 t.2] := by
  obtain ⟨cs, rfl, hsz, hc⟩ := open_ints (n := 4) Try.underlying25 (by kernel_rfl) hv h
  obtain ⟨l⟩ := cs
  exact dec_rat l (hsz.trans (by kernel_rfl)) (fun i c hi => hc i c (by simpa using hi))
theorem arg_bills (hv : Value.okWide Try.prog w r b0 22 v) (h : DataW.Trod enc Try.prog w 0 (fun _ => true) true 22 v d p) : ∃ (A : Option Addr) (l : List Bill) (c : Nat), v = .slice A l.length c ∧ SlBill w A l ∧ l.length ≤ maxLen :=
  open_slice_ints (n := 4) (size := 9) (code := Bill.cs) Try.underlying22 (by kernel_rfl) (by kernel_rfl) (by decide) dec_billC hv h
theorem arg_intl (hv : Value.okWide Try.prog w r b0 51 v) (h : DataW.Trod enc Try.prog w 0 (fun _ => true) true 51 v d p) : ∃ (A : Option Addr) (l : List Int) (c : Nat), v = .slice A l.length c ∧ SlInt w A l ∧ l.length ≤ maxLen :=
  open_slice_ints (n := 4) (size := 1) (code := intC) Try.underlying51 (by kernel_rfl) (by kernel_rfl) (by decide) dec_int1 hv h
end
/-- The datum of a slice has as many elements as the slice. -/
theorem slice_datum {H : Type} {enc : TypeId × Value → H} {P : Program} {w : World} {spare : Nat → Bool} {held : Bool} {r : Reach} {b0 : Nat} {t e : TypeId} {v : Value} {d : DataW H} {p : List MemPlace} (hs : P.underlying t = some (.slice e)) (hv : Value.okWide P w r b0 t v) (h : DataW.Trod enc P w 0 spare held t v d p) :
    ∀ (A : Option Addr) (n c : Nat), v = .slice A n c → n = 0 ∨ ∃ el sp, d = .slice el sp ∧ el.length = n := by
  obtain ⟨a, len, cap, rfl⟩ := okWide_slice hs hv
  obtain ⟨fuel, hf⟩ := h
  intro A n c hA
  injection hA with e1 e2 e3
  subst e1 e2 e3
  rcases open_slice hs hf with ⟨h1, _⟩ | ⟨a', len', cap', m, n', D, Pl, h1, _, hlc, hcm, hm, hx, hel⟩
  · simp [Value.cells] at h1
    exact .inl h1.2.1
  · simp [Value.cells] at h1
    obtain ⟨rfl, rfl, rfl⟩ := h1
    injection hx with hx _
    exact .inr ⟨_, _, hx, by simp⟩
theorem slice_reach {H : Type} {P : Program} {t e : TypeId} {d : DataW H} {n B : Nat} (hs : P.underlying t = some (.slice e)) (hB : P.bytesOf e = B) (h1 : 1 ≤ B) (hd : n = 0 ∨ ∃ el sp, d = .slice el sp ∧ el.length = n) (hw : (DataW.weights P t d).all (· ≤ reachBytes) = true) : n ≤ 140737488355328 := by
  rcases hd with rfl | ⟨el, sp, rfl, rfl⟩
  · omega
  · unfold DataW.weights at hw
    rw [hs] at hw
    simp only [List.all_cons, Bool.and_eq_true, decide_eq_true_eq, hB] at hw
    have h2 := hw.1
    unfold reachBytes at h2
    have h3 : (el.length + sp.length) * 1 ≤ (el.length + sp.length) * B := Nat.mul_le_mul_left _ h1
    omega
theorem slice_room2 {H : Type} {enc : TypeId × Value → H} {P : Program} {w : World} {spare : Nat → Bool} {held : Bool} {r : Reach} {b0 : Nat} {t e : TypeId} {v : Value} {d : DataW H} {p : List MemPlace} (hs : P.underlying t = some (.slice e)) (hv : Value.okWide P w r b0 t v) (h : DataW.Trod enc P w 0 spare held t v d p) :
    ∀ (A : Option Addr) (n c : Nat), v = .slice A n c → n ≤ c ∧ (A = none → c = 0) := by
  obtain ⟨a, len, cap, rfl⟩ := okWide_slice hs hv
  obtain ⟨fuel, hf⟩ := h
  intro A n c hA
  injection hA with e1 e2 e3
  subst e1 e2 e3
  rcases open_slice hs hf with ⟨h1, _⟩ | ⟨a', len', cap', m, n', D, Pl, h1, _, hlc, hcm, hm, _, hel⟩
  · simp [Value.cells] at h1
    obtain ⟨rfl, rfl, rfl⟩ := h1
    exact ⟨Nat.le_refl _, fun _ => rfl⟩
  · simp [Value.cells] at h1
    obtain ⟨rfl, rfl, rfl⟩ := h1
    exact ⟨hlc, fun h => by cases h⟩
end Go.Proofs.Ytmlhoojcdidgkaa

/-
  Two copies of a struct, made by one statement whose order is open.
-/
namespace Go.Proofs.Ytmlhoojcdidgkaa
set_option linter.unusedSimpArgs false
set_option linter.unusedVariables false
open Go.RowKit

/-- Two new blocks p and q, in either order, that hold cs and ds; nothing else has turned. -/
structure Two (w1 W : World) (p q : Nat) (cs ds : Array Value) : Prop where
  below : Below w1.heap.size w1 W
  size : W.heap.size = w1.heap.size + 1 + 1
  p1 : w1.heap.size ≤ p
  p2 : p < w1.heap.size + 1 + 1
  q1 : w1.heap.size ≤ q
  q2 : q < w1.heap.size + 1 + 1
  ne : p ≠ q
  cp : ∀ o, W.cell? ⟨p, o, none⟩ = cs[o]?
  cq : ∀ o, W.cell? ⟨q, o, none⟩ = ds[o]?
  fp : ∀ o, W.frozen? ⟨p, o, none⟩ = false
  fq : ∀ o, W.frozen? ⟨q, o, none⟩ = false
theorem Two.drew {w1 W : World} {p q : Nat} {cs ds : Array Value} (h : Two w1 W p q cs ds) : Two w1 W.drew p q cs ds :=
  ⟨Below.drew h.below, h.size, h.p1, h.p2, h.q1, h.q2, h.ne, h.cp, h.cq, h.fp, h.fq⟩
theorem two_pq (w1 : World) (cs ds : Array Value) (t t' : TypeId) : Two w1 ((w1.alloc (.cells cs t)).alloc (.cells ds t')).drew w1.heap.size (w1.heap.size + 1) cs ds := by
  refine Two.drew ⟨((Below.refl _ _).alloc (Nat.le_refl _) _).alloc (by simp) _, by simp, by omega, by omega, by omega, by omega, by omega, box_old (box_new w1 cs t) (by simp) _, ?_, ?_, ?_⟩
  · have h := box_new (w1.alloc (.cells cs t)) ds t'
    rw [World.size_alloc] at h
    exact h
  · intro o
    exact (World.frozen?_alloc_old _ _ ⟨w1.heap.size, o, none⟩ (by simp)).trans (World.frozen?_alloc_new w1 cs t o)
  · intro o
    have h := World.frozen?_alloc_new (w1.alloc (.cells cs t)) ds t' o
    rw [World.size_alloc] at h
    exact h
theorem two_qp (w1 : World) (cs ds : Array Value) (t t' : TypeId) : Two w1 ((w1.alloc (.cells ds t')).alloc (.cells cs t)).drew (w1.heap.size + 1) w1.heap.size cs ds := by
  have h := two_pq w1 ds cs t' t
  exact ⟨h.below, h.size, h.q1, h.q2, h.p1, h.p2, Ne.symm h.ne, h.cq, h.cp, h.fq, h.fp⟩
/-- A store into the first one, into the second one. -/
theorem Two.setP {w1 W : World} {p q : Nat} {cs ds : Array Value} (h : Two w1 W p q cs ds) {i : Nat} (hi : i < cs.size) (v : Value) : Two w1 (W.setCell ⟨p, i, none⟩ v) p q (cs.setIfInBounds i v) ds :=
  ⟨h.below.setCell h.p1 _, by simpa using h.size, h.p1, h.p2, h.q1, h.q2, h.ne, box_set h.cp hi v, box_far h.cq (p := ⟨p, i, none⟩) h.ne v, fun o => by rw [World.frozen?_setCell]; exact h.fp o, fun o => by rw [World.frozen?_setCell]; exact h.fq o⟩
theorem Two.setQ {w1 W : World} {p q : Nat} {cs ds : Array Value} (h : Two w1 W p q cs ds) {i : Nat} (hi : i < ds.size) (v : Value) : Two w1 (W.setCell ⟨q, i, none⟩ v) p q cs (ds.setIfInBounds i v) :=
  ⟨h.below.setCell h.q1 _, by simpa using h.size, h.p1, h.p2, h.q1, h.q2, h.ne, box_far h.cp (p := ⟨q, i, none⟩) (Ne.symm h.ne) v, box_set h.cq hi v, fun o => by rw [World.frozen?_setCell]; exact h.fp o, fun o => by rw [World.frozen?_setCell]; exact h.fq o⟩
theorem wf_int_iff (k : IntKind) (n : Int) : (Lit.int k n).wf = true ↔ k.min ≤ n ∧ n ≤ k.max := by simp [Lit.wf]
end Go.Proofs.Ytmlhoojcdidgkaa
