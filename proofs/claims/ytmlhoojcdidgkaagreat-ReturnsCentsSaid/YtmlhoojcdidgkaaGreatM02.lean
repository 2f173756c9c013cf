/-
  Texts, one behind the other: MSum, Part1, Tax1.
-/
import Derived.Test.YtmlhoojcdidgkaaGreatM01
import Derived.Maps.RangeWalk
import Derived.Maps.Own
/-
  Maps of integers to integers, read as data: what they hold, and sums over their keys. No Go in sight.
-/
namespace Go.Proofs.YtmlhoojcdidgkaaGreat
set_option linter.unusedSimpArgs false
set_option linter.unusedVariables false
open Go.Maps

abbrev DM := DataW Unit
abbrev kI (a : Int) : Lit := .int .i64 a
abbrev vI (c : Int) : DM := .lit (.int .i64 c)
def numOf : DM → Int
  | .lit (.int .i64 c) => c
  | _ => 0
def getI (D : DM) (a : Int) : Int := numOf (D.atKey (kI a) (vI 0))
def putI (D : DM) (a c : Int) : DM := D.put (kI a) (vI c)
theorem kI_key (a : Int) : WideAt.IsKeyLit (kI a) := trivial
theorem kI_ne {a b : Int} (h : a ≠ b) : kI a ≠ kI b := fun e => h (by injection e)
theorem getI_same {D : DM} (h : Tidy D) (a c : Int) : getI (putI D a c) a = c := by
  unfold getI putI
  rw [atKey_put_same h.isMap (kI_key a)]
  rfl
theorem getI_other {D : DM} {a b : Int} (h : b ≠ a) (c : Int) : getI (putI D a c) b = getI D b := by
  unfold getI putI
  rw [atKey_put_other (kI_ne h)]
theorem getI_empty (a : Int) : getI (.map []) a = 0 := rfl
theorem putI_tidy {D : DM} (h : Tidy D) (a c : Int) : Tidy (putI D a c) := h.put (kI_key a) _
def delI (D : DM) (a : Int) : DM := D.del (kI a)
theorem delI_tidy {D : DM} (h : Tidy D) (a : Int) : Tidy (delI D a) := h.del _
theorem getI_del_same (D : DM) (a : Int) : getI (delI D a) a = 0 := by
  unfold getI delI
  rw [atKey_del_same]
  rfl
theorem getI_del_other {D : DM} {a b : Int} (h : b ≠ a) : getI (delI D a) b = getI D b := by
  unfold getI delI
  rw [atKey_del_other (kI_ne h)]
/-- What the walk hands over of a look-up. -/
theorem getI_of {D : DM} {a c : Int} (h : D.atKey (.int .i64 a) (.lit (.int .i64 0)) = .lit (.int .i64 c)) : getI D a = c := by
  unfold getI
  rw [h]
  rfl

/-! ### Sums over keys -/
def wt (q : Lit → Bool) (p : Lit × DM) : Int := if q p.1 then numOf p.2 else 0
def esum (q : Lit → Bool) (es : List (Lit × DM)) : Int := (es.map (wt q)).sum
def msum (q : Lit → Bool) : DM → Int
  | .map es => esum q es
  | _ => 0
def onI (p : Int → Bool) : Lit → Bool
  | .int .i64 a => p a
  | _ => false
theorem esum_cons (q : Lit → Bool) (x : Lit × DM) (es : List (Lit × DM)) : esum q (x :: es) = wt q x + esum q es := by simp [esum]
theorem esum_insert (q : Lit → Bool) (x : Lit × DM) : ∀ es : List (Lit × DM), esum q (DataW.insert x es) = wt q x + esum q es
  | [] => by simp [DataW.insert, esum]
  | y :: r => by
    unfold DataW.insert
    split
    · rw [esum_cons]
    · rw [esum_cons, esum_insert q x r, esum_cons]
      omega
theorem esum_strike (q : Lit → Bool) (k : Lit) : ∀ es : List (Lit × DM), es.Pairwise (fun p r => p.1 ≠ r.1) →
    esum q (es.filter fun p => !p.1.sameKey k) + (if q k then numOf ((DataW.map es).atKey k (vI 0)) else 0) = esum q es
  | [], _ => by
    have : numOf ((DataW.map []).atKey k (vI 0) : DM) = 0 := rfl
    rw [this]
    simp [esum]
  | y :: r, h => by
    obtain ⟨h1, h2⟩ := List.pairwise_cons.1 h
    have ih := esum_strike q k r h2
    cases hy : y.1.sameKey k with
    | false =>
      have e1 : ((DataW.map (y :: r)).atKey k (vI 0) : DM) = (DataW.map r).atKey k (vI 0) := by
        simp only [DataW.atKey, List.find?_cons, hy]
      rw [e1, List.filter_cons, hy, Bool.not_false, if_pos rfl, esum_cons, esum_cons]
      omega
    | true =>
      have e1 : ((DataW.map (y :: r)).atKey k (vI 0) : DM) = y.2 := by
        simp only [DataW.atKey, List.find?_cons, hy]
      have e2 : r.filter (fun p => !p.1.sameKey k) = r := by
        rw [List.filter_eq_self]
        intro p hp
        cases hpk : p.1.sameKey k with
        | false => rfl
        | true => exact absurd ((WideAt.sameKey_eq hy).trans (WideAt.sameKey_eq hpk).symm) (h1 p hp)
      have e3 : y.1 = k := WideAt.sameKey_eq hy
      rw [e1, List.filter_cons, hy, Bool.not_true, if_neg (by simp), e2, esum_cons]
      unfold wt
      rw [e3]
      omega
theorem msum_put {D : DM} (h : Tidy D) (q : Lit → Bool) (a c : Int) : msum q (putI D a c) = msum q D + (if q (kI a) then c - getI D a else 0) := by
  obtain ⟨es, rfl, hp⟩ := h
  have h1 := esum_strike q (kI a) es hp
  have h2 : msum q (putI (.map es) a c) = wt q (kI a, vI c) + esum q (es.filter fun p => !p.1.sameKey (kI a)) := esum_insert q _ _
  have h3 : msum q (.map es) = esum q es := rfl
  have h4 : wt q (kI a, vI c) = if q (kI a) then c else 0 := rfl
  have h5 : getI (.map es) a = numOf ((DataW.map es).atKey (kI a) (vI 0)) := rfl
  rw [h2, h3, h4, h5]
  generalize esum q (es.filter fun p => !p.1.sameKey (kI a)) = F at *
  generalize numOf ((DataW.map es).atKey (kI a) (vI 0)) = N at *
  split
  · rename_i hq
    rw [if_pos hq] at h1
    omega
  · rename_i hq
    rw [if_neg hq] at h1
    omega
theorem msum_empty (q : Lit → Bool) : msum q (.map []) = 0 := rfl
/-- A range's step: the key that has come is no longer left. -/
theorem msum_left {D : DM} (h : Tidy D) (q left : Lit → Bool) {a : Int} (hl : left (kI a) = true) :
    msum (fun z => q z && left z) D = msum (fun z => q z && (left z && !z.sameKey (kI a))) D + (if q (kI a) then getI D a else 0) := by
  obtain ⟨es, rfl, hp⟩ := h
  have h1 := esum_strike (fun z => q z && left z) (kI a) es hp
  have h2 := esum_strike (fun z => q z && (left z && !z.sameKey (kI a))) (kI a) es hp
  have e0 : (kI a).sameKey (kI a) = true := WideAt.sameKey_self (kI_key a)
  have e1 : esum (fun z => q z && (left z && !z.sameKey (kI a))) (es.filter fun p => !p.1.sameKey (kI a)) = esum (fun z => q z && left z) (es.filter fun p => !p.1.sameKey (kI a)) := by
    unfold esum
    congr 1
    refine List.map_congr_left (fun p hp => ?_)
    have := (List.mem_filter.1 hp).2
    unfold wt
    simp only [this, Bool.and_true]
  show esum _ es = esum _ es + _
  have e2 : getI (.map es) a = numOf ((DataW.map es).atKey (kI a) (vI 0)) := rfl
  rw [e2]
  simp only [hl, e0, Bool.not_true, Bool.and_false, Bool.and_true, Bool.false_eq_true, if_false, Int.add_zero] at h1 h2
  rw [e1] at h2
  rw [← h1, h2]
theorem msum_none {D : DM} (q left : Lit → Bool) (h : ∀ z, left z = false) : msum (fun z => q z && left z) D = 0 := by
  have e : (fun z => q z && left z) = fun _ => false := funext fun z => by rw [h z, Bool.and_false]
  rw [e]
  cases D with
  | map es =>
    show esum _ es = 0
    unfold esum
    induction es with
    | nil => rfl
    | cons x es ih => rw [List.map_cons, List.sum_cons, ih]; rfl
  | _ => rfl
theorem msum_all {D : DM} (h : Tidy D) (hk : ∀ es, D = .map es → ∀ p ∈ es, WideAt.IsKeyLit p.1) (q : Lit → Bool) : msum (fun z => q z && Maps.has D z) D = msum q D := by
  obtain ⟨es, rfl, hp⟩ := h
  show esum _ es = esum _ es
  unfold esum
  congr 1
  refine List.map_congr_left (fun p hp' => ?_)
  have : Maps.has (DataW.map es) p.1 = true := List.any_eq_true.2 ⟨p, hp', WideAt.sameKey_self (hk es rfl p hp')⟩
  unfold wt
  simp only [this, Bool.and_true]
/-- All keys and all that is held are integers. -/
def Ints (D : DM) : Prop := ∃ es, D = .map es ∧ ∀ p ∈ es, ∃ a c, p = (kI a, vI c)
theorem ints_empty : Ints (.map []) := ⟨[], rfl, by simp⟩
theorem Ints.put {D : DM} (h : Ints D) (a c : Int) : Ints (putI D a c) := by
  obtain ⟨es, rfl, hp⟩ := h
  refine ⟨_, rfl, fun p hp' => ?_⟩
  rcases List.mem_cons.1 ((WideShapes.insert_perm (kI a, vI c) _).mem_iff.1 hp') with rfl | hm
  · exact ⟨a, c, rfl⟩
  · exact hp p (List.mem_filter.1 hm).1
theorem Ints.keys {D : DM} (h : Ints D) : ∀ es, D = .map es → ∀ p ∈ es, WideAt.IsKeyLit p.1 := by
  obtain ⟨es, rfl, hp⟩ := h
  intro es' e p hp'
  injection e with e
  subst e
  obtain ⟨a, c, rfl⟩ := hp p hp'
  exact kI_key a
end Go.Proofs.YtmlhoojcdidgkaaGreat

/-
  Package ratio: a part of an amount, rounded to even.
-/
namespace Go.Proofs.YtmlhoojcdidgkaaGreat
set_option linter.unusedSimpArgs false
set_option linter.unusedVariables false
open Go.RowKit Go.Maps
open Go.Sort (grow size_grow)

set_option maxHeartbeats 4000000
set_option maxRecDepth 100000
theorem and_one (E : Int) (h0 : 0 ≤ E) (h1 : E ≤ 1000000000000000) : bits BinOp.and IntKind.i64 E 1 = E % 2 := by
  obtain ⟨n, rfl⟩ : ∃ n : Nat, E = n := ⟨E.toNat, by omega⟩
  have e1 : (n : Int) % 18446744073709551616 = n := by omega
  have e2 : (BitVec.ofNat 64 n &&& 1#64).toNat = n % 2 := by
    rw [BitVec.toNat_and, BitVec.toNat_ofNat, BitVec.toNat_ofNat, Nat.mod_eq_of_lt (show n < 2 ^ 64 by omega)]
    exact Nat.and_one_is_mod n
  unfold bits IntKind.wrap
  simp [IntKind.bits, IntKind.signed, e1]
  erw [e2]
  omega
def nextTrue (q r d : Int) : Bool := decide (d < 2 * r ∨ (2 * r = d ∧ q % 2 ≠ 0))
theorem even_any (q r d : Int) (w : World) (q0 : 0 ≤ q) (q1 : q ≤ 1000000000000000) (r0 : 0 ≤ r) (rd : r < d) (d1 : d ≤ 1000000) :
    Calls Tryz.prog 121 #[.int .i64 q, .int .i64 r, .int .i64 d] w fun e w' => e = .returned (.bool (nextTrue q r d)) ∧ w = w' := by
  have hb := and_one q q0 q1
  go_enter Tryz.func121, Tryz.ntmps121
  go_wp2
  all_goals
    go_ret
    refine ⟨ret_bool ?_, rfl⟩
    unfold nextTrue
    first
      | (rw [hb, Bool.eq_iff_iff, beq_iff_eq, decide_eq_true_eq]; omega)
      | (rw [Bool.eq_iff_iff, decide_eq_true_eq, decide_eq_true_eq]; omega)
      | (rw [Bool.eq_iff_iff, decide_eq_true_eq, beq_iff_eq]; omega)
      | (rw [Bool.eq_iff_iff, beq_iff_eq, decide_eq_true_eq]; omega)
      | (rw [eq_comm, decide_eq_true_eq]; omega)
/-- How the ways to round read: by the function's number. -/
def rdR : Value → Option (DM × List MemPlace)
  | .agg ⟨[.func (.func n) ⟨[]⟩ ⟨[]⟩]⟩ => some (vI n, [])
  | _ => some (vI (-1), [])
theorem rdR_inv {v : Value} {n : Nat} {ps : List MemPlace} (h : rdR v = some (vI n, ps)) : v = .agg #[.func (.func n) #[] #[]] := by
  unfold rdR at h
  split at h
  · rename_i m
    injection h with h
    injection h with h _
    injection h with h
    injection h with _ h
    have : m = n := Int.ofNat.inj h
    subst this
    rfl
  · injection h with h
    injection h with h _
    injection h with h
    injection h with _ h
    omega
theorem keyedI' : Keyed Tryz.prog 3 := int_keyed Tryz.underlying3
def ways : DM := (((.map [] : DM).put (kI 1) (vI (119 : Nat))).put (kI 2) (vI (120 : Nat))).put (kI 3) (vI (121 : Nat))
theorem rounders_any (w : World) :
    Calls Tryz.prog 102 #[] w fun e w' => (e = .returned (.map (some w.heap.size)) ∧ w'.ownsMap Tryz.prog 3 rdR w.heap.size 3 ways) ∧ Below w.heap.size w w' := by
  have hmm := @run_makeMap Tryz.prog
  have h0 := World.ownsMap_made w Tryz.prog 3 rdR
  obtain ⟨w1, e1, o1, g1⟩ := h0.update (t := 148) keyedI' Tryz.underlying148 (by unfold maxLen; omega) (key := .int .i64 1) (val := .agg #[.func (.func 119) #[] #[]]) (keyOf_int_mk Tryz.underlying3 rfl) rfl
  obtain ⟨w2, e2, o2, g2⟩ := o1.update (t := 148) keyedI' Tryz.underlying148 (by unfold maxLen; omega) (key := .int .i64 2) (val := .agg #[.func (.func 120) #[] #[]]) (keyOf_int_mk Tryz.underlying3 rfl) rfl
  obtain ⟨w3, e3, o3, g3⟩ := o2.update (t := 148) keyedI' Tryz.underlying148 (by unfold maxLen; omega) (key := .int .i64 3) (val := .agg #[.func (.func 121) #[] #[]]) (keyOf_int_mk Tryz.underlying3 rfl) rfl
  have hb : Below w.heap.size w w3 := by
    have hg := (g1.trans g2).trans g3
    refine ((Below.refl w.heap.size w).alloc (Nat.le_refl _) (.map #[] 0)).grown hg (by simp) (fun k e => by injection e with e; omega)
  go_enter Tryz.func102, Tryz.ntmps102
  go_wp2_with fail
  go_ret
  exact ⟨⟨rfl, o3⟩, hb⟩
theorem zero_way (w : World) : (zeroValue 146).run Tryz.prog w = .ok (.agg #[.nilFunc]) w := by kernel_rfl
theorem rnd_even (n d : Int) : rnd n d 3 = if nextTrue (n / d) (n % d) d = true then n / d + 1 else n / d := by
  unfold rnd nextTrue
  simp
theorem size_any' (n : Int) (w : World) (h1 : 0 ≤ n) (h2 : n ≤ 9000000000000000000) : Calls Tryz.prog 104 #[.int .i64 n] w fun e w' => e = .returned (.int .i64 n) ∧ w = w' := by
  go_enter Tryz.func104, Tryz.ntmps104
  go_wp2
  all_goals
    go_ret
    exact ⟨ret_int (by omega), rfl⟩
theorem fround_any (m d : Int) (w : World) (m0 : 0 ≤ m) (m1 : m ≤ 1000000000000000) (d0 : 1 ≤ d) (d1 : d ≤ 1000000) :
    Calls Tryz.prog 103 #[.agg #[.int .i64 m, .int .i64 d], .agg #[.func (.func 121) #[] #[]]] w fun e w' => e = .returned (.int .i64 (rnd m d 3)) ∧ Below w.heap.size w w' := by
  have hq0 := Int.ediv_nonneg m0 (show 0 ≤ d by omega)
  have hq1 : m / d ≤ m := Int.ediv_le_self d m0
  have hs : m - m / d * d = m % d := by have := Int.emod_add_mul_ediv m d; rw [Int.mul_comm] at this; omega
  have hrm0 := Int.emod_nonneg m (show d ≠ 0 by omega)
  have hrm1 := Int.emod_lt_of_pos m (show 0 < d by omega)
  have hp0 : m / d * d ≤ m := by omega
  have hp1 : 0 ≤ m / d * d := Int.mul_nonneg hq0 (by omega)
  have HE := Lib.hid (rnd_even m d)
  go_enter Tryz.func103, Tryz.ntmps103
  go_wp2_with (go_at_call 121; go_loud (refine (even_any (m / d) (m % d) d _ hq0 (by omega) hrm0 hrm1 d1).mono ?_); rintro e w' ⟨rfl, rfl⟩)
  all_goals
    go_ret
    refine ⟨ret_int ?_, ?_⟩
    · rw [HE.out]
      first
        | (rw [if_pos (by assumption)]; done)
        | (rw [if_neg (by assumption)]; done)
        | (simp_all; done)
    · repeat' (first
        | (with_reducible exact Below.refl _ _)
        | (with_reducible assumption)
        | (with_reducible refine below_drewN ?_ _)
        | (with_reducible refine Below.drew ?_)
        | (with_reducible refine below_regrown_up _ _ ?_ ?_)
        | (with_reducible refine Below.alloc ?_ ?_ _)
        | (with_reducible refine Below.setCell ?_ ?_ _)
        | (with_reducible refine below_up ?_ ?_ (by assumption))
        | (with_reducible exact Nat.le_refl _)
        | omega
        | (simp; done)
        | (simp; omega))
theorem part_any (n p d : Int) (w : World) (n0 : 0 ≤ n) (n1 : n ≤ 1000000000) (hr : ratOk p d = true) (p0 : 0 ≤ p) (pd : p ≤ d) (m : Int) (hm : n * p = m) (hr1 : rnd m d 3 ≤ n) (hr0 : 0 ≤ rnd m d 3) :
    Calls Tryz.prog 77 #[.int .i64 n, .agg #[.int .i64 p, .int .i64 d], .int .i64 3] w fun e w' => e = .returned (.tuple #[.int .i64 (rnd m d 3), .int .i64 0]) ∧ Below w.heap.size w w' := by
  obtain ⟨d0, d1, _, _, _⟩ := ratOk_iff.1 hr
  have hmp : 0 ≤ m ∧ m ≤ 1000000000000000 := by
    rw [← hm]
    have h1 := Int.mul_nonneg n0 p0
    have h2 := Int.mul_le_mul n1 (show p ≤ 1000000 by omega) p0 (by omega)
    omega
  obtain ⟨m0, m1⟩ := hmp
  have hw1 : IntKind.i64.wrap (n * p) = m := by rw [hm]; exact IntWalk.i64_in _ (by omega)
  go_enter Tryz.func77, Tryz.ntmps77
  go_wp2_with fail
  refine (rounders_any _).mono ?_
  rintro e w1 ⟨⟨rfl, hown⟩, hb1⟩
  obtain ⟨v, ps, hrun, hv⟩ := hown.look_ok (t := 148) keyedI' Tryz.underlying148 (zero_way w1) (zd := vI (-1)) rfl (key := .int .i64 3) (keyOf_int_mk Tryz.underlying3 rfl)
  have hv2 : v = .agg #[.func (.func 121) #[] #[]] := rdR_inv hv
  have hv3 : Maps.has ways (kI 3) = true := rfl
  subst hv2
  rw [hv3] at hrun
  simp only [World.size_alloc] at hrun
  have hz1 := hb1.size
  (try simp only [World.size_alloc] at hz1)
  obtain ⟨hc1, hf1⟩ := bcellB (B := w.heap.size + 1) hb1 (by simp)
  have la1a : w.heap.size < w1.heap.size := (by omega); have lb1a : w.heap.size < w1.heap.size + 1 := (by omega); have lc1a : w.heap.size < w1.heap.size + 1 + 1 := (by omega); have ld1a : w.heap.size < w1.heap.size + 1 + 1 + 1 := (by omega); have le1a : w.heap.size < w1.heap.size + 1 + 1 + 1 + 1 := (by omega)
  go_wp2_with (first
    | (go_at_call 94; refine (ratValid_any p d _).mono ?_; rintro e w2 ⟨rfl, hb2⟩; have hz2 := hb2.size; (try simp only [World.size_alloc, World.size_setCell, World.size_drew, size_drewN', size_grow, size_redrawn] at hz2); obtain ⟨hc2, hf2⟩ := bcellB (B := w1.heap.size + 1) hb2 (by first | omega | (simp only [World.size_alloc, World.size_setCell, World.size_drew, size_drewN', size_grow, size_redrawn]; omega)); rw [hr])
    | (go_at_call 103; refine (fround_any m d _ m0 m1 d0 d1).mono ?_; rintro e w3 ⟨rfl, hb3⟩; have hz3 := hb3.size; (try simp only [World.size_alloc, World.size_setCell, World.size_drew, size_drewN', size_grow, size_redrawn] at hz3); obtain ⟨hc3, hf3⟩ := bcellB (B := w1.heap.size + 1) hb3 (by first | omega | (simp only [World.size_alloc, World.size_setCell, World.size_drew, size_drewN', size_grow, size_redrawn]; omega)))
    | (go_at_call 104; refine (size_any' _ _ hr0 (by omega)).mono ?_; rintro e w' ⟨rfl, rfl⟩))
  go_ret2
  refine ⟨rfl, ?_⟩
  repeat' (first
    | (with_reducible exact Below.refl _ _)
    | (with_reducible assumption)
    | (with_reducible refine below_drewN ?_ _)
    | (with_reducible refine Below.drew ?_)
    | (with_reducible refine below_regrown_up _ _ ?_ ?_)
    | (with_reducible refine Below.alloc ?_ ?_ _)
    | (with_reducible refine Below.setCell ?_ ?_ _)
    | (with_reducible refine below_up ?_ ?_ (by assumption))
    | (with_reducible exact Nat.le_refl _)
    | omega
    | (simp; done)
    | (simp; omega))
end Go.Proofs.YtmlhoojcdidgkaaGreat

/-
  Contracts of package tax and of its reference: what is well-formed.
-/
namespace Go.Proofs.YtmlhoojcdidgkaaGreat
set_option linter.unusedSimpArgs false
set_option linter.unusedVariables false
open Go.RowKit
open Go.Sort (grow size_grow)

set_option maxHeartbeats 2000000
set_option maxRecDepth 100000

abbrev Tax.v (t : Tax) : Value := .agg #[.int .i64 t.id, .int .i64 t.place, .int .i64 t.night, .int .i64 t.n, .int .i64 t.d, .int .i64 t.first, .int .i64 t.round]
abbrev Bill.v (b : Bill) : Value := .agg #[.int .i64 b.stay, .int .i64 b.channel, .int .i64 b.place, .int .i64 b.kind, .int .i64 b.frm, .int .i64 b.til, .int .i64 b.persons, .int .i64 b.price, .int .i64 b.keep]

theorem tax_within_any (n lo hi : Int) (w : World) :
    Calls Tryz.prog 63 #[.int .i64 n, .int .i64 lo, .int .i64 hi] w fun e w' => e = .returned (.bool (inB n lo hi)) ∧ w = w' := by
  by_cases h1 : lo ≤ n
  · by_cases h2 : n ≤ hi
    · go_enter Tryz.func63, Tryz.ntmps63
      go_wp2
      go_ret
      exact ⟨ret_bool (by rw [inB_t h1 h2]), rfl⟩
    · go_enter Tryz.func63, Tryz.ntmps63
      go_wp2
      go_ret
      exact ⟨ret_bool (by rw [inB_f (by omega)]), rfl⟩
  · go_enter Tryz.func63, Tryz.ntmps63
    go_wp2
    go_ret
    exact ⟨ret_bool (by rw [inB_f (by omega)]), rfl⟩
theorem r29_in_any (n lo hi : Int) (w : World) :
    Calls Tryz.prog 59 #[.int .i64 n, .int .i64 lo, .int .i64 hi] w fun e w' => e = .returned (.bool (inB n lo hi)) ∧ w = w' := by
  by_cases h1 : lo ≤ n
  · by_cases h2 : n ≤ hi
    · go_enter Tryz.func59, Tryz.ntmps59
      go_wp2
      go_ret
      exact ⟨ret_bool (by rw [inB_t h1 h2]), rfl⟩
    · go_enter Tryz.func59, Tryz.ntmps59
      go_wp2
      go_ret
      exact ⟨ret_bool (by rw [inB_f (by omega)]), rfl⟩
  · go_enter Tryz.func59, Tryz.ntmps59
    go_wp2
    go_ret
    exact ⟨ret_bool (by rw [inB_f (by omega)]), rfl⟩
theorem r26_in_any (n lo hi : Int) (w : World) :
    Calls Tryz.prog 66 #[.int .i64 n, .int .i64 lo, .int .i64 hi] w fun e w' => e = .returned (.bool (inB n lo hi)) ∧ w = w' := by
  by_cases h1 : lo ≤ n
  · by_cases h2 : n ≤ hi
    · go_enter Tryz.func66, Tryz.ntmps66
      go_wp2
      go_ret
      exact ⟨ret_bool (by rw [inB_t h1 h2]), rfl⟩
    · go_enter Tryz.func66, Tryz.ntmps66
      go_wp2
      go_ret
      exact ⟨ret_bool (by rw [inB_f (by omega)]), rfl⟩
  · go_enter Tryz.func66, Tryz.ntmps66
    go_wp2
    go_ret
    exact ⟨ret_bool (by rw [inB_f (by omega)]), rfl⟩

theorem wrong_any (t : Tax) (w : World) :
    Calls Tryz.prog 62 #[t.v] w fun e w' => e = .returned (.bool (!t.ok)) ∧ Below w.heap.size w w' := by
  go_enter Tryz.func62, Tryz.ntmps62
  go_wp2_with (first
    | (go_at_call 94; refine (ratValid_any _ _ _).mono ?_; rintro e w1 ⟨rfl, hb⟩; obtain ⟨hc, hf⟩ := bcell hb)
    | (go_at_call 63; refine (tax_within_any _ _ _ _).mono ?_; rintro e w1 ⟨rfl, rfl⟩))
  all_goals
    go_ret
    refine ⟨ret_bool ?_, ?_⟩
    · unfold Tax.ok
      first | (simp [*]; done) | (simp [*]; intros; omega)
    · repeat' (first
        | (with_reducible exact Below.refl _ _)
        | (with_reducible assumption)
        | (with_reducible refine below_drewN ?_ _)
        | (with_reducible refine Below.drew ?_)
        | (with_reducible refine below_regrown_up _ _ ?_ ?_)
        | (with_reducible refine Below.alloc ?_ ?_ _)
        | (with_reducible refine Below.setCell ?_ ?_ _)
        | (with_reducible refine below_up ?_ ?_ (by assumption))
        | (with_reducible exact Nat.le_refl _)
        | omega
        | (simp; done)
        | (simp; omega))

theorem right_any (b : Bill) (w : World) :
    Calls Tryz.prog 28 #[b.v] w fun e w' => e = .returned (.bool b.ok) ∧ Below w.heap.size w w' := by
  go_enter Tryz.func28, Tryz.ntmps28
  go_wp2_with (go_at_call 63; refine (tax_within_any _ _ _ _).mono ?_; rintro e w1 ⟨rfl, rfl⟩)
  all_goals
    go_ret
    refine ⟨ret_bool ?_, ?_⟩
    · unfold Bill.ok askOk nightsOk
      first | (simp [*]; done) | (simp [*]; intros; omega)
    · repeat' (first
        | (with_reducible exact Below.refl _ _)
        | (with_reducible assumption)
        | (with_reducible refine below_drewN ?_ _)
        | (with_reducible refine Below.drew ?_)
        | (with_reducible refine below_regrown_up _ _ ?_ ?_)
        | (with_reducible refine Below.alloc ?_ ?_ _)
        | (with_reducible refine Below.setCell ?_ ?_ _)
        | (with_reducible refine below_up ?_ ?_ (by assumption))
        | (with_reducible exact Nat.le_refl _)
        | omega
        | (simp; done)
        | (simp; omega))
theorem rtax_any (t : Tax) (w : World) :
    Calls Tryz.prog 26 #[t.v] w fun e w' => e = .returned (.bool t.ok) ∧ Below w.heap.size w w' := by
  go_enter Tryz.func26, Tryz.ntmps26
  go_wp2_with (first
    | (go_at_call 60; refine (rvalid_any _ _ _).mono ?_; rintro e w1 ⟨rfl, hb⟩; obtain ⟨hc, hf⟩ := bcell hb)
    | (go_at_call 59; refine (r29_in_any _ _ _ _).mono ?_; rintro e w1 ⟨rfl, rfl⟩))
  all_goals
    go_ret
    refine ⟨ret_bool ?_, ?_⟩
    · unfold Tax.ok
      first | (simp [*]; done) | (simp [*]; intros; omega)
    · repeat' (first
        | (with_reducible exact Below.refl _ _)
        | (with_reducible assumption)
        | (with_reducible refine below_drewN ?_ _)
        | (with_reducible refine Below.drew ?_)
        | (with_reducible refine below_regrown_up _ _ ?_ ?_)
        | (with_reducible refine Below.alloc ?_ ?_ _)
        | (with_reducible refine Below.setCell ?_ ?_ _)
        | (with_reducible refine below_up ?_ ?_ (by assumption))
        | (with_reducible exact Nat.le_refl _)
        | omega
        | (simp; done)
        | (simp; omega))
theorem rask_any (kind frm til persons : Int) (w : World) :
    Calls Tryz.prog 58 #[.agg #[.int .i64 kind, .int .i64 frm, .int .i64 til, .int .i64 persons]] w fun e w' => e = .returned (.bool (askOk kind frm til persons)) ∧ Below w.heap.size w w' := by
  go_enter Tryz.func58, Tryz.ntmps58
  go_wp2_with (go_at_call 66; refine (r26_in_any _ _ _ _).mono ?_; rintro e w1 ⟨rfl, rfl⟩)
  all_goals
    go_ret
    refine ⟨ret_bool ?_, ?_⟩
    · unfold askOk nightsOk
      first | (simp [*]; done) | (simp [*]; intros; omega)
    · repeat' (first
        | (with_reducible exact Below.refl _ _)
        | (with_reducible assumption)
        | (with_reducible refine below_drewN ?_ _)
        | (with_reducible refine Below.drew ?_)
        | (with_reducible refine below_regrown_up _ _ ?_ ?_)
        | (with_reducible refine Below.alloc ?_ ?_ _)
        | (with_reducible refine Below.setCell ?_ ?_ _)
        | (with_reducible refine below_up ?_ ?_ (by assumption))
        | (with_reducible exact Nat.le_refl _)
        | omega
        | (simp; done)
        | (simp; omega))
theorem rbill_any (b : Bill) (w : World) :
    Calls Tryz.prog 25 #[b.v] w fun e w' => e = .returned (.bool b.ok) ∧ Below w.heap.size w w' := by
  go_enter Tryz.func25, Tryz.ntmps25
  go_wp2_with (first
    | (go_at_call 58; refine (rask_any _ _ _ _ _).mono ?_; rintro e w1 ⟨rfl, hb⟩; obtain ⟨hc, hf⟩ := bcell hb)
    | (go_at_call 59; refine (r29_in_any _ _ _ _).mono ?_; rintro e w1 ⟨rfl, rfl⟩))
  all_goals
    go_ret
    refine ⟨ret_bool ?_, ?_⟩
    · unfold Bill.ok
      first | (simp [*]; done) | (simp [*]; intros; omega)
    · repeat' (first
        | (with_reducible exact Below.refl _ _)
        | (with_reducible assumption)
        | (with_reducible refine below_drewN ?_ _)
        | (with_reducible refine Below.drew ?_)
        | (with_reducible refine below_regrown_up _ _ ?_ ?_)
        | (with_reducible refine Below.alloc ?_ ?_ _)
        | (with_reducible refine Below.setCell ?_ ?_ _)
        | (with_reducible refine below_up ?_ ?_ (by assumption))
        | (with_reducible exact Nat.le_refl _)
        | omega
        | (simp; done)
        | (simp; omega))
end Go.Proofs.YtmlhoojcdidgkaaGreat
