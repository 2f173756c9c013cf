/-
  Maps of integers to integers, read as data: what they hold, and sums over their keys. No Go in sight.
-/
import Derived.Test.YtphapnooonjnmaaBase
import Derived.Maps.RangeWalk
namespace Go.Proofs.Ytphapnooonjnmaa
set_option linter.unusedSimpArgs false
set_option linter.unusedVariables false
open Go.Maps

abbrev DM := DataW Unit
abbrev kI (a : Int) : Lit := .int .i64 a
abbrev vI (c : Int) : DM := .lit (.int .i64 c)
def numOf : DM → Int
  | .lit (.int .i64 c) => c
  | _ => 0
def getI (D : DM) (a : Int) : Int := numOf (D.atKey (kI a) (vI 0))
def putI (D : DM) (a c : Int) : DM := D.put (kI a) (vI c)
theorem kI_key (a : Int) : WideAt.IsKeyLit (kI a) := trivial
theorem kI_ne {a b : Int} (h : a ≠ b) : kI a ≠ kI b := fun e => h (by injection e)
theorem getI_same {D : DM} (h : Tidy D) (a c : Int) : getI (putI D a c) a = c := by
  unfold getI putI
  rw [atKey_put_same h.isMap (kI_key a)]
  rfl
theorem getI_other {D : DM} {a b : Int} (h : b ≠ a) (c : Int) : getI (putI D a c) b = getI D b := by
  unfold getI putI
  rw [atKey_put_other (kI_ne h)]
theorem getI_empty (a : Int) : getI (.map []) a = 0 := rfl
theorem putI_tidy {D : DM} (h : Tidy D) (a c : Int) : Tidy (putI D a c) := h.put (kI_key a) _
def delI (D : DM) (a : Int) : DM := D.del (kI a)
theorem delI_tidy {D : DM} (h : Tidy D) (a : Int) : Tidy (delI D a) := h.del _
theorem getI_del_same (D : DM) (a : Int) : getI (delI D a) a = 0 := by
  unfold getI delI
  rw [atKey_del_same]
  rfl
theorem getI_del_other {D : DM} {a b : Int} (h : b ≠ a) : getI (delI D a) b = getI D b := by
  unfold getI delI
  rw [atKey_del_other (kI_ne h)]
/-- What the walk hands over of a look-up. -/
theorem getI_of {D : DM} {a c : Int} (h : D.atKey (.int .i64 a) (.lit (.int .i64 0)) = .lit (.int .i64 c)) : getI D a = c := by
  unfold getI
  rw [h]
  rfl

/-! ### Sums over keys -/
def wt (q : Lit → Bool) (p : Lit × DM) : Int := if q p.1 then numOf p.2 else 0
def esum (q : Lit → Bool) (es : List (Lit × DM)) : Int := (es.map (wt q)).sum
def msum (q : Lit → Bool) : DM → Int
  | .map es => esum q es
  | _ => 0
def onI (p : Int → Bool) : Lit → Bool
  | .int .i64 a => p a
  | _ => false
theorem esum_cons (q : Lit → Bool) (x : Lit × DM) (es : List (Lit × DM)) : esum q (x :: es) = wt q x + esum q es := by simp [esum]
theorem esum_insert (q : Lit → Bool) (x : Lit × DM) : ∀ es : List (Lit × DM), esum q (DataW.insert x es) = wt q x + esum q es
  | [] => by simp [DataW.insert, esum]
  | y :: r => by
    unfold DataW.insert
    split
    · rw [esum_cons]
    · rw [esum_cons, esum_insert q x r, esum_cons]
      omega
theorem esum_strike (q : Lit → Bool) (k : Lit) : ∀ es : List (Lit × DM), es.Pairwise (fun p r => p.1 ≠ r.1) →
    esum q (es.filter fun p => !p.1.sameKey k) + (if q k then numOf ((DataW.map es).atKey k (vI 0)) else 0) = esum q es
  | [], _ => by
    have : numOf ((DataW.map []).atKey k (vI 0) : DM) = 0 := rfl
    rw [this]
    simp [esum]
  | y :: r, h => by
    obtain ⟨h1, h2⟩ := List.pairwise_cons.1 h
    have ih := esum_strike q k r h2
    cases hy : y.1.sameKey k with
    | false =>
      have e1 : ((DataW.map (y :: r)).atKey k (vI 0) : DM) = (DataW.map r).atKey k (vI 0) := by
        simp only [DataW.atKey, List.find?_cons, hy]
      rw [e1, List.filter_cons, hy, Bool.not_false, if_pos rfl, esum_cons, esum_cons]
      omega
    | true =>
      have e1 : ((DataW.map (y :: r)).atKey k (vI 0) : DM) = y.2 := by
        simp only [DataW.atKey, List.find?_cons, hy]
      have e2 : r.filter (fun p => !p.1.sameKey k) = r := by
        rw [List.filter_eq_self]
        intro p hp
        cases hpk : p.1.sameKey k with
        | false => rfl
        | true => exact absurd ((WideAt.sameKey_eq hy).trans (WideAt.sameKey_eq hpk).symm) (h1 p hp)
      have e3 : y.1 = k := WideAt.sameKey_eq hy
      rw [e1, List.filter_cons, hy, Bool.not_true, if_neg (by simp), e2, esum_cons]
      unfold wt
      rw [e3]
      omega
theorem msum_put {D : DM} (h : Tidy D) (q : Lit → Bool) (a c : Int) : msum q (putI D a c) = msum q D + (if q (kI a) then c - getI D a else 0) := by
  obtain ⟨es, rfl, hp⟩ := h
  have h1 := esum_strike q (kI a) es hp
  have h2 : msum q (putI (.map es) a c) = wt q (kI a, vI c) + esum q (es.filter fun p => !p.1.sameKey (kI a)) := esum_insert q _ _
  have h3 : msum q (.map es) = esum q es := rfl
  have h4 : wt q (kI a, vI c) = if q (kI a) then c else 0 := rfl
  have h5 : getI (.map es) a = numOf ((DataW.map es).atKey (kI a) (vI 0)) := rfl
  rw [h2, h3, h4, h5]
  generalize esum q (es.filter fun p => !p.1.sameKey (kI a)) = F at *
  generalize numOf ((DataW.map es).atKey (kI a) (vI 0)) = N at *
  split
  · rename_i hq
    rw [if_pos hq] at h1
    omega
  · rename_i hq
    rw [if_neg hq] at h1
    omega
theorem msum_empty (q : Lit → Bool) : msum q (.map []) = 0 := rfl
/-- A range's step: the key that has come is no longer left. -/
theorem msum_left {D : DM} (h : Tidy D) (q left : Lit → Bool) {a : Int} (hl : left (kI a) = true) :
    msum (fun z => q z && left z) D = msum (fun z => q z && (left z && !z.sameKey (kI a))) D + (if q (kI a) then getI D a else 0) := by
  obtain ⟨es, rfl, hp⟩ := h
  have h1 := esum_strike (fun z => q z && left z) (kI a) es hp
  have h2 := esum_strike (fun z => q z && (left z && !z.sameKey (kI a))) (kI a) es hp
  have e0 : (kI a).sameKey (kI a) = true := WideAt.sameKey_self (kI_key a)
  have e1 : esum (fun z => q z && (left z && !z.sameKey (kI a))) (es.filter fun p => !p.1.sameKey (kI a)) = esum (fun z => q z && left z) (es.filter fun p => !p.1.sameKey (kI a)) := by
    unfold esum
    congr 1
    refine List.map_congr_left (fun p hp => ?_)
    have := (List.mem_filter.1 hp).2
    unfold wt
    simp only [this, Bool.and_true]
  show esum _ es = esum _ es + _
  have e2 : getI (.map es) a = numOf ((DataW.map es).atKey (kI a) (vI 0)) := rfl
  rw [e2]
  simp only [hl, e0, Bool.not_true, Bool.and_false, Bool.and_true, Bool.false_eq_true, if_false, Int.add_zero] at h1 h2
  rw [e1] at h2
  rw [← h1, h2]
theorem msum_none {D : DM} (q left : Lit → Bool) (h : ∀ z, left z = false) : msum (fun z => q z && left z) D = 0 := by
  have e : (fun z => q z && left z) = fun _ => false := funext fun z => by rw [h z, Bool.and_false]
  rw [e]
  cases D with
  | map es =>
    show esum _ es = 0
    unfold esum
    induction es with
    | nil => rfl
    | cons x es ih => rw [List.map_cons, List.sum_cons, ih]; rfl
  | _ => rfl
theorem msum_all {D : DM} (h : Tidy D) (hk : ∀ es, D = .map es → ∀ p ∈ es, WideAt.IsKeyLit p.1) (q : Lit → Bool) : msum (fun z => q z && Maps.has D z) D = msum q D := by
  obtain ⟨es, rfl, hp⟩ := h
  show esum _ es = esum _ es
  unfold esum
  congr 1
  refine List.map_congr_left (fun p hp' => ?_)
  have : Maps.has (DataW.map es) p.1 = true := List.any_eq_true.2 ⟨p, hp', WideAt.sameKey_self (hk es rfl p hp')⟩
  unfold wt
  simp only [this, Bool.and_true]
/-- All keys and all that is held are integers. -/
def Ints (D : DM) : Prop := ∃ es, D = .map es ∧ ∀ p ∈ es, ∃ a c, p = (kI a, vI c)
theorem ints_empty : Ints (.map []) := ⟨[], rfl, by simp⟩
theorem Ints.put {D : DM} (h : Ints D) (a c : Int) : Ints (putI D a c) := by
  obtain ⟨es, rfl, hp⟩ := h
  refine ⟨_, rfl, fun p hp' => ?_⟩
  rcases List.mem_cons.1 ((WideShapes.insert_perm (kI a, vI c) _).mem_iff.1 hp') with rfl | hm
  · exact ⟨a, c, rfl⟩
  · exact hp p (List.mem_filter.1 hm).1
theorem Ints.keys {D : DM} (h : Ints D) : ∀ es, D = .map es → ∀ p ∈ es, WideAt.IsKeyLit p.1 := by
  obtain ⟨es, rfl, hp⟩ := h
  intro es' e p hp'
  injection e with e
  subst e
  obtain ⟨a, c, rfl⟩ := hp p hp'
  exact kI_key a
end Go.Proofs.Ytphapnooonjnmaa
