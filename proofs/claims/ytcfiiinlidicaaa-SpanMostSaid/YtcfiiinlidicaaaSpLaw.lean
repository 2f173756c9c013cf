/-
  Spans: the laws in plain Lean.
-/
import Derived.Test.YtcfiiinlidicaaaSpHead
namespace Go.Proofs.Ytcfiiinlidicaaa
set_option linter.unusedSimpArgs false
set_option linter.unusedVariables false
theorem comb_same {f g : Bool → Bool → Bool} {a b c d r s : List Spn} (h : IsComb f a b r) (k : IsComb g c d s) (e : ∀ n, f (has a n) (has b n) = g (has c n) (has d n)) : r = s :=
  norm_eq h.1 k.1 fun n => (h.2.2 n).trans ((e n).trans (k.2.2 n).symm)
theorem comb_is {f : Bool → Bool → Bool} {a b c r : List Spn} (h : IsComb f a b r) (hc : Norm c) (e : ∀ n, f (has a n) (has b n) = has c n) : r = c := norm_eq h.1 hc fun n => (h.2.2 n).trans (e n)
theorem one_less {a b x y : List Spn} (ha : Norm a) (hb : Norm b) (hx : IsComb fL a b x) (hy : IsComb fL b a y) : (x.length + y.length = 0) ↔ a = b := by
  constructor
  · intro h
    have e1 : x = [] := List.eq_nil_of_length_eq_zero (by omega)
    have e2 : y = [] := List.eq_nil_of_length_eq_zero (by omega)
    subst e1 e2
    refine norm_eq ha hb fun n => ?_
    have h1 := hx.2.2 n
    have h2 := hy.2.2 n
    rw [has_nil] at h1 h2
    generalize has a n = p at *
    generalize has b n = q at *
    cases p <;> cases q <;> first | rfl | exact absurd h1 (by decide) | exact absurd h2 (by decide)
  · rintro rfl
    have e1 : x = [] := comb_is hx Norm.nil fun n => by unfold fL; rw [has_nil]; cases has a n <;> rfl
    have e2 : y = [] := comb_is hy Norm.nil fun n => by unfold fL; rw [has_nil]; cases has a n <;> rfl
    rw [e1, e2]
    rfl
theorem one_union {a b p q : List Spn} (hp : IsComb fU a b p) (hq : IsComb fU b a q) : p = q := comb_same hp hq fun n => by unfold fU; rw [Bool.or_comm]
theorem one_meet {a b p q : List Spn} (hp : IsComb fM a b p) (hq : IsComb fM b a q) : p = q := comb_same hp hq fun n => by unfold fM; rw [Bool.and_comm]
theorem one_uu {a u : List Spn} (ha : Norm a) (h : IsComb fU a a u) : u = a := comb_is h ha fun n => by unfold fU; rw [Bool.or_self]
theorem one_mm {a u : List Spn} (ha : Norm a) (h : IsComb fM a a u) : u = a := comb_is h ha fun n => by unfold fM; rw [Bool.and_self]
theorem sums_again {a b y z r : List Spn} (ha : Norm a) (hy : IsComb fM a b y) (hz : IsComb fL a b z) (hr : IsComb fU y z r) : r = a := comb_is hr ha fun n => by
  rw [hy.2.2, hz.2.2]
  unfold fU fM fL
  cases has a n <;> cases has b n <;> rfl
theorem three_meet {a b c u x y z w : List Spn} (hu : IsComb fU b c u) (hx : IsComb fM a u x) (hy : IsComb fM a b y) (hz : IsComb fM a c z) (hw : IsComb fU y z w) : x = w := comb_same hx hw fun n => by
  rw [hu.2.2, hy.2.2, hz.2.2]
  unfold fU fM
  cases has a n <;> cases has b n <;> cases has c n <;> rfl
theorem three_less {a b c u p q s : List Spn} (hu : IsComb fU b c u) (hp : IsComb fL a u p) (hq : IsComb fL a b q) (hs : IsComb fL q c s) : p = s := comb_same hp hs fun n => by
  rw [hu.2.2, hq.2.2]
  unfold fU fL
  cases has a n <;> cases has b n <;> cases has c n <;> rfl
/-! ### Counting -/
def cntF (f : Int → Bool) : Nat → Int
  | 0 => 0
  | k + 1 => cntF f k + if f k = true then 1 else 0
theorem cntF_congr {f g : Int → Bool} (h : ∀ n, f n = g n) : ∀ k, cntF f k = cntF g k
  | 0 => rfl
  | k + 1 => by rw [cntF, cntF, cntF_congr h k, h]
theorem cntF_two {f g h i : Int → Bool} (e : ∀ n, (if f n = true then (1 : Int) else 0) + (if g n = true then 1 else 0) = (if h n = true then 1 else 0) + (if i n = true then 1 else 0)) : ∀ k, cntF f k + cntF g k = cntF h k + cntF i k
  | 0 => rfl
  | k + 1 => by
    have h1 := cntF_two e k
    have h2 := e k
    rw [cntF, cntF, cntF, cntF]
    omega
theorem cntF_span {s : Spn} (h0 : 0 ≤ s.frm) (h1 : s.frm < s.til) : ∀ k : Nat, cntF (inS s) k = if (k : Int) ≤ s.frm then 0 else if (k : Int) ≤ s.til then k - s.frm else s.til - s.frm
  | 0 => by rw [cntF, if_pos (by omega)]
  | k + 1 => by
    rw [cntF, cntF_span h0 h1 k]
    by_cases hi : inS s k = true
    · rw [if_pos hi]
      obtain ⟨i1, i2⟩ := inS_iff.1 hi
      (repeat' split) <;> omega
    · rw [if_neg hi]
      have := inS_no.1 (by simpa using hi)
      (repeat' split) <;> omega
theorem cntF_zero : ∀ k, cntF (fun _ => false) k = 0
  | 0 => rfl
  | k + 1 => by rw [cntF, cntF_zero k]; rfl
theorem cnt_has : ∀ {l : List Spn}, Norm l → (∀ s ∈ l, 0 ≤ s.frm ∧ s.til ≤ 1000000000) → cntF (has l) 1000000000 = cntL l
  | [], _, _ => (cntF_congr (fun n => has_nil n) _).trans (cntF_zero _)
  | s :: l, h, hb => by
    have ih := cnt_has h.tail (fun x hx => hb x (by simp [hx]))
    have hs := hb s (by simp)
    have hp := h.pos s (by simp)
    have e := cntF_two (f := has (s :: l)) (g := fun _ => false) (h := inS s) (i := has l) (fun n => by
      rw [has_cons]
      cases h1 : inS s n
      · simp
      · have : has l n = false := h.far (by have := inS_iff.1 h1; omega)
        rw [this]; simp) 1000000000
    rw [cntF_zero, cntF_span hs.1 hp, ih] at e
    have e2 : cntL (s :: l) = (s.til - s.frm) + cntL l := by simp [cntL]
    rw [e2]
    have h5 : ¬ ((1000000000 : Nat) : Int) ≤ s.frm := by omega
    rw [if_neg h5] at e
    split at e <;> omega
theorem sums_count {a b x y : List Spn} (ha : Norm a) (hb : Norm b) (ha' : ∀ s ∈ a, 0 ≤ s.frm ∧ s.til ≤ 1000000000) (hb' : ∀ s ∈ b, 0 ≤ s.frm ∧ s.til ≤ 1000000000) (hx : IsComb fU a b x) (hy : IsComb fM a b y) : cntL a + cntL b = cntL x + cntL y := by
  rw [← cnt_has ha ha', ← cnt_has hb hb', ← cnt_has hx.1 hx.2.1, ← cnt_has hy.1 hy.2.1]
  refine cntF_two (fun n => ?_) _
  rw [hx.2.2, hy.2.2]
  unfold fU fM
  cases has a n <;> cases has b n <;> rfl
end Go.Proofs.Ytcfiiinlidicaaa
