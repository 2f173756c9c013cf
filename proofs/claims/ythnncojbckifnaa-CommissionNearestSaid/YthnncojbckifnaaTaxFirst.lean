/-
  The law 'TaxFirst': the walk.
-/
import Derived.Test.YthnncojbckifnaaTaxArgs
import Derived.Test.YthnncojbckifnaaTwo
namespace Go.Proofs.Ythnncojbckifnaa
set_option linter.unusedSimpArgs false
set_option linter.unusedVariables false
open Go.RowKit Go.Maps
open Go.Sort (grow size_grow)

set_option maxHeartbeats 4000000
set_option maxRecDepth 100000

def withFirst (t : Tax) (k : Int) : Tax := ⟨t.id, t.place, t.night, t.n, t.d, k, t.round⟩
theorem rnd_mono {n n' d way : Int} (hd : 1 ≤ d) (hw : way = 1 ∨ way = 2 ∨ way = 3) (h : n ≤ n') : rnd n d way ≤ rnd n' d way := by
  have s := rnd_spec n way hd
  have s' := rnd_spec n' way hd
  apply Int.not_lt.1
  intro hlt
  have h1 : (rnd n' d way + 1) * d ≤ rnd n d way * d := Int.mul_le_mul_of_nonneg_right (by omega) (by omega)
  rw [Int.add_mul] at h1
  obtain ⟨⟨s1, s2⟩, s3⟩ := s
  obtain ⟨⟨t1, t2⟩, t3⟩ := s'
  generalize rnd n d way = m at *
  generalize rnd n' d way = m' at *
  rcases hw with hw | hw | hw
  · have := s1 hw
    have := t1 hw
    omega
  · have := s2 hw
    have := t2 hw
    omega
  · have a := s3 hw
    have b := t3 hw
    have h2 : m * d = m' * d + d := by omega
    have h3 : m = m' + 1 := by
      have : m * d = (m' + 1) * d := by rw [Int.add_mul]; omega
      exact Int.eq_of_mul_eq_mul_right (by omega) this
    omega
theorem firstN_zero (t : Tax) (b : Bill) : firstN (withFirst t 0) b = b.til - b.frm := by simp [firstN, withFirst]
theorem firstN_k (t : Tax) (b : Bill) {k : Int} (hk : 1 ≤ k) : firstN (withFirst t k) b = min (b.til - b.frm) k := by
  unfold firstN
  rw [if_pos (by simpa [withFirst] using (show 0 < k by omega))]
  rfl
theorem withFirst_ok (t : Tax) {k : Int} (h1 : 1 ≤ k) (h2 : k ≤ 60) : (withFirst t k).ok = (withFirst t 0).ok := by
  have e1 : inB k 0 60 = true := inB_t (by omega) h2
  have e2 : inB 0 0 60 = true := by decide
  show (ratOk t.n t.d && inB t.n 0 t.d && (inB t.id 1 1000000 && inB t.place 1 99 && inB t.night 0 100000) && inB k 0 60 && inB t.round 1 3) = (ratOk t.n t.d && inB t.n 0 t.d && (inB t.id 1 1000000 && inB t.place 1 99 && inB t.night 0 100000) && inB 0 0 60 && inB t.round 1 3)
  rw [e1, e2]
theorem exN_mono (t : Tax) (b : Bill) {k : Int} (hk : 1 ≤ k) (ht : (withFirst t 0).ok = true) (hb : b.ok = true) : exN (withFirst t k) b ≤ exN (withFirst t 0) b := by
  obtain ⟨n1, n2, f0, f1, d0, d1, x0, x1, a0, a1, c0, c1, e0, e1, p0, p1, q0, q1⟩ := exB ht hb
  have h2 : 0 ≤ t.night ∧ t.night ≤ 100000 := (Tax.ok_iff.1 ht).2.2.2.2.1
  obtain ⟨_, _, g3, _⟩ := Bill.ok_iff.1 hb
  unfold exN
  rw [firstN_zero, firstN_k t b hk]
  have hm : min (b.til - b.frm) k ≤ b.til - b.frm := Int.min_le_left _ _
  show t.night * _ * _ * ((b.til - b.frm) * t.d) + t.n * b.price * _ ≤ t.night * _ * _ * ((b.til - b.frm) * t.d) + t.n * b.price * _
  exact Int.add_le_add (Int.mul_le_mul_of_nonneg_right (Int.mul_le_mul_of_nonneg_right (Int.mul_le_mul_of_nonneg_left hm h2.1) (by omega)) (by simpa [withFirst] using (show (0 : Int) ≤ (b.til - b.frm) * (withFirst t 0).d by omega))) (Int.mul_le_mul_of_nonneg_left hm p0)
theorem first_cases (t : Tax) (b : Bill) {k : Int} (h1 : 1 ≤ k) (h2 : k ≤ 60) :
    (one (withFirst t 0) b = (0, 1) ∧ one (withFirst t k) b = (0, 1)) ∨
    ((0 ≤ b.frm ∧ b.frm < b.til ∧ b.til ≤ 366) ∧ ((b.til - b.frm ≤ k ∧ ∃ m e, one (withFirst t 0) b = (m, e) ∧ one (withFirst t k) b = (m, e) ∧ (e = 0 ∨ e = 3)) ∨
      (k < b.til - b.frm ∧ ((∃ m e, one (withFirst t 0) b = (0, 3) ∧ one (withFirst t k) b = (m, e)) ∨ ∃ m m', one (withFirst t 0) b = (m, 0) ∧ one (withFirst t k) b = (m', 0) ∧ m' ≤ m)))) := by
  have hok := withFirst_ok t h1 h2
  by_cases h : (!(withFirst t 0).ok || !b.ok) = true
  · left
    unfold one
    rw [hok, if_pos h, if_pos h]
    exact ⟨rfl, rfl⟩
  · have ht : (withFirst t 0).ok = true := by simp at h; exact h.1
    have hb : b.ok = true := by simp at h; exact h.2
    obtain ⟨g1, _⟩ := Bill.ok_iff.1 hb
    refine .inr ⟨⟨g1.1, g1.2.1, g1.2.2.1⟩, ?_⟩
    have o0 : one (withFirst t 0) b = if t.place ≠ b.place then (0, 0) else if 1000000000 < oneV (withFirst t 0) b then (0, 3) else (oneV (withFirst t 0) b, 0) := by
      unfold one
      rw [if_neg h]
      rfl
    have ok : one (withFirst t k) b = if t.place ≠ b.place then (0, 0) else if 1000000000 < oneV (withFirst t k) b then (0, 3) else (oneV (withFirst t k) b, 0) := by
      unfold one
      rw [hok, if_neg h]
      rfl
    by_cases hn : b.til - b.frm ≤ k
    · refine .inl ⟨hn, ?_⟩
      have hf : firstN (withFirst t k) b = firstN (withFirst t 0) b := by
        rw [firstN_zero, firstN_k t b h1]
        omega
      have hv : oneV (withFirst t k) b = oneV (withFirst t 0) b := by
        unfold oneV exN
        rw [hf]
        rfl
      rw [hv] at ok
      refine ⟨(one (withFirst t 0) b).1, (one (withFirst t 0) b).2, rfl, ok.trans o0.symm, ?_⟩
      rw [o0]
      split
      · exact .inl rfl
      · split
        · exact .inr rfl
        · exact .inl rfl
    · refine .inr ⟨by omega, ?_⟩
      by_cases hp : t.place ≠ b.place
      · rw [if_pos hp] at o0 ok
        exact .inr ⟨0, 0, o0, ok, Int.le_refl _⟩
      · rw [if_neg hp] at o0 ok
        have hx : oneV (withFirst t k) b ≤ oneV (withFirst t 0) b :=
          rnd_mono (exB ht hb).x0 (show t.round = 1 ∨ t.round = 2 ∨ t.round = 3 by have : 1 ≤ t.round ∧ t.round ≤ 3 := (Tax.ok_iff.1 ht).2.2.2.2.2.2; omega) (exN_mono t b h1 ht hb)
        by_cases h3 : 1000000000 < oneV (withFirst t 0) b
        · rw [if_pos h3] at o0
          exact .inl ⟨_, _, o0, rfl⟩
        · rw [if_neg h3] at o0
          rw [if_neg (by omega)] at ok
          exact .inr ⟨_, _, o0, ok, hx⟩

end Go.Proofs.Ythnncojbckifnaa
