/-
  Plain words for the houses' arithmetic: ratios, rounding, taxes, bills. No Go in sight.
-/
import Derived.Below
namespace Go.Proofs.Ytphapnooonjnmaa
set_option linter.unusedSimpArgs false
set_option linter.unusedVariables false

def inB (n lo hi : Int) : Bool := decide (lo ≤ n ∧ n ≤ hi)
theorem inB_t {n lo hi : Int} (h1 : lo ≤ n) (h2 : n ≤ hi) : inB n lo hi = true := by unfold inB; simp; omega
theorem inB_f {n lo hi : Int} (h : n < lo ∨ hi < n) : inB n lo hi = false := by unfold inB; simp; omega
theorem inB_iff {n lo hi : Int} : inB n lo hi = true ↔ lo ≤ n ∧ n ≤ hi := by unfold inB; simp

/-! ### Ratios -/
def ratOk (n d : Int) : Bool := decide (1 ≤ d ∧ d ≤ 1000000 ∧ -1000000000 ≤ n ∧ n ≤ 1000000000 ∧ Int.gcd n d = 1)
theorem ratOk_iff {n d : Int} : ratOk n d = true ↔ 1 ≤ d ∧ d ≤ 1000000 ∧ -1000000000 ≤ n ∧ n ≤ 1000000000 ∧ Int.gcd n d = 1 := by unfold ratOk; simp
theorem ratOk_f {n d : Int} (h : d < 1 ∨ 1000000 < d ∨ n < -1000000000 ∨ 1000000000 < n) : ratOk n d = false := by
  unfold ratOk
  simp only [decide_eq_false_iff_not]
  omega
theorem ratOk_gcd {n d : Int} (h1 : 1 ≤ d) (h2 : d ≤ 1000000) (h3 : -1000000000 ≤ n) (h4 : n ≤ 1000000000) : ratOk n d = decide (Int.gcd n d = 1) := by
  unfold ratOk
  simp [h1, h2, h3, h4]
theorem gcd_step (a b : Int) : Int.gcd b (a % b) = Int.gcd a b := by
  rw [Int.gcd_comm a b, Int.gcd_comm b (a % b), Int.emod_def, Int.gcd_sub_mul_left_left]
  exact Int.gcd_comm _ _
theorem gcd_lo {n d : Int} (h : 1 ≤ d) : 1 ≤ ((n.gcd d : Nat) : Int) := by
  have := Int.gcd_pos_of_ne_zero_right n (show d ≠ 0 by omega)
  omega
theorem gcd_hi {n d : Int} (h : 1 ≤ d) : ((n.gcd d : Nat) : Int) ≤ d := by
  have := Int.le_of_dvd (show 0 < d by omega) (Int.gcd_dvd_right n d)
  omega
/-- n / g = n and d / g = d just where g = 1. -/
theorem gcd_same {n d : Int} (h : 1 ≤ d) : (n.tdiv (Int.gcd n d) = n ∧ d.tdiv (Int.gcd n d) = d) ↔ Int.gcd n d = 1 := by
  constructor
  · rintro ⟨_, h2⟩
    have hd : ((Int.gcd n d : Nat) : Int) ∣ d := Int.gcd_dvd_right n d
    rw [Int.tdiv_eq_ediv_of_nonneg (by omega)] at h2
    have h3 := Int.ediv_mul_cancel hd
    rw [h2] at h3
    have h4 : d * ((Int.gcd n d : Nat) : Int) = d * 1 := by omega
    have := Int.eq_of_mul_eq_mul_left (show d ≠ 0 by omega) h4
    omega
  · intro h1
    rw [h1]
    simp

/-! ### Rounding: n / d for d above 0; 1 down, 2 up, 3 to even -/
def rnd (n d way : Int) : Int :=
  if (way = 2 ∧ 0 < n % d) ∨ (way = 3 ∧ (d < 2 * (n % d) ∨ (2 * (n % d) = d ∧ (n / d) % 2 ≠ 0))) then n / d + 1 else n / d

theorem tdiv_floor (n : Int) {d : Int} (h : 1 ≤ d) : n / d = if n.tmod d < 0 then n.tdiv d - 1 else n.tdiv d := by
  have h1 := Int.tmod_add_mul_tdiv n d
  have h5 := Int.tmod_lt_of_pos n (show 0 < d by omega)
  have h6 := Int.lt_tmod_of_pos n (show 0 < d by omega)
  split
  · have := (Int.ediv_emod_unique (a := n) (b := d) (r := n.tmod d + d) (q := n.tdiv d - 1) (by omega)).2 ⟨by rw [Int.mul_sub]; omega, by omega, by omega⟩
    exact this.1
  · have := (Int.ediv_emod_unique (a := n) (b := d) (r := n.tmod d) (q := n.tdiv d) (by omega)).2 ⟨by omega, by omega, by omega⟩
    exact this.1
theorem tdiv_bd (n : Int) {d : Int} : -(n.natAbs : Int) ≤ n.tdiv d ∧ n.tdiv d ≤ n.natAbs := by
  have h1 : (n.tdiv d).natAbs ≤ n.natAbs := by
    rw [Int.natAbs_tdiv]
    exact Nat.div_le_self _ _
  omega

/-! ### Taxes and bills -/
structure Tax where
  id : Int
  place : Int
  night : Int
  n : Int
  d : Int
  first : Int
  round : Int
structure Bill where
  stay : Int
  channel : Int
  place : Int
  kind : Int
  frm : Int
  til : Int
  persons : Int
  price : Int
  keep : Int
def Tax.ok (t : Tax) : Bool := ratOk t.n t.d && inB t.n 0 t.d && (inB t.id 1 1000000 && inB t.place 1 99 && inB t.night 0 100000) && inB t.first 0 60 && inB t.round 1 3
def nightsOk (frm til : Int) : Bool := decide (0 ≤ frm ∧ frm < til ∧ til ≤ 366 ∧ til - frm ≤ 60)
def askOk (kind frm til persons : Int) : Bool := nightsOk frm til && inB kind 1 20 && inB persons 1 8
def Bill.ok (b : Bill) : Bool := askOk b.kind b.frm b.til b.persons && (inB b.stay 1 1000000 && inB b.channel 0 29 && inB b.place 1 99) && inB b.price 0 1000000000 && inB b.keep 0 b.price
theorem Tax.ok_iff {t : Tax} : t.ok = true ↔ ratOk t.n t.d = true ∧ (0 ≤ t.n ∧ t.n ≤ t.d) ∧ (1 ≤ t.id ∧ t.id ≤ 1000000) ∧ (1 ≤ t.place ∧ t.place ≤ 99) ∧ (0 ≤ t.night ∧ t.night ≤ 100000) ∧ (0 ≤ t.first ∧ t.first ≤ 60) ∧ (1 ≤ t.round ∧ t.round ≤ 3) := by
  unfold Tax.ok
  simp [inB_iff, and_assoc]
theorem Bill.ok_iff {b : Bill} : b.ok = true ↔ (0 ≤ b.frm ∧ b.frm < b.til ∧ b.til ≤ 366 ∧ b.til - b.frm ≤ 60) ∧ (1 ≤ b.kind ∧ b.kind ≤ 20) ∧ (1 ≤ b.persons ∧ b.persons ≤ 8) ∧ (1 ≤ b.stay ∧ b.stay ≤ 1000000) ∧ (0 ≤ b.channel ∧ b.channel ≤ 29) ∧ (1 ≤ b.place ∧ b.place ≤ 99) ∧ (0 ≤ b.price ∧ b.price ≤ 1000000000) ∧ (0 ≤ b.keep ∧ b.keep ≤ b.price) := by
  unfold Bill.ok askOk nightsOk
  simp [inB_iff, and_assoc]
def Bill.nights (b : Bill) : Int := b.til - b.frm
def firstN (t : Tax) (b : Bill) : Int := if 0 < t.first then min (b.til - b.frm) t.first else b.til - b.frm
def exD (t : Tax) (b : Bill) : Int := (b.til - b.frm) * t.d
def exN (t : Tax) (b : Bill) : Int := t.night * firstN t b * b.persons * exD t b + t.n * b.price * firstN t b
def oneV (t : Tax) (b : Bill) : Int := rnd (exN t b) (exD t b) t.round
/-- What one tax of a bill is: the number and the error. -/
def one (t : Tax) (b : Bill) : Int × Int :=
  if (!t.ok || !b.ok) = true then (0, 1) else if t.place ≠ b.place then (0, 0) else if 1000000000 < oneV t b then (0, 3) else (oneV t b, 0)
def taxesOk (l : List Tax) : Bool := decide (l.length ≤ 50) && l.all Tax.ok && decide ((l.map Tax.id).Nodup)
theorem taxesOk_iff {l : List Tax} : taxesOk l = true ↔ l.length ≤ 50 ∧ (∀ j (h : j < l.length), l[j].ok = true) ∧ ∀ j k (hj : j < l.length) (hk : k < l.length), j < k → l[j].id ≠ l[k].id := by
  unfold taxesOk
  rw [Bool.and_eq_true, Bool.and_eq_true, decide_eq_true_eq, decide_eq_true_eq, List.all_eq_true, List.Nodup, List.pairwise_map, List.pairwise_iff_getElem, and_assoc]
  refine and_congr Iff.rfl (and_congr ?_ Iff.rfl)
  exact ⟨fun h j hj => h _ (List.getElem_mem hj), fun h x hx => by obtain ⟨j, hj, rfl⟩ := List.getElem_of_mem hx; exact h j hj⟩
theorem taxesOk_bad {l : List Tax} {j : Nat} (hj : j < l.length) (h : l[j].ok = false) : taxesOk l = false := by
  cases e : taxesOk l with
  | false => rfl
  | true => rw [(taxesOk_iff.1 e).2.1 j hj] at h; cases h
theorem taxesOk_twice {l : List Tax} {j k : Nat} (hj : j < l.length) (hk : k < l.length) (hjk : j < k) (h : l[j].id = l[k].id) : taxesOk l = false := by
  cases e : taxesOk l with
  | false => rfl
  | true => exact absurd h ((taxesOk_iff.1 e).2.2 j k hj hk hjk)
theorem taxesOk_long {l : List Tax} (h : 50 < l.length) : taxesOk l = false := by
  cases e : taxesOk l with
  | false => rfl
  | true => have := (taxesOk_iff.1 e).1; omega
/-- All taxes of a bill: each one, the sum, and the error. -/
def allT (l : List Tax) (b : Bill) : List Int × Int × Int :=
  if (!taxesOk l || !b.ok) = true then ([], 0, 1) else
    match l.find? (fun t => (one t b).2 != 0) with
    | some t => ([], 0, (one t b).2)
    | none => if 1000000000 < (l.map fun t => (one t b).1).sum then ([], 0, 3) else (l.map fun t => (one t b).1, (l.map fun t => (one t b).1).sum, 0)

theorem one_bd (t : Tax) (b : Bill) : 0 ≤ (one t b).1 ∧ (one t b).1 ≤ 1000000000 := by
  unfold one
  split
  · simp
  · rename_i h
    split
    · simp
    · split
      · simp
      · rename_i h3
        refine ⟨?_, by simpa using h3⟩
        have hb : b.ok = true := by simp at h; exact h.2
        have ht : t.ok = true := by simp at h; exact h.1
        obtain ⟨h1, h2, _, _, h5, h6, _⟩ := Tax.ok_iff.1 ht
        obtain ⟨g1, _, g3, _, _, _, g7, _⟩ := Bill.ok_iff.1 hb
        obtain ⟨r1, _⟩ := ratOk_iff.1 h1
        have hf : 0 ≤ firstN t b := by unfold firstN; split <;> omega
        have hd : 0 ≤ exD t b := Int.mul_nonneg (by omega) (by omega)
        have hn : 0 ≤ exN t b := Int.add_nonneg (Int.mul_nonneg (Int.mul_nonneg (Int.mul_nonneg (by omega) hf) (by omega)) hd) (Int.mul_nonneg (Int.mul_nonneg (by omega) (by omega)) hf)
        have hq : 0 ≤ exN t b / exD t b := Int.ediv_nonneg hn hd
        show 0 ≤ rnd _ _ _
        unfold rnd
        split <;> omega
def onesT (l : List Tax) (b : Bill) : List Int := l.map fun t => (one t b).1
theorem sum_bd {l : List Int} {B : Int} (h : ∀ x ∈ l, 0 ≤ x ∧ x ≤ B) : 0 ≤ l.sum ∧ l.sum ≤ l.length * B := by
  induction l with
  | nil => simp
  | cons x l ih =>
    have h1 := ih (fun y hy => h y (by simp [hy]))
    have h2 := h x (by simp)
    rw [List.sum_cons, List.length_cons]
    have e : ((l.length + 1 : Nat) : Int) * B = l.length * B + B := by rw [Int.natCast_add, Int.add_mul]; simp
    omega
theorem onesT_sum_bd (l : List Tax) (b : Bill) : 0 ≤ (onesT l b).sum ∧ (onesT l b).sum ≤ l.length * 1000000000 := by
  have := sum_bd (l := onesT l b) (B := 1000000000) (by
    intro x hx
    obtain ⟨t, _, rfl⟩ := List.mem_map.1 hx
    exact one_bd t b)
  simpa [onesT] using this
theorem onesT_snoc {l : List Tax} {b : Bill} {m : Nat} (h : m < l.length) : onesT (l.take (m + 1)) b = onesT (l.take m) b ++ [(one l[m] b).1] := by
  unfold onesT
  rw [List.take_succ_eq_append_getElem h, List.map_append]
  rfl
theorem allT_arg {l : List Tax} {b : Bill} (h : (!taxesOk l || !b.ok) = true) : allT l b = ([], 0, 1) := by unfold allT; rw [if_pos h]
theorem allT_err {l : List Tax} {b : Bill} {m : Nat} (h : (!taxesOk l || !b.ok) = false) (hm : m < l.length) (he : (one l[m] b).2 ≠ 0) (hn : ∀ j (h : j < l.length), j < m → (one l[j] b).2 = 0) : allT l b = ([], 0, (one l[m] b).2) := by
  have hf : l.find? (fun t => (one t b).2 != 0) = some l[m] := by
    rw [List.find?_eq_some_iff_getElem]
    exact ⟨by simpa using he, m, hm, rfl, fun j hj => by simpa using hn j (by omega) hj⟩
  unfold allT
  rw [if_neg (by rw [h]; simp), hf]
theorem allT_ok {l : List Tax} {b : Bill} (h : (!taxesOk l || !b.ok) = false) (hn : ∀ j (h : j < l.length), (one l[j] b).2 = 0) : allT l b = if 1000000000 < (onesT l b).sum then ([], 0, 3) else (onesT l b, (onesT l b).sum, 0) := by
  have hf : l.find? (fun t => (one t b).2 != 0) = none := by
    rw [List.find?_eq_none]
    intro t ht
    obtain ⟨j, hj, rfl⟩ := List.getElem_of_mem ht
    simpa using hn j hj
  unfold allT
  rw [if_neg (by rw [h]; simp), hf]
  rfl

end Go.Proofs.Ytphapnooonjnmaa
