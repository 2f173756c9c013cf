/-
  Spans: plain Lean: sets of numbers as lists of spans.
-/
import Derived.Below
namespace Go.Proofs.Ytphapnooonjnmaa
set_option linter.unusedSimpArgs false
set_option linter.unusedVariables false
structure Spn where
  frm : Int
  til : Int
deriving DecidableEq
def Spn.ok (s : Spn) : Bool := decide (0 ≤ s.frm ∧ s.frm < s.til ∧ s.til ≤ 1000000000)
theorem Spn.ok_iff {s : Spn} : s.ok = true ↔ 0 ≤ s.frm ∧ s.frm < s.til ∧ s.til ≤ 1000000000 := by unfold Spn.ok; rw [decide_eq_true_eq]
def inS (s : Spn) (n : Int) : Bool := decide (s.frm ≤ n ∧ n < s.til)
theorem inS_iff {s : Spn} {n : Int} : inS s n = true ↔ s.frm ≤ n ∧ n < s.til := by unfold inS; rw [decide_eq_true_eq]
theorem inS_no {s : Spn} {n : Int} : inS s n = false ↔ n < s.frm ∨ s.til ≤ n := by
  unfold inS; rw [decide_eq_false_iff_not]; omega
def has (l : List Spn) (n : Int) : Bool := l.any (inS · n)
theorem has_nil (n : Int) : has [] n = false := rfl
theorem has_cons (s : Spn) (l : List Spn) (n : Int) : has (s :: l) n = (inS s n || has l n) := by unfold has; rw [List.any_cons]
theorem has_append (a b : List Spn) (n : Int) : has (a ++ b) n = (has a n || has b n) := by unfold has; rw [List.any_append]
theorem has_iff {l : List Spn} {n : Int} : has l n = true ↔ ∃ s ∈ l, s.frm ≤ n ∧ n < s.til := by
  unfold has
  rw [List.any_eq_true]
  constructor
  · rintro ⟨s, h1, h2⟩; exact ⟨s, h1, inS_iff.1 h2⟩
  · rintro ⟨s, h1, h2⟩; exact ⟨s, h1, inS_iff.2 h2⟩
theorem has_no {l : List Spn} {n : Int} : has l n = false ↔ ∀ s ∈ l, n < s.frm ∨ s.til ≤ n := by
  rw [← Bool.not_eq_true, has_iff]
  constructor
  · intro h s hs
    rcases Int.lt_or_le n s.frm with h1 | h1
    · exact .inl h1
    · exact .inr (by rcases Int.lt_or_le n s.til with h2 | h2
                     · exact absurd ⟨s, hs, h1, h2⟩ h
                     · exact h2)
  · rintro h ⟨s, hs, h1, h2⟩
    rcases h s hs with h | h <;> omega
/-- Well-formed and apart, in order. -/
structure Norm (l : List Spn) : Prop where
  pos : ∀ s ∈ l, s.frm < s.til
  apart : l.Pairwise fun a b => a.til < b.frm
theorem Norm.nil : Norm [] := ⟨by simp, List.Pairwise.nil⟩
theorem Norm.tail {s : Spn} {l : List Spn} (h : Norm (s :: l)) : Norm l := ⟨fun x hx => h.pos x (by simp [hx]), (List.pairwise_cons.1 h.apart).2⟩
theorem Norm.head {s : Spn} {l : List Spn} (h : Norm (s :: l)) : ∀ x ∈ l, s.til < x.frm := (List.pairwise_cons.1 h.apart).1
theorem Norm.far {s : Spn} {l : List Spn} (h : Norm (s :: l)) {n : Int} (hn : n ≤ s.til) : has l n = false := has_no.2 fun x hx => .inl (by have := h.head x hx; omega)
theorem norm_eq : ∀ {a b : List Spn}, Norm a → Norm b → (∀ n, has a n = has b n) → a = b
  | [], [], _, _, _ => rfl
  | [], u :: b, _, hb, h => by
    have h1 := h u.frm
    have h2 := hb.pos u (by simp)
    rw [has_nil, has_cons, inS_iff.2 ⟨Int.le_refl _, h2⟩] at h1
    cases h1
  | s :: a, [], ha, _, h => by
    have h1 := h s.frm
    have h2 := ha.pos s (by simp)
    rw [has_nil, has_cons, inS_iff.2 ⟨Int.le_refl _, h2⟩] at h1
    cases h1
  | s :: a, u :: b, ha, hb, h => by
    have ps := ha.pos s (by simp)
    have pu := hb.pos u (by simp)
    have first : ∀ {s u : Spn} {a b : List Spn}, Norm (s :: a) → Norm (u :: b) → (∀ n, has (s :: a) n = has (u :: b) n) → u.frm ≤ s.frm := by
      intro s u a b ha hb h
      have ps := ha.pos s (by simp)
      have pu := hb.pos u (by simp)
      have h1 := h s.frm
      rw [has_cons, inS_iff.2 ⟨Int.le_refl _, ps⟩, Bool.true_or] at h1
      obtain ⟨v, hv, h2, h3⟩ := has_iff.1 h1.symm
      rcases List.mem_cons.1 hv with rfl | hv
      · exact h2
      · have := hb.head v hv; omega
    have e1 : s.frm = u.frm := by
      have := first ha hb h
      have := first hb ha (fun n => (h n).symm)
      omega
    have last : ∀ {s u : Spn} {a b : List Spn}, Norm (s :: a) → Norm (u :: b) → (∀ n, has (s :: a) n = has (u :: b) n) → s.frm = u.frm → ¬ s.til < u.til := by
      intro s u a b ha hb h e hlt
      have ps := ha.pos s (by simp)
      have h1 := h s.til
      rw [has_cons, has_cons, (inS_iff (s := u)).2 ⟨by omega, hlt⟩, (inS_no (s := s)).2 (.inr (Int.le_refl _)), ha.far (Int.le_refl _)] at h1
      cases h1
    have e2 : s.til = u.til := by
      have := last ha hb h e1
      have := last hb ha (fun n => (h n).symm) e1.symm
      omega
    have e3 : s = u := by cases s; cases u; simp_all
    subst e3
    rw [norm_eq ha.tail hb.tail fun n => ?_]
    rcases Int.lt_or_le s.til n with h1 | h1
    · have h2 := h n
      rw [has_cons, has_cons, inS_no.2 (.inr (by omega)), Bool.false_or, Bool.false_or] at h2
      exact h2
    · rw [ha.far h1, hb.far h1]
/-- What a list of spans is that is a set. -/
def setOk (l : List Spn) : Bool := l.all Spn.ok && decide (l.Pairwise fun a b => a.til < b.frm) && decide (l.length ≤ 1000)
theorem setOk_iff {l : List Spn} : setOk l = true ↔ (∀ s ∈ l, s.ok = true) ∧ (l.Pairwise fun a b => a.til < b.frm) ∧ l.length ≤ 1000 := by
  unfold setOk
  rw [Bool.and_eq_true, Bool.and_eq_true, decide_eq_true_eq, decide_eq_true_eq, List.all_eq_true, and_assoc]
theorem setOk_norm {l : List Spn} (h : setOk l = true) : Norm l := ⟨fun s hs => (Spn.ok_iff.1 ((setOk_iff.1 h).1 s hs)).2.1, (setOk_iff.1 h).2.1⟩
theorem apart_iff {l : List Spn} (h : ∀ s ∈ l, s.ok = true) : (l.Pairwise fun a b => a.til < b.frm) ↔ ∀ i (hi : i + 1 < l.length), l[i].til < l[i + 1].frm := by
  rw [List.pairwise_iff_getElem]
  constructor
  · intro h1 i hi
    exact h1 i (i + 1) (by omega) hi (by omega)
  · intro h1 i j hi hj hij
    obtain ⟨d, rfl⟩ : ∃ d, j = i + 1 + d := ⟨j - (i + 1), by omega⟩
    clear hij
    induction d with
    | zero => exact h1 i hj
    | succ d ih =>
      have h2 := ih (by omega)
      have h3 := h1 (i + 1 + d) (by omega)
      have h4 := (Spn.ok_iff.1 (h _ (List.getElem_mem (show i + 1 + d < l.length by omega)))).2.1
      have e : i + 1 + (d + 1) = i + 1 + d + 1 := by omega
      simp only [e]
      omega
/-- A list of all pieces below a number. -/
structure CInv (f : Bool → Bool → Bool) (a b out : List Spn) (t : Int) : Prop where
  norm : Norm out
  low : ∀ s ∈ out, 0 ≤ s.frm ∧ s.til ≤ t
  has_ : ∀ n, has out n = (decide (n < t) && f (has a n) (has b n))
def IsComb (f : Bool → Bool → Bool) (a b r : List Spn) : Prop := Norm r ∧ (∀ s ∈ r, 0 ≤ s.frm ∧ s.til ≤ 1000000000) ∧ ∀ n, has r n = f (has a n) (has b n)
theorem IsComb.eq {f : Bool → Bool → Bool} {a b r r' : List Spn} (h : IsComb f a b r) (h' : IsComb f a b r') : r = r' := norm_eq h.1 h'.1 fun n => (h.2.2 n).trans (h'.2.2 n).symm
theorem cinv_start {f : Bool → Bool → Bool} {a b : List Spn} (hf : f false false = false) (ha : ∀ s ∈ a, 0 ≤ s.frm) (hb : ∀ s ∈ b, 0 ≤ s.frm) : CInv f a b [] 0 := by
  refine ⟨Norm.nil, by simp, fun n => ?_⟩
  rw [has_nil]
  by_cases hn : n < 0
  · have h1 : has a n = false := has_no.2 fun s hs => .inl (by have := ha s hs; omega)
    have h2 : has b n = false := has_no.2 fun s hs => .inl (by have := hb s hs; omega)
    rw [h1, h2, hf, Bool.and_false]
  · rw [decide_eq_false hn, Bool.false_and]
/-- One more piece. -/
def mstep (out : List Spn) (t u : Int) : List Spn :=
  match out.getLast? with
  | some s => if s.til = t then out.dropLast ++ [⟨s.frm, u⟩] else out ++ [⟨t, u⟩]
  | none => out ++ [⟨t, u⟩]
theorem mstep_nil (t u : Int) : mstep [] t u = [⟨t, u⟩] := rfl
theorem mstep_join {out : List Spn} {s : Spn} {t u : Int} (h : s.til = t) : mstep (out ++ [s]) t u = out ++ [⟨s.frm, u⟩] := by
  unfold mstep; simp [h]
theorem mstep_new {out : List Spn} {s : Spn} {t u : Int} (h : s.til ≠ t) : mstep (out ++ [s]) t u = out ++ [s] ++ [⟨t, u⟩] := by
  unfold mstep; simp [h]
theorem split_last {α : Type} (l : List α) : l = [] ∨ ∃ l' x, l = l' ++ [x] := by
  rcases List.eq_nil_or_concat l with h | ⟨l', x, h⟩
  · exact .inl h
  · exact .inr ⟨l', x, by rw [h, List.concat_eq_append]⟩
theorem mstep_len (out : List Spn) (t u : Int) : (mstep out t u).length ≤ out.length + 1 := by
  rcases split_last out with rfl | ⟨o, s, rfl⟩
  · simp [mstep_nil]
  · by_cases h : s.til = t
    · rw [mstep_join h]; simp
    · rw [mstep_new h]; simp
theorem norm_snoc {out : List Spn} {s : Spn} (h : Norm out) (hs : s.frm < s.til) (hl : ∀ x ∈ out, x.til < s.frm) : Norm (out ++ [s]) := by
  refine ⟨fun x hx => ?_, List.pairwise_append.2 ⟨h.apart, List.pairwise_singleton _ _, fun x hx y hy => ?_⟩⟩
  · rcases List.mem_append.1 hx with hx | hx
    · exact h.pos x hx
    · simp at hx; rw [hx]; exact hs
  · simp at hy; rw [hy]; exact hl x hx
theorem norm_init {out : List Spn} {s : Spn} (h : Norm (out ++ [s])) : Norm out ∧ s.frm < s.til ∧ ∀ x ∈ out, x.til < s.frm := by
  obtain ⟨h1, _, h3⟩ := List.pairwise_append.1 h.apart
  exact ⟨⟨fun x hx => h.pos x (by simp [hx]), h1⟩, h.pos s (by simp), fun x hx => h3 x hx s (by simp)⟩
theorem cinv_skip {f : Bool → Bool → Bool} {a b out : List Spn} {t u : Int} (h : CInv f a b out t) (htu : t < u) (hp : ∀ n, t ≤ n → n < u → f (has a n) (has b n) = false) : CInv f a b out u := by
  refine ⟨h.norm, fun s hs => ⟨(h.low s hs).1, by have := (h.low s hs).2; omega⟩, fun n => ?_⟩
  rw [h.has_]
  by_cases h1 : n < t
  · rw [decide_eq_true h1, decide_eq_true (show n < u by omega)]
  · by_cases h2 : n < u
    · rw [hp n (by omega) h2, Bool.and_false, Bool.and_false]
    · rw [decide_eq_false h1, decide_eq_false h2]
theorem cinv_step {f : Bool → Bool → Bool} {a b out : List Spn} {t u : Int} (h : CInv f a b out t) (h0 : 0 ≤ t) (htu : t < u) (hp : ∀ n, t ≤ n → n < u → f (has a n) (has b n) = true) : CInv f a b (mstep out t u) u := by
  have key : ∀ n, (has out n || decide (t ≤ n ∧ n < u)) = (decide (n < u) && f (has a n) (has b n)) := by
    intro n
    rw [h.has_]
    by_cases h1 : n < t
    · rw [decide_eq_true h1, decide_eq_true (show n < u by omega), decide_eq_false (show ¬ (t ≤ n ∧ n < u) by omega), Bool.or_false]
    · by_cases h2 : n < u
      · rw [hp n (by omega) h2, decide_eq_true (show t ≤ n ∧ n < u by omega), decide_eq_true h2]; simp
      · rw [decide_eq_false h1, decide_eq_false h2, decide_eq_false (show ¬ (t ≤ n ∧ n < u) by omega)]; simp
  rcases split_last out with rfl | ⟨o, s, rfl⟩
  · rw [mstep_nil]
    refine ⟨⟨by simp; exact htu, List.pairwise_singleton _ _⟩, by simp; exact h0, fun n => ?_⟩
    rw [← key, has_cons, has_nil, Bool.or_false, Bool.false_or]
    rfl
  · obtain ⟨n1, n2, n3⟩ := norm_init h.norm
    have hl := h.low s (by simp)
    by_cases hs : s.til = t
    · rw [mstep_join hs]
      refine ⟨norm_snoc n1 (by simp only; omega) n3, fun x hx => ?_, fun n => ?_⟩
      · rcases List.mem_append.1 hx with hx | hx
        · have := h.low x (by simp [hx]); omega
        · simp at hx; rw [hx]; exact ⟨hl.1, Int.le_refl _⟩
      · rw [← key, has_append, has_append, has_cons, has_cons, has_nil, Bool.or_false, Bool.or_false, Bool.or_assoc]
        congr 1
        unfold inS
        rw [Bool.eq_iff_iff, Bool.or_eq_true, decide_eq_true_eq, decide_eq_true_eq, decide_eq_true_eq]
        simp only
        omega
    · rw [mstep_new hs]
      refine ⟨norm_snoc h.norm (by simp only; omega) (fun x hx => ?_), fun x hx => ?_, fun n => ?_⟩
      · rcases List.mem_append.1 hx with hx | hx
        · have := n3 x hx; simp only; omega
        · simp at hx; rw [hx]; simp only; omega
      · rcases List.mem_append.1 hx with hx | hx
        · have := h.low x hx; omega
        · simp at hx; rw [hx]; exact ⟨h0, Int.le_refl _⟩
      · rw [← key, has_append, has_cons, has_nil, Bool.or_false]
        rfl
theorem cinv_end {f : Bool → Bool → Bool} {a b out : List Spn} {t : Int} (h : CInv f a b out t) (hf : f false false = false) (ht : t ≤ 1000000000) (hp : ∀ n, t ≤ n → has a n = false ∧ has b n = false) : IsComb f a b out := by
  refine ⟨h.norm, fun s hs => ⟨(h.low s hs).1, by have := (h.low s hs).2; omega⟩, fun n => ?_⟩
  rw [h.has_]
  by_cases h1 : n < t
  · rw [decide_eq_true h1, Bool.true_and]
  · obtain ⟨h2, h3⟩ := hp n (by omega)
    rw [decide_eq_false h1, h2, h3, hf, Bool.false_and]
theorem comb_set {f : Bool → Bool → Bool} {a b r : List Spn} (h : IsComb f a b r) (hl : r.length ≤ 1000) : setOk r = true :=
  setOk_iff.2 ⟨fun s hs => Spn.ok_iff.2 ⟨(h.2.1 s hs).1, h.1.pos s hs, (h.2.1 s hs).2⟩, h.1.apart, hl⟩
end Go.Proofs.Ytphapnooonjnmaa
