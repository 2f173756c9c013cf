/-
  Spans: plain Lean: the number that is in most spans.
-/
import Derived.Test.YtcfiiinlidicaaaSpP2
namespace Go.Proofs.Ytcfiiinlidicaaa
set_option linter.unusedSimpArgs false
set_option linter.unusedVariables false
def sumS (l : List E3) : Int := (l.map fun x => x.2.2).sum
theorem sumS_nil : sumS [] = 0 := rfl
theorem sumS_append (a b : List E3) : sumS (a ++ b) = sumS a + sumS b := by unfold sumS; rw [List.map_append, List.sum_append]
theorem sumS_one (x : E3) : sumS [x] = x.2.2 := by simp [sumS]
theorem sumS_perm {a b : List E3} (h : a.Perm b) : sumS a = sumS b := by
  unfold sumS
  induction h with
  | nil => rfl
  | cons x _ ih => simp [ih]
  | swap x y l => simp; omega
  | trans _ _ h1 h2 => exact h1.trans h2
theorem deep_cons (s : Spn) (l : List Spn) (n : Int) : deep (s :: l) n = (if inS s n = true then 1 else 0) + deep l n := by
  unfold deep
  rw [List.filter_cons]
  split <;> simp <;> omega
theorem deep_sum {n : Int} : ∀ {l : List Spn}, (∀ s ∈ l, s.frm < s.til) → sumS ((endsOf l 0).filter fun e => decide (e.1 ≤ n)) = deep l n
  | [], _ => rfl
  | s :: l, h => by
    have hs := h s (by simp)
    rw [endsOf_cons, List.filter_append, List.filter_append, sumS_append, sumS_append, deep_sum (fun x hx => h x (by simp [hx])), deep_cons]
    by_cases h1 : s.frm ≤ n
    · have e1 : [((s.frm, 0, 1) : E3)].filter (fun e => decide (e.1 ≤ n)) = [(s.frm, 0, 1)] := by simp [h1]
      by_cases h2 : s.til ≤ n
      · have e2 : [((s.til, 0, -1) : E3)].filter (fun e => decide (e.1 ≤ n)) = [(s.til, 0, -1)] := by simp [h2]
        rw [e1, e2, sumS_one, sumS_one, if_neg (by rw [inS_iff]; omega)]
        simp
      · have e2 : [((s.til, 0, -1) : E3)].filter (fun e => decide (e.1 ≤ n)) = [] := by simp [h2]
        rw [e1, e2, sumS_one, sumS_nil, if_pos (inS_iff.2 ⟨h1, by omega⟩)]
        simp
    · have e1 : [((s.frm, 0, 1) : E3)].filter (fun e => decide (e.1 ≤ n)) = [] := by simp [h1]
      have e2 : [((s.til, 0, -1) : E3)].filter (fun e => decide (e.1 ≤ n)) = [] := by simp; omega
      rw [e1, e2, sumS_nil, if_neg (by rw [inS_iff]; omega)]
      simp
def IsMost (l : List Spn) (at_ many : Int) : Prop := (l = [] ∧ at_ = 0 ∧ many = 0) ∨ (l ≠ [] ∧ 1 ≤ many ∧ deep l at_ = many ∧ ∀ n, deep l n ≤ many ∧ (deep l n = many → at_ ≤ n))
theorem IsMost.eq {l : List Spn} {a m a' m' : Int} (h : IsMost l a m) (h' : IsMost l a' m') : a = a' ∧ m = m' := by
  rcases h with ⟨e, h1, h2⟩ | ⟨e, h0, h1, h2⟩ <;> rcases h' with ⟨e', h1', h2'⟩ | ⟨e', h0', h1', h2'⟩
  · omega
  · exact absurd e e'
  · exact absurd e' e
  · have a1 := (h2 a').1
    have a2 := (h2' a).1
    have em : m = m' := by omega
    subst em
    have b1 := (h2 a').2 h1'
    have b2 := (h2' a).2 h1
    omega
def mStep (st : Int × Int × Int) (x : E3) : Int × Int × Int := if st.2.2 < st.1 + x.2.2 then (st.1 + x.2.2, x.1, st.1 + x.2.2) else (st.1 + x.2.2, st.2.1, st.2.2)
def mostS (l : List E3) : Int × Int × Int := l.foldl mStep (0, 0, 0)
theorem mostS_snoc (l : List E3) (x : E3) : mostS (l ++ [x]) = mStep (mostS l) x := by unfold mostS; rw [List.foldl_append]; rfl
theorem prefix_snoc {α : Type} {p l : List α} {x : α} (h : p <+: l ++ [x]) : p <+: l ∨ p = l ++ [x] := by
  rw [List.prefix_concat_iff] at h
  exact h.symm
structure MInv (pre : List E3) (st : Int × Int × Int) : Prop where
  dp : st.1 = sumS pre
  top : ∀ p, p <+: pre → sumS p ≤ st.2.2
  first : (st.2.1 = 0 ∧ st.2.2 = 0) ∨ ∃ p x r, pre = p ++ [x] ++ r ∧ x.1 = st.2.1 ∧ sumS (p ++ [x]) = st.2.2 ∧ ∀ p', p' <+: p → sumS p' < st.2.2
theorem mInv (l : List E3) : MInv l (mostS l) := by
  rcases split_last l with rfl | ⟨m, x, rfl⟩
  · exact ⟨rfl, fun p hp => by rw [List.prefix_nil.1 hp]; exact Int.le_refl _, .inl ⟨rfl, rfl⟩⟩
  · have ih := mInv m
    rw [mostS_snoc]
    have hd : (mostS m).1 + x.2.2 = sumS (m ++ [x]) := by rw [sumS_append, sumS_one, ih.dp]
    unfold mStep
    by_cases hlt : (mostS m).2.2 < (mostS m).1 + x.2.2
    · rw [if_pos hlt]
      refine ⟨hd, fun p hp => ?_, .inr ⟨m, x, [], by simp, rfl, hd.symm, fun p hp => ?_⟩⟩
      · rcases prefix_snoc hp with hp | rfl
        · have := ih.top p hp; simp only; omega
        · simp only; omega
      · have := ih.top p hp; simp only; omega
    · rw [if_neg hlt]
      refine ⟨hd, fun p hp => ?_, ?_⟩
      · rcases prefix_snoc hp with hp | rfl
        · exact ih.top p hp
        · simp only; omega
      · rcases ih.first with h | ⟨p, y, r, h1, h2, h3, h4⟩
        · exact .inl h
        · exact .inr ⟨p, y, r ++ [x], by rw [h1]; simp, h2, h3, h4⟩
termination_by l.length
decreasing_by simp_all
/-- All ends up to a number are the first ones. -/
theorem filter_prefix {n : Int} : ∀ {d : List E3}, (d.Pairwise fun x y => x.1 ≤ y.1) → (d.filter fun e => decide (e.1 ≤ n)) <+: d
  | [], _ => List.prefix_rfl
  | x :: d, h => by
    obtain ⟨h1, h2⟩ := List.pairwise_cons.1 h
    rw [List.filter_cons]
    by_cases hx : x.1 ≤ n
    · rw [if_pos (by simpa using hx)]
      exact List.prefix_cons_inj x |>.2 (filter_prefix h2)
    · rw [if_neg (by simpa using hx)]
      have e : (d.filter fun e => decide (e.1 ≤ n)) = [] := List.filter_eq_nil_iff.2 fun y hy => by
        have := h1 y hy
        simp
        omega
      rw [e]
      exact List.nil_prefix
theorem most_ok {l : List Spn} {d : List E3} (hl : ∀ s ∈ l, s.ok = true) (hp : d.Perm (endsOf l 0)) (hs : d.Pairwise fun x y => x.1 < y.1 ∨ (x.1 = y.1 ∧ x.2.2 ≤ y.2.2)) : IsMost l (mostS d).2.1 (mostS d).2.2 := by
  have hpos : ∀ s ∈ l, s.frm < s.til := fun s h => (Spn.ok_iff.1 (hl s h)).2.1
  have hle : d.Pairwise fun x y => x.1 ≤ y.1 := hs.imp fun h => by omega
  have hdeep : ∀ n, sumS (d.filter fun e => decide (e.1 ≤ n)) = deep l n := fun n => (sumS_perm (hp.filter _)).trans (deep_sum hpos)
  have inv := mInv d
  have htop : ∀ n, deep l n ≤ (mostS d).2.2 := fun n => by rw [← hdeep n]; exact inv.top _ (filter_prefix hle)
  rcases l with _ | ⟨s, l⟩
  · have : d = [] := List.Perm.eq_nil hp
    subst this
    exact .inl ⟨rfl, rfl, rfl⟩
  · have h1 : 1 ≤ (mostS d).2.2 := by
      have h2 := htop s.frm
      rw [deep_cons, if_pos (inS_iff.2 ⟨Int.le_refl _, hpos s (by simp)⟩)] at h2
      have := (deep_bd l s.frm).1
      omega
    refine .inr ⟨by simp, h1, ?_, fun n => ⟨htop n, fun hn => ?_⟩⟩
    all_goals
      rcases inv.first with h | ⟨p, x, r, e1, e2, e3, e4⟩
      · omega
    · have hx : 0 < x.2.2 := by
        have := e4 p List.prefix_rfl
        rw [sumS_append, sumS_one] at e3
        omega
      have hge : (mostS d).2.2 ≤ deep (s :: l) (mostS d).2.1 := by
        rw [← hdeep, ← e2, ← e3, e1, List.filter_append]
        obtain ⟨s1, _, s3⟩ := List.pairwise_append.1 (e1 ▸ hs)
        obtain ⟨_, _, s4⟩ := List.pairwise_append.1 s1
        have f1 : (p ++ [x]).filter (fun e => decide (e.1 ≤ x.1)) = p ++ [x] := List.filter_eq_self.2 fun y hy => by
          rcases List.mem_append.1 hy with hy | hy
          · have := s4 y hy x (by simp); simp; omega
          · simp at hy; rw [hy]; simp
        rw [f1, sumS_append (p ++ [x])]
        have f2 : ∀ q : List E3, (∀ y ∈ q, x.1 < y.1 ∨ (x.1 = y.1 ∧ x.2.2 ≤ y.2.2)) → 0 ≤ sumS (q.filter fun e => decide (e.1 ≤ x.1)) := by
          intro q hq
          induction q with
          | nil => exact Int.le_refl _
          | cons y q ih =>
            have h5 := ih (fun z hz => hq z (by simp [hz]))
            have h6 := hq y (by simp)
            rw [List.filter_cons]
            by_cases h7 : y.1 ≤ x.1
            · rw [if_pos (by simpa using h7)]
              have : sumS (y :: q.filter fun e => decide (e.1 ≤ x.1)) = y.2.2 + sumS (q.filter fun e => decide (e.1 ≤ x.1)) := by simp [sumS]
              omega
            · rw [if_neg (by simpa using h7)]
              exact h5
        have := f2 r (fun y hy => s3 x (by simp) y hy)
        omega
      have := htop (mostS d).2.1
      omega
    · rw [← e2]
      rcases Int.lt_or_le n x.1 with h5 | h5
      · exfalso
        have h6 : (d.filter fun e => decide (e.1 ≤ n)) <+: p := by
          obtain ⟨s1, _, s3⟩ := List.pairwise_append.1 (e1 ▸ hle)
          obtain ⟨s5, _, s4⟩ := List.pairwise_append.1 s1
          have f1 : r.filter (fun e => decide (e.1 ≤ n)) = [] := List.filter_eq_nil_iff.2 fun y hy => by
            have := s3 x (by simp) y hy
            simp
            omega
          have f2 : [x].filter (fun e => decide (e.1 ≤ n)) = [] := List.filter_eq_nil_iff.2 fun y hy => by
            simp at hy
            rw [hy]
            simp
            omega
          rw [e1, List.filter_append, List.filter_append, f1, f2, List.append_nil, List.append_nil]
          exact filter_prefix s5
        have h7 := e4 _ h6
        rw [hdeep] at h7
        omega
      · exact h5
/-- The reference's way: the beginnings alone. -/
theorem deep_first {l : List Spn} {n : Int} (h : 0 < deep l n) : ∃ s ∈ l, s.frm ≤ n ∧ deep l n ≤ deep l s.frm := by
  have key : ∀ q : List Spn, q ≠ [] → ∃ s ∈ q, ∀ t ∈ q, t.frm ≤ s.frm := by
    intro q
    induction q with
    | nil => intro h; exact absurd rfl h
    | cons t q ih =>
      intro _
      by_cases hq : q = []
      · subst hq; exact ⟨t, by simp, by simp⟩
      · obtain ⟨s, hs, hm⟩ := ih hq
        by_cases hts : t.frm ≤ s.frm
        · exact ⟨s, by simp [hs], fun u hu => by rcases List.mem_cons.1 hu with rfl | hu; exact hts; exact hm u hu⟩
        · exact ⟨t, by simp, fun u hu => by
            rcases List.mem_cons.1 hu with rfl | hu
            · exact Int.le_refl _
            · have := hm u hu; omega⟩
  have hne : l.filter (inS · n) ≠ [] := by
    intro e
    unfold deep at h
    rw [e] at h
    simp at h
  obtain ⟨s, hs, hm⟩ := key _ hne
  obtain ⟨h1, h2⟩ := List.mem_filter.1 hs
  obtain ⟨i1, i2⟩ := inS_iff.1 h2
  refine ⟨s, h1, i1, ?_⟩
  unfold deep
  have hsub : ∀ q : List Spn, (∀ t ∈ q, inS t n = true → t.frm ≤ s.frm) → (q.filter (inS · n)).length ≤ (q.filter (inS · s.frm)).length := by
    intro q
    induction q with
    | nil => intro _; exact Nat.le_refl _
    | cons t q ih =>
      intro hq
      have h5 := ih (fun u hu => hq u (by simp [hu]))
      have h6 := hq t (by simp)
      rw [List.filter_cons, List.filter_cons]
      by_cases ht : inS t n = true
      · have h7 := h6 ht
        obtain ⟨j1, j2⟩ := inS_iff.1 ht
        have h8 : inS t s.frm = true := inS_iff.2 ⟨h7, by omega⟩
        rw [if_pos ht, if_pos h8]
        simpa using h5
      · rw [if_neg ht]
        split
        · simp; omega
        · exact h5
  have := hsub l (fun t ht h => hm t (List.mem_filter.2 ⟨ht, h⟩))
  omega
end Go.Proofs.Ytcfiiinlidicaaa
