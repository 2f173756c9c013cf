/-
  Spans: plain Lean: the pieces between sorted ends.
-/
import Derived.Test.YtphapnooonjnmaaSpW5
namespace Go.Proofs.Ytphapnooonjnmaa
set_option linter.unusedSimpArgs false
set_option linter.unusedVariables false
abbrev Piece := Spn × Bool × Bool
def inStep (x : E3) (pq : Bool × Bool) : Bool × Bool := if x.2.1 = 0 then (decide (0 < x.2.2), pq.2) else (pq.1, decide (0 < x.2.2))
def runStep (st : List Piece × Int × (Bool × Bool)) (x : E3) : List Piece × Int × (Bool × Bool) := (st.1 ++ (if st.2.1 < x.1 then [(⟨st.2.1, x.1⟩, st.2.2.1, st.2.2.2)] else []), x.1, inStep x st.2.2)
def runS (l : List E3) : List Piece × Int × (Bool × Bool) := l.foldl runStep ([], 0, (false, false))
theorem runS_snoc (l : List E3) (x : E3) : runS (l ++ [x]) = runStep (runS l) x := by unfold runS; rw [List.foldl_append]; rfl
def combP (f : Bool → Bool → Bool) (ps : List Piece) : List Spn := ps.foldl (fun out x => if f x.2.1 x.2.2 = true then mstep out x.1.frm x.1.til else out) []
theorem combP_snoc (f : Bool → Bool → Bool) (ps : List Piece) (x : Piece) : combP f (ps ++ [x]) = if f x.2.1 x.2.2 = true then mstep (combP f ps) x.1.frm x.1.til else combP f ps := by
  unfold combP; rw [List.foldl_append]; rfl
theorem combP_len (f : Bool → Bool → Bool) (ps : List Piece) : (combP f ps).length ≤ ps.length := by
  rcases split_last ps with rfl | ⟨qs, x, rfl⟩
  · simp [combP]
  · rw [combP_snoc, List.length_append]
    have := combP_len f qs
    have := mstep_len (combP f qs) x.1.frm x.1.til
    split <;> simp <;> omega
termination_by ps.length
decreasing_by simp_all
theorem runS_len (l : List E3) : (runS l).1.length ≤ l.length := by
  rcases split_last l with rfl | ⟨m, x, rfl⟩
  · simp [runS]
  · rw [runS_snoc, List.length_append]
    have := runS_len m
    simp only [runStep, List.length_append]
    split <;> simp <;> omega
termination_by l.length
decreasing_by simp_all
def lastOn (l : List E3) : Bool := match l.getLast? with | none => false | some e => decide (0 < e.2.2)
theorem lastOn_nil : lastOn [] = false := rfl
theorem lastOn_snoc (l : List E3) (e : E3) : lastOn (l ++ [e]) = decide (0 < e.2.2) := by unfold lastOn; simp
theorem lastOn_off {l m : List E3} {e : E3} (he : ¬ 0 < e.2.2) : lastOn (l ++ [e] ++ m) = lastOn m := by
  rcases split_last m with rfl | ⟨m', x, rfl⟩
  · rw [List.append_nil, lastOn_snoc, lastOn_nil, decide_eq_false he]
  · rw [← List.append_assoc, lastOn_snoc, lastOn_snoc]
def of0 (l : List E3) : List E3 := l.filter fun x => decide (x.2.1 = 0)
def of1 (l : List E3) : List E3 := l.filter fun x => decide (x.2.1 ≠ 0)
theorem runS_on (l : List E3) : (runS l).2.2 = (lastOn (of0 l), lastOn (of1 l)) := by
  rcases split_last l with rfl | ⟨m, x, rfl⟩
  · rfl
  · have ih := runS_on m
    rw [runS_snoc]
    show inStep x (runS m).2.2 = _
    rw [ih]
    unfold inStep of0 of1
    rw [List.filter_append, List.filter_append]
    by_cases h : x.2.1 = 0
    · have e1 : [x].filter (fun x => decide (x.2.1 = 0)) = [x] := by simp [h]
      have e2 : [x].filter (fun x => decide (x.2.1 ≠ 0)) = [] := by simp [h]
      rw [if_pos h, e1, e2, lastOn_snoc, List.append_nil]
    · have e1 : [x].filter (fun x => decide (x.2.1 = 0)) = [] := by simp [h]
      have e2 : [x].filter (fun x => decide (x.2.1 ≠ 0)) = [x] := by simp [h]
      rw [if_neg h, e1, e2, lastOn_snoc, List.append_nil]
termination_by l.length
decreasing_by simp_all
theorem endsOf_cons (s : Spn) (l : List Spn) (k : Int) : endsOf (s :: l) k = [(s.frm, k, 1)] ++ [(s.til, k, -1)] ++ endsOf l k := rfl
theorem endsOf_mem {l : List Spn} {k : Int} {e : E3} (h : e ∈ endsOf l k) : ∃ s ∈ l, e = (s.frm, k, 1) ∨ e = (s.til, k, -1) := by
  unfold endsOf at h
  obtain ⟨s, hs, h⟩ := List.mem_flatMap.1 h
  exact ⟨s, hs, by simpa using h⟩
theorem ends_in {l : List Spn} {k : Int} {s : Spn} (h : s ∈ l) : (s.frm, k, 1) ∈ endsOf l k ∧ (s.til, k, -1) ∈ endsOf l k := by
  unfold endsOf
  rw [List.mem_flatMap, List.mem_flatMap]
  exact ⟨⟨s, h, by simp⟩, ⟨s, h, by simp⟩⟩
theorem ends_has {k n : Int} : ∀ {l : List Spn}, Norm l → lastOn ((endsOf l k).filter fun e => decide (e.1 ≤ n)) = has l n
  | [], _ => rfl
  | s :: l, h => by
    have ih := ends_has (k := k) (n := n) h.tail
    have hp := h.pos s (by simp)
    have hh : ∀ e ∈ endsOf l k, s.til < e.1 := by
      intro e he
      obtain ⟨u, hu, he⟩ := endsOf_mem he
      have h1 := h.head u hu
      have h2 := h.tail.pos u hu
      rcases he with rfl | rfl
      · exact h1
      · simp only; omega
    rw [endsOf_cons, List.filter_append, List.filter_append, has_cons]
    by_cases h1 : s.frm ≤ n
    · have e1 : [((s.frm, k, 1) : E3)].filter (fun e => decide (e.1 ≤ n)) = [(s.frm, k, 1)] := by simp [h1]
      by_cases h2 : s.til ≤ n
      · have e2 : [((s.til, k, -1) : E3)].filter (fun e => decide (e.1 ≤ n)) = [(s.til, k, -1)] := by simp [h2]
        rw [e1, e2, lastOn_off (by simp), ih, inS_no.2 (.inr h2), Bool.false_or]
      · have e2 : [((s.til, k, -1) : E3)].filter (fun e => decide (e.1 ≤ n)) = [] := by simp [h2]
        have e3 : (endsOf l k).filter (fun e => decide (e.1 ≤ n)) = [] := List.filter_eq_nil_iff.2 fun e he => by
          have := hh e he
          simp
          omega
        rw [e1, e2, e3, inS_iff.2 ⟨h1, by omega⟩, Bool.true_or]
        rfl
    · have e1 : [((s.frm, k, 1) : E3)].filter (fun e => decide (e.1 ≤ n)) = [] := by simp [h1]
      have e2 : [((s.til, k, -1) : E3)].filter (fun e => decide (e.1 ≤ n)) = [] := by simp; omega
      have e3 : (endsOf l k).filter (fun e => decide (e.1 ≤ n)) = [] := List.filter_eq_nil_iff.2 fun e he => by
        have := hh e he
        simp
        omega
      rw [e1, e2, e3, inS_no.2 (.inl (by omega)), h.far (by omega)]
      rfl
theorem ends_rise {k : Int} : ∀ {l : List Spn}, Norm l → (endsOf l k).Pairwise fun x y => x.1 < y.1
  | [], _ => List.Pairwise.nil
  | s :: l, h => by
    have hp := h.pos s (by simp)
    have hh : ∀ e ∈ endsOf l k, s.til < e.1 := by
      intro e he
      obtain ⟨u, hu, he⟩ := endsOf_mem he
      have h1 := h.head u hu
      have h2 := h.tail.pos u hu
      rcases he with rfl | rfl
      · exact h1
      · simp only; omega
    rw [endsOf_cons]
    refine List.pairwise_append.2 ⟨?_, ends_rise h.tail, fun x hx y hy => ?_⟩
    · simp; exact hp
    · have := hh y hy
      simp at hx
      rcases hx with rfl | rfl
      · simp only; omega
      · exact this
/-- Sorted by place, and as the ends of a set: the very list. -/
theorem ends_eq {k : Int} {l : List Spn} {d : List E3} (h : Norm l) (hp : d.Perm (endsOf l k)) (hs : d.Pairwise fun x y => x.1 ≤ y.1) : d = endsOf l k := by
  have hr := ends_rise (k := k) h
  refine List.Perm.eq_of_pairwise (le := fun x y : E3 => x.1 ≤ y.1) (fun x y hx hy h1 h2 => ?_) hs (hr.imp fun h => by omega) hp
  obtain ⟨i, hi, rfl⟩ := List.getElem_of_mem (hp.mem_iff.1 hx)
  obtain ⟨j, hj, rfl⟩ := List.getElem_of_mem hy
  have h3 := List.pairwise_iff_getElem.1 hr
  rcases Nat.lt_trichotomy i j with h4 | h4 | h4
  · have := h3 i j hi hj h4; omega
  · subst h4; rfl
  · have := h3 j i hj hi h4; omega
/-- The ends of two sets, sorted. -/
structure SortedEnds (a b : List Spn) (d : List E3) : Prop where
  perm : d.Perm (endsOf a 0 ++ endsOf b 1)
  sorted : d.Pairwise fun x y => x.1 ≤ y.1
theorem SortedEnds.mem {a b : List Spn} {d : List E3} (h : SortedEnds a b d) {e : E3} (he : e ∈ d) : ∃ s ∈ a ++ b, (e.1 = s.frm ∨ e.1 = s.til) ∧ (e.2.1 = 0 ∨ e.2.1 = 1) ∧ (e.2.2 = 1 ∨ e.2.2 = -1) := by
  rcases List.mem_append.1 (h.perm.mem_iff.1 he) with he | he
  all_goals
    obtain ⟨s, hs, rfl | rfl⟩ := endsOf_mem he
    all_goals exact ⟨s, by simp [hs], by simp, by simp, by simp⟩
theorem SortedEnds.zero {a b : List Spn} {d : List E3} (h : SortedEnds a b d) (ha : Norm a) : of0 d = endsOf a 0 := by
  refine ends_eq ha ?_ (h.sorted.filter _)
  have h1 := h.perm.filter fun x => decide (x.2.1 = 0)
  rw [List.filter_append] at h1
  have e1 : (endsOf a 0).filter (fun x => decide (x.2.1 = 0)) = endsOf a 0 := List.filter_eq_self.2 fun e he => by
    obtain ⟨s, _, rfl | rfl⟩ := endsOf_mem he <;> rfl
  have e2 : (endsOf b 1).filter (fun x => decide (x.2.1 = 0)) = [] := List.filter_eq_nil_iff.2 fun e he => by
    obtain ⟨s, _, rfl | rfl⟩ := endsOf_mem he <;> simp
  rw [e1, e2, List.append_nil] at h1
  exact h1
theorem SortedEnds.one {a b : List Spn} {d : List E3} (h : SortedEnds a b d) (hb : Norm b) : of1 d = endsOf b 1 := by
  refine ends_eq hb ?_ (h.sorted.filter _)
  have h1 := h.perm.filter fun x => decide (x.2.1 ≠ 0)
  rw [List.filter_append] at h1
  have e1 : (endsOf a 0).filter (fun x => decide (x.2.1 ≠ 0)) = [] := List.filter_eq_nil_iff.2 fun e he => by
    obtain ⟨s, _, rfl | rfl⟩ := endsOf_mem he <;> simp
  have e2 : (endsOf b 1).filter (fun x => decide (x.2.1 ≠ 0)) = endsOf b 1 := List.filter_eq_self.2 fun e he => by
    obtain ⟨s, _, rfl | rfl⟩ := endsOf_mem he <;> rfl
  rw [e1, e2, List.nil_append] at h1
  exact h1
theorem split_filter {pre suf : List E3} {n : Int} (h1 : ∀ e ∈ pre, e.1 ≤ n) (h2 : ∀ e ∈ suf, n < e.1) (q : E3 → Bool) : ((pre ++ suf).filter q).filter (fun e => decide (e.1 ≤ n)) = pre.filter q := by
  rw [List.filter_append, List.filter_append]
  have e1 : (pre.filter q).filter (fun e => decide (e.1 ≤ n)) = pre.filter q := List.filter_eq_self.2 fun e he => by
    simpa using h1 e (List.mem_filter.1 he).1
  have e2 : (suf.filter q).filter (fun e => decide (e.1 ≤ n)) = [] := List.filter_eq_nil_iff.2 fun e he => by
    have := h2 e (List.mem_filter.1 he).1
    simp
    omega
  rw [e1, e2, List.append_nil]
/-- Between two ends it is known who has a number. -/
theorem SortedEnds.on {a b : List Spn} {pre suf : List E3} (h : SortedEnds a b (pre ++ suf)) (ha : Norm a) (hb : Norm b) {n : Int} (h1 : ∀ e ∈ pre, e.1 ≤ n) (h2 : ∀ e ∈ suf, n < e.1) : (runS pre).2.2 = (has a n, has b n) := by
  have z0 := h.zero ha
  have z1 := h.one hb
  rw [runS_on, ← ends_has (k := 0) ha, ← ends_has (k := 1) hb, ← z0, ← z1]
  unfold of0 of1
  rw [split_filter h1 h2, split_filter h1 h2]
theorem runS_at (pre : List E3) : (pre = [] ∧ (runS pre).2.1 = 0) ∨ ∃ p x, pre = p ++ [x] ∧ (runS pre).2.1 = x.1 := by
  rcases split_last pre with rfl | ⟨p, x, rfl⟩
  · exact .inl ⟨rfl, rfl⟩
  · exact .inr ⟨p, x, rfl, by rw [runS_snoc]; rfl⟩
theorem runS_le {d pre suf : List E3} (hd : d = pre ++ suf) (hs : d.Pairwise fun x y => x.1 ≤ y.1) (h0 : ∀ e ∈ d, 0 ≤ e.1) : (∀ e ∈ pre, e.1 ≤ (runS pre).2.1) ∧ (∀ e ∈ suf, (runS pre).2.1 ≤ e.1) ∧ 0 ≤ (runS pre).2.1 := by
  subst hd
  rcases runS_at pre with ⟨rfl, e⟩ | ⟨p, x, rfl, e⟩
  · rw [e]
    exact ⟨by simp, fun e he => h0 e (by simpa using he), Int.le_refl _⟩
  · rw [e]
    obtain ⟨s1, _, s3⟩ := List.pairwise_append.1 hs
    obtain ⟨_, _, s4⟩ := List.pairwise_append.1 s1
    refine ⟨fun y hy => ?_, fun y hy => s3 x (by simp) y hy, h0 x (by simp)⟩
    rcases List.mem_append.1 hy with hy | hy
    · exact s4 y hy x (by simp)
    · simp at hy; rw [hy]; exact Int.le_refl _
theorem SortedEnds.inv {f : Bool → Bool → Bool} {a b : List Spn} {d : List E3} (h : SortedEnds a b d) (ha : setOk a = true) (hb : setOk b = true) (hf : f false false = false) : ∀ (pre suf : List E3), d = pre ++ suf → CInv f a b (combP f (runS pre).1) (runS pre).2.1 := by
  intro pre
  have hok : ∀ s ∈ a ++ b, s.ok = true := fun s hs => by
    rcases List.mem_append.1 hs with hs | hs
    · exact (setOk_iff.1 ha).1 s hs
    · exact (setOk_iff.1 hb).1 s hs
  have h0 : ∀ e ∈ d, 0 ≤ e.1 := fun e he => by
    obtain ⟨s, hs, h1, _⟩ := h.mem he
    have := Spn.ok_iff.1 (hok s hs)
    omega
  rcases split_last pre with rfl | ⟨p, x, rfl⟩
  · intro suf _
    exact cinv_start hf (fun s hs => (Spn.ok_iff.1 (hok s (by simp [hs]))).1) (fun s hs => (Spn.ok_iff.1 (hok s (by simp [hs]))).1)
  · intro suf hd
    have hd' : d = p ++ ([x] ++ suf) := by rw [hd, List.append_assoc]
    have ih := h.inv ha hb hf p _ hd'
    obtain ⟨l1, l2, l3⟩ := runS_le hd' h.sorted h0
    have hx := l2 x (by simp)
    rw [runS_snoc]
    show CInv f a b (combP f (runStep (runS p) x).1) x.1
    simp only [runStep]
    by_cases hlt : (runS p).2.1 < x.1
    · rw [if_pos hlt, combP_snoc]
      have hon : ∀ n, (runS p).2.1 ≤ n → n < x.1 → has a n = (runS p).2.2.1 ∧ has b n = (runS p).2.2.2 := by
        intro n n1 n2
        have h3 := SortedEnds.on (hd' ▸ h) (setOk_norm ha) (setOk_norm hb) (n := n) (fun e he => by have := l1 e he; omega) (fun e he => by
          obtain ⟨_, _, s3⟩ := List.pairwise_append.1 (hd ▸ h.sorted)
          rcases List.mem_append.1 he with he | he
          · simp at he; rw [he]; exact n2
          · have := s3 x (by simp) e he; omega)
        rw [h3]
        exact ⟨rfl, rfl⟩
      by_cases hfv : f (runS p).2.2.1 (runS p).2.2.2 = true
      · rw [if_pos hfv]
        exact cinv_step ih l3 hlt fun n n1 n2 => by rw [(hon n n1 n2).1, (hon n n1 n2).2]; exact hfv
      · rw [if_neg hfv]
        exact cinv_skip ih hlt fun n n1 n2 => by rw [(hon n n1 n2).1, (hon n n1 n2).2]; simpa using hfv
    · rw [if_neg hlt, List.append_nil]
      have e : (runS p).2.1 = x.1 := by omega
      rw [← e]
      exact ih
termination_by pre => pre.length
decreasing_by simp_all
theorem SortedEnds.comb {f : Bool → Bool → Bool} {a b : List Spn} {d : List E3} (h : SortedEnds a b d) (ha : setOk a = true) (hb : setOk b = true) (hf : f false false = false) : IsComb f a b (combP f (runS d).1) := by
  have hok : ∀ s ∈ a ++ b, s.ok = true := fun s hs => by
    rcases List.mem_append.1 hs with hs | hs
    · exact (setOk_iff.1 ha).1 s hs
    · exact (setOk_iff.1 hb).1 s hs
  have h0 : ∀ e ∈ d, 0 ≤ e.1 ∧ e.1 ≤ 1000000000 := fun e he => by
    obtain ⟨s, hs, h1, _⟩ := h.mem he
    have := Spn.ok_iff.1 (hok s hs)
    omega
  obtain ⟨l1, _, l3⟩ := runS_le (suf := []) (List.append_nil d).symm h.sorted (fun e he => (h0 e he).1)
  refine cinv_end (h.inv ha hb hf d [] (List.append_nil d).symm) hf ?_ fun n hn => ?_
  · rcases runS_at d with ⟨rfl, e⟩ | ⟨p, x, hd, e⟩
    · rw [e]; omega
    · rw [e]; exact (h0 x (by rw [hd]; simp)).2
  · constructor
    · refine has_no.2 fun s hs => .inr ?_
      have := l1 _ (h.perm.mem_iff.2 (List.mem_append.2 (.inl (ends_in hs).2)))
      simp only at this
      omega
    · refine has_no.2 fun s hs => .inr ?_
      have := l1 _ (h.perm.mem_iff.2 (List.mem_append.2 (.inr (ends_in hs).2)))
      simp only at this
      omega
theorem SortedEnds.len {a b : List Spn} {d : List E3} (h : SortedEnds a b d) : d.length = 2 * (a.length + b.length) := by
  rw [h.perm.length_eq, List.length_append, endsOf_len, endsOf_len]
  omega
end Go.Proofs.Ytphapnooonjnmaa
