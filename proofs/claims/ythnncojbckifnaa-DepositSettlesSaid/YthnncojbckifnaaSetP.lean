/-
  A deposit that is posted and settled, in plain Lean.
-/
import Derived.Test.YthnncojbckifnaaDepP
import Derived.Test.YthnncojbckifnaaLedUndoes
namespace Go.Proofs.Ythnncojbckifnaa
set_option linter.unusedSimpArgs false
set_option linter.unusedVariables false
theorem upto_day {ys : List Entry} {d : Int} (h : ∀ e ∈ ys, e.day = d) : upto ys d = ys := upto_le fun e he => Int.le_of_eq (h e he)
theorem bal_more (p : Int → Bool) {l ys : List Entry} {d : Int} (h : ∀ e ∈ ys, e.day = d) : bal p (l ++ ys) d = bal p l d + mvs p ys := by
  rw [bal_append]
  congr 1
  unfold bal
  rw [upto_day h]
theorem begun_more {l ys : List Entry} {d : Int} (hb : begun l d = false) (h : ∀ e ∈ ys, e.day = d) : begun (l ++ ys) d = false := by
  rcases List.eq_nil_or_concat ys with rfl | ⟨zs, z, rfl⟩
  · rw [List.append_nil]; exact hb
  · unfold begun
    have h1 : (l ++ zs.concat z).getLast? = some z := by simp
    rw [h1]
    have := h z (by simp)
    simp [this]
theorem ledOk_more {l ys : List Entry} {d : Int} (hk : ledOk l = true) (hb : begun l d = false) (h : ∀ e ∈ ys, e.day = d) (ho : ∀ e ∈ ys, e.ok = true) (hl : l.length + ys.length ≤ 5000) : ledOk (l ++ ys) = true := by
  obtain ⟨h1, h2, h3⟩ := ledOk_iff.1 hk
  have hdays := begun_days hb h3
  refine ledOk_iff.2 ⟨by rw [List.length_append]; exact hl, fun e he => ?_, ?_⟩
  · rcases List.mem_append.1 he with he | he
    · exact h2 e he
    · exact ho e he
  · unfold Rises
    refine List.pairwise_append.2 ⟨h3, ?_, fun a ha b hb' => ?_⟩
    · refine List.pairwise_iff_getElem.2 fun i j hi hj _ => ?_
      rw [h _ (List.getElem_mem hi), h _ (List.getElem_mem hj)]
      exact Int.le_refl _
    · rw [h b hb']
      exact hdays a ha
theorem postR_ok {l : List Entry} {x : Entry} (hk : ledOk l = true) (hx : x.ok = true) (hb : begun l x.day = false) (hl : l.length < 5000) : postR l x = (l ++ [x], 0) := by
  rcases postR_cases l x with ⟨h1, _⟩ | ⟨_, _, h3, _⟩ | ⟨_, _, _, h4, _⟩ | ⟨_, _, _, _, hr⟩
  · rw [hk, hx] at h1; simp at h1
  · rw [hb] at h3; cases h3
  · omega
  · exact hr
theorem postR_state {l : List Entry} {x : Entry} (hk : ledOk l = true) (hx : x.ok = true) (hb : begun l x.day = true) : postR l x = ([], 6) := by
  rcases postR_cases l x with ⟨h1, _⟩ | ⟨_, _, _, hr⟩ | ⟨_, _, h3, _⟩ | ⟨_, _, h3, _⟩
  · rw [hk, hx] at h1; simp at h1
  · exact hr
  · rw [hb] at h3; cases h3
  · rw [hb] at h3; cases h3
/-- The entry that posts a deposit, and all that settles it. -/
def paidE (b : Bill) (paid d : Int) : Entry := ⟨d, 900, 500 + b.stay % 100, paid, b.stay⟩
theorem entriesL_mem {b : Bill} {x y d : Int} {e : Entry} (h : e ∈ entriesL b x y d) : (0 < y ∧ e = keptE b y d) ∨ (0 < x ∧ e = backE b x d) := by
  unfold entriesL at h
  rcases List.mem_append.1 h with h | h
  · split at h
    · exact .inl ⟨by assumption, by simpa using h⟩
    · cases h
  · split at h
    · exact .inr ⟨by assumption, by simpa using h⟩
    · cases h
theorem entriesL_len (b : Bill) (x y d : Int) : (entriesL b x y d).length ≤ 2 := by
  unfold entriesL
  split <;> split <;> simp
theorem entriesL_pos {b : Bill} {x y d : Int} (h : 0 < x ∨ 0 < y) : 0 < (entriesL b x y d).length := by
  unfold entriesL
  split <;> split <;> simp <;> omega
theorem sets_all {b : Bill} {paid d : Int} (hb : b.ok = true) (hp : 1 ≤ paid) (ha : amt paid = true) (hd0 : 0 ≤ d) (hd1 : d ≤ 366) :
    ∀ e ∈ paidE b paid d :: entriesL b (paid - min paid b.keep) (min paid b.keep) d, e.day = d ∧ e.ok = true ∧ e.ref = b.stay := by
  obtain ⟨_, _, _, ⟨s0, s1⟩, _, ⟨p0, p1⟩, ⟨r0, r1⟩, k0, k1⟩ := Bill.ok_iff.1 hb
  have ga := inB_iff.1 ha
  intro e he
  rcases List.mem_cons.1 he with rfl | he
  · refine ⟨rfl, Entry.ok_iff.2 ?_, rfl⟩
    simp only [paidE]
    omega
  · rcases entriesL_mem he with ⟨h, rfl⟩ | ⟨h, rfl⟩
    · refine ⟨rfl, Entry.ok_iff.2 ?_, rfl⟩
      simp only [keptE]
      omega
    · refine ⟨rfl, Entry.ok_iff.2 ?_, rfl⟩
      simp only [backE]
      omega
theorem sets_moves {b : Bill} {paid d : Int} (hb : b.ok = true) (hp : 1 ≤ paid) (z : Int) (n : Int) (hz : (z = 500 + b.stay % 100 ∧ n = 0) ∨ (z = 900 ∧ n = min paid b.keep) ∨ (z = 300 + b.place ∧ n = -min paid b.keep)) :
    mvs (fun a => a == z) (paidE b paid d :: entriesL b (paid - min paid b.keep) (min paid b.keep) d) = n := by
  obtain ⟨_, _, _, ⟨s0, s1⟩, _, ⟨p0, p1⟩, ⟨r0, r1⟩, k0, k1⟩ := Bill.ok_iff.1 hb
  obtain ⟨st, hst⟩ : ∃ st, b.stay % 100 = st := ⟨_, rfl⟩
  have hs2 : 0 ≤ st ∧ st ≤ 99 := by omega
  unfold entriesL
  rw [mvs_cons, mvs_append]
  have e1 : ∀ (c : Prop) [Decidable c] (e : Entry), mvs (fun a => a == z) (if c then [e] else []) = if c then mv (fun a => a == z) e else 0 := by
    intro c _ e
    split
    · rw [mvs_cons, mvs_nil]; omega
    · rfl
  rw [e1, e1]
  simp only [mv, paidE, keptE, backE, hst, beq_iff_eq]
  rcases hz with ⟨rfl, rfl⟩ | ⟨rfl, rfl⟩ | ⟨rfl, rfl⟩
  all_goals
    repeat' split
    all_goals omega
theorem sets_undone {l ys : List Entry} {d ref : Int} (hk : ledOk (l ++ ys) = true) (hb : begun (l ++ ys) d = false) (hl : (l ++ ys).length ≤ 60) (hr : ∀ e ∈ ys, e.ref = ref) (h1 : inB ref 1 1000000 = true) (h2 : inB d 0 366 = true) :
    (undoR (l ++ ys) ref d = ([], 4) ∧ ∀ p, bal p (l ++ ys) d = bal p (others ref l) d) ∨
      ∃ m, undoR (l ++ ys) ref d = (m, 0) ∧ ledOk m = true ∧ ∀ p, bal p m d = bal p (others ref l) d := by
  have hf : (l ++ ys).filter (fun e => decide (e.ref ≠ ref)) = others ref l := by
    have h0 : ys.filter (fun e => decide (e.ref ≠ ref)) = [] := List.filter_eq_nil_iff.2 (fun e he => by simp [hr e he])
    rw [List.filter_append, h0, List.append_nil]
    rfl
  have hdays := begun_days hb (ledOk_iff.1 hk).2.2
  have hlen := openE_le (l ++ ys) ref
  rcases undoR_cases (l ++ ys) ref d with ⟨h, _⟩ | ⟨_, _, _, h⟩
  · rw [hk, h1, h2] at h; simp at h
  · rcases h with ⟨h, _⟩ | ⟨_, h, hu⟩ | ⟨_, _, h, _⟩ | ⟨_, h, h', hu⟩
    · rw [hb] at h; cases h
    · refine .inl ⟨hu, fun p => ?_⟩
      have := bal_undone p (ref := ref) hdays
      rw [h, hf] at this
      simpa using this
    · omega
    · obtain ⟨g1, _, _, g4, _⟩ := undo_done hk h1 h2 hb h h'
      refine .inr ⟨_, hu, g1, fun p => ?_⟩
      rw [g4 p, hf]
end Go.Proofs.Ythnncojbckifnaa
