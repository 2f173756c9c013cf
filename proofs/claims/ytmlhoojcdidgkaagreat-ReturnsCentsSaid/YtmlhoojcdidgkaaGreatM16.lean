/-
  Texts, one behind the other: UndoP, LedUndoes, SetP, FoQ, FoW2.
-/
import Derived.Test.YtmlhoojcdidgkaaGreatM11
import Derived.Test.YtmlhoojcdidgkaaGreatM15
import Derived.Test.YtmlhoojcdidgkaaGreatM09
import Derived.StillTailTactics
/-
  What an undoing leaves, in plain Lean: no open entry; the balances of the entries of other refs.
-/
namespace Go.Proofs.YtmlhoojcdidgkaaGreat
set_option linter.unusedSimpArgs false
set_option linter.unusedVariables false
theorem mv_undone (p : Int → Bool) (day : Int) (e : Entry) : mv p (undone day e) = -mv p e := by
  show (if p e.credit then e.cents else 0) - (if p e.debit then e.cents else 0) = -((if p e.debit then e.cents else 0) - (if p e.credit then e.cents else 0))
  omega
theorem mvs_undone (p : Int → Bool) (day : Int) : ∀ l : List Entry, mvs p (l.map (undone day)) = -mvs p l
  | [] => rfl
  | e :: l => by rw [List.map_cons, mvs_cons, mvs_cons, mv_undone, mvs_undone p day l]; omega
theorem mv_against (p : Int → Bool) {e x : Entry} (h : against e x = true) : mv p x = -mv p e := by
  unfold against at h
  rw [decide_eq_true_eq] at h
  unfold mv
  rw [h.1, h.2.1, h.2.2.1]
  omega
theorem erase_perm {α : Type} : ∀ (l : List α) (i : Nat) (h : i < l.length), (l[i] :: l.eraseIdx i).Perm l
  | a :: l, 0, _ => List.Perm.refl _
  | a :: l, i + 1, h => by
    have h1 : i < l.length := by simpa using h
    exact (List.Perm.swap a l[i] (l.eraseIdx i)).trans ((erase_perm l i h1).cons a)
theorem mvs_erase (p : Int → Bool) : ∀ (l : List Entry) (i : Nat) (h : i < l.length), mvs p (l.eraseIdx i) = mvs p l - mv p l[i]
  | a :: l, 0, _ => by
    show mvs p l = mvs p (a :: l) - mv p a
    rw [mvs_cons]
    omega
  | a :: l, i + 1, h => by
    have h1 : i < l.length := by simpa using h
    show mvs p (a :: l.eraseIdx i) = mvs p (a :: l) - mv p l[i]
    rw [mvs_cons, mvs_cons, mvs_erase p l i h1]
    omega
theorem mvs_step (p : Int → Bool) (ref : Int) (out : List Entry) (e : Entry) : mvs p (openStep ref out e) = mvs p out + (if e.ref = ref then mv p e else 0) := by
  by_cases h : e.ref = ref
  · rw [if_pos h]
    cases hi : lastIx (against e) out with
    | none =>
      rw [openStep_none h hi, mvs_append, mvs_cons, mvs_nil]
      omega
    | some i =>
      obtain ⟨hlt, hag, _⟩ := lastIx_some hi
      rw [openStep_some h hi, mvs_erase p out i hlt, mv_against p hag]
      omega
  · rw [if_neg h, openStep_other h]
    omega
theorem mvs_fold (p : Int → Bool) (ref : Int) : ∀ (l out : List Entry), mvs p (l.foldl (openStep ref) out) = mvs p out + mvs p (l.filter fun e => decide (e.ref = ref))
  | [], out => by simp [mvs_nil]
  | e :: l, out => by
    rw [List.foldl_cons, mvs_fold p ref l, mvs_step, List.filter_cons]
    by_cases h : e.ref = ref
    · simp [h, mvs_cons]; omega
    · simp [h]
def key (e : Entry) : Int × Int × Int := (e.debit, e.credit, e.cents)
theorem undo_clears (ref day : Int) : ∀ (rem out : List Entry), (out.map key).Perm (rem.map key) → (∀ x ∈ out, x.ref = ref) → (∀ x ∈ rem, x.ref = ref) → (rem.map (undone day)).foldl (openStep ref) out = []
  | [], out, h, _, _ => by
    have : out.map key = [] := List.Perm.eq_nil h
    simpa using this
  | e :: r, out, h, ho, hr => by
    rw [List.map_cons, List.foldl_cons]
    have hk : key e ∈ out.map key := h.mem_iff.2 (by simp)
    obtain ⟨x, hx, hxe⟩ := List.mem_map.1 hk
    have her := hr e (by simp)
    have hag : ∀ y, y ∈ out → (against (undone day e) y = true ↔ key y = key e) := by
      intro y hy
      have hyr := ho y hy
      unfold against undone key
      rw [decide_eq_true_eq, Prod.mk.injEq, Prod.mk.injEq]
      constructor
      · rintro ⟨a, b, c, _⟩; exact ⟨b, a, c⟩
      · rintro ⟨a, b, c⟩; exact ⟨b, a, c, hyr.trans her.symm⟩
    have hst : ∃ j, ∃ hj : j < out.length, openStep ref out (undone day e) = out.eraseIdx j ∧ key out[j] = key e := by
      have h1 : (undone day e).ref = ref := her
      cases hl : lastIx (against (undone day e)) out with
      | none =>
        have := lastIx_none_iff.1 hl x hx
        rw [(hag x hx).2 hxe] at this
        cases this
      | some j =>
        obtain ⟨hj, ha, _⟩ := lastIx_some hl
        exact ⟨j, hj, openStep_some h1 hl, (hag _ (List.getElem_mem hj)).1 ha⟩
    obtain ⟨j, hj, he, hkj⟩ := hst
    rw [he]
    refine undo_clears ref day r _ ?_ (fun y hy => ho y (List.mem_of_mem_eraseIdx hy)) (fun y hy => hr y (by simp [hy]))
    have h2 := ((erase_perm out j hj).map key).trans h
    rw [List.map_cons, List.map_cons, hkj] at h2
    exact h2.cons_inv
theorem openE_undone (l : List Entry) (ref day : Int) : openE (l ++ (openE l ref).map (undone day)) ref = [] := by
  unfold openE
  rw [List.foldl_append]
  exact undo_clears ref day _ _ (List.Perm.refl _) (openE_ref l ref) (openE_ref l ref)
theorem upto_le {l : List Entry} {day : Int} (h : ∀ e ∈ l, e.day ≤ day) : upto l day = l := by
  unfold upto
  exact List.filter_eq_self.2 (fun e he => by simpa using h e he)
theorem bal_undone (p : Int → Bool) {l : List Entry} {ref day : Int} (h : ∀ e ∈ l, e.day ≤ day) :
    bal p (l ++ (openE l ref).map (undone day)) day = bal p (l.filter fun e => decide (e.ref ≠ ref)) day := by
  have h1 : ∀ e ∈ (openE l ref).map (undone day), e.day ≤ day := by
    intro e he
    obtain ⟨x, _, rfl⟩ := List.mem_map.1 he
    exact Int.le_refl _
  unfold bal
  rw [upto_append, upto_le h, upto_le h1, upto_le (fun e he => h e (List.mem_filter.1 he).1), mvs_append, mvs_undone]
  have h2 := mvs_fold p ref l []
  have h3 : mvs p l = mvs p (l.filter fun e => decide (e.ref = ref)) + mvs p (l.filter fun e => decide (e.ref ≠ ref)) := by
    clear h h1 h2
    induction l with
    | nil => rfl
    | cons e l ih =>
      rw [List.filter_cons, List.filter_cons, mvs_cons, ih]
      by_cases he : e.ref = ref <;> simp [he, mvs_cons] <;> omega
  unfold openE
  rw [mvs_nil] at h2
  omega
theorem begun_days {l : List Entry} {day : Int} (h : begun l day = false) (hr : Rises l) : ∀ e ∈ l, e.day ≤ day := by
  intro e he
  obtain ⟨j, hj, rfl⟩ := List.getElem_of_mem he
  rw [begun_at (by omega), decide_eq_false_iff_not] at h
  have h1 : l[j].day ≤ l[l.length - 1].day := by
    rcases Nat.lt_or_ge j (l.length - 1) with h2 | h2
    · exact (List.pairwise_iff_getElem.1 hr) j (l.length - 1) hj (by omega) h2
    · have : j = l.length - 1 := by omega
      subst this
      exact Int.le_refl _
  omega
theorem fold_mem {ref : Int} : ∀ (l out : List Entry), ∀ x ∈ l.foldl (openStep ref) out, x ∈ out ∨ x ∈ l
  | [], out, x, h => .inl h
  | e :: l, out, x, h => by
    rw [List.foldl_cons] at h
    rcases fold_mem l _ x h with h | h
    · unfold openStep at h
      split at h
      · exact .inl h
      · split at h
        · exact .inl (List.mem_of_mem_eraseIdx h)
        · rcases List.mem_append.1 h with h | h
          · exact .inl h
          · exact .inr (by simp at h; simp [h])
    · exact .inr (by simp [h])
theorem openE_mem {l : List Entry} {ref : Int} {x : Entry} (h : x ∈ openE l ref) : x ∈ l := by
  rcases fold_mem l [] x h with h | h
  · cases h
  · exact h
/-- What an undoing that went through leaves. -/
theorem undo_done {l : List Entry} {ref day : Int} (hk : ledOk l = true) (hr : inB ref 1 1000000 = true) (hd : inB day 0 366 = true) (hb : begun l day = false) (ho : openE l ref ≠ []) (hlen : l.length + (openE l ref).length ≤ 5000) :
    let m := l ++ (openE l ref).map (undone day)
    ledOk m = true ∧ undoR m ref day = ([], 4) ∧ (∀ e ∈ l, e.day ≤ day) ∧ (∀ p, bal p m day = bal p (l.filter fun e => decide (e.ref ≠ ref)) day) ∧ (∀ x ∈ (openE l ref).map (undone day), x.ref = ref ∧ x.day = day) := by
  intro m
  obtain ⟨h1, h2, h3⟩ := ledOk_iff.1 hk
  have hdays := begun_days hb h3
  have hnew : ∀ x ∈ (openE l ref).map (undone day), x.ref = ref ∧ x.day = day := by
    intro x hx
    obtain ⟨y, hy, rfl⟩ := List.mem_map.1 hx
    exact ⟨openE_ref l ref y hy, rfl⟩
  have hm : ledOk m = true := by
    refine ledOk_iff.2 ⟨by simp [m]; omega, fun e he => ?_, ?_⟩
    · rcases List.mem_append.1 he with he | he
      · exact h2 e he
      · obtain ⟨y, hy, rfl⟩ := List.mem_map.1 he
        obtain ⟨_, y2, y3, y4, y5, y6⟩ := Entry.ok_iff.1 (h2 y (openE_mem hy))
        exact Entry.ok_iff.2 ⟨inB_iff.1 hd, y3, y2, fun e => y4 e.symm, y5, y6⟩
    · unfold Rises
      refine List.pairwise_append.2 ⟨h3, ?_, fun a ha b hb' => ?_⟩
      · refine List.pairwise_iff_getElem.2 fun i j hi hj _ => ?_
        rw [(hnew _ (List.getElem_mem hi)).2, (hnew _ (List.getElem_mem hj)).2]
        exact Int.le_refl _
      · rw [(hnew b hb').2]
        exact hdays a ha
  have hlast : begun m day = false := by
    have hpos : 0 < m.length := by
      have : 0 < (openE l ref).length := List.length_pos_iff.2 ho
      simp [m]; omega
    rw [begun_at hpos, decide_eq_false_iff_not]
    have : m[m.length - 1] ∈ m := List.getElem_mem _
    rcases List.mem_append.1 this with h | h
    · have := hdays _ h; omega
    · have := (hnew _ h).2; omega
  refine ⟨hm, ?_, hdays, fun p => bal_undone p hdays, hnew⟩
  unfold undoR
  rw [hm, hr, hd, hlast, openE_undone]
  rfl
end Go.Proofs.YtmlhoojcdidgkaaGreat

/-
  The law 'LedgerUndoes': the walk.
-/
namespace Go.Proofs.YtmlhoojcdidgkaaGreat
set_option linter.unusedSimpArgs false
set_option linter.unusedVariables false
open Go.RowKit
open Go.Sort (grow size_grow)

set_option maxHeartbeats 4000000
set_option maxRecDepth 100000
def others (ref : Int) (l : List Entry) : List Entry := l.filter fun e => decide (e.ref ≠ ref)
theorem others_step {l : List Entry} {ref : Int} {j : Nat} (h : j < l.length) : others ref (l.take (j + 1)) = if l[j].ref = ref then others ref (l.take j) else others ref (l.take j) ++ [l[j]] := by
  unfold others
  rw [List.take_succ_eq_append_getElem h, List.filter_append]
  by_cases hd : l[j].ref = ref
  · rw [if_pos hd]; simp [hd]
  · rw [if_neg hd]; simp [hd]
end Go.Proofs.YtmlhoojcdidgkaaGreat

/-
  A deposit that is posted and settled, in plain Lean.
-/
namespace Go.Proofs.YtmlhoojcdidgkaaGreat
set_option linter.unusedSimpArgs false
set_option linter.unusedVariables false
theorem upto_day {ys : List Entry} {d : Int} (h : ∀ e ∈ ys, e.day = d) : upto ys d = ys := upto_le fun e he => Int.le_of_eq (h e he)
theorem bal_more (p : Int → Bool) {l ys : List Entry} {d : Int} (h : ∀ e ∈ ys, e.day = d) : bal p (l ++ ys) d = bal p l d + mvs p ys := by
  rw [bal_append]
  congr 1
  unfold bal
  rw [upto_day h]
theorem begun_more {l ys : List Entry} {d : Int} (hb : begun l d = false) (h : ∀ e ∈ ys, e.day = d) : begun (l ++ ys) d = false := by
  rcases List.eq_nil_or_concat ys with rfl | ⟨zs, z, rfl⟩
  · rw [List.append_nil]; exact hb
  · unfold begun
    have h1 : (l ++ zs.concat z).getLast? = some z := by simp
    rw [h1]
    have := h z (by simp)
    simp [this]
theorem ledOk_more {l ys : List Entry} {d : Int} (hk : ledOk l = true) (hb : begun l d = false) (h : ∀ e ∈ ys, e.day = d) (ho : ∀ e ∈ ys, e.ok = true) (hl : l.length + ys.length ≤ 5000) : ledOk (l ++ ys) = true := by
  obtain ⟨h1, h2, h3⟩ := ledOk_iff.1 hk
  have hdays := begun_days hb h3
  refine ledOk_iff.2 ⟨by rw [List.length_append]; exact hl, fun e he => ?_, ?_⟩
  · rcases List.mem_append.1 he with he | he
    · exact h2 e he
    · exact ho e he
  · unfold Rises
    refine List.pairwise_append.2 ⟨h3, ?_, fun a ha b hb' => ?_⟩
    · refine List.pairwise_iff_getElem.2 fun i j hi hj _ => ?_
      rw [h _ (List.getElem_mem hi), h _ (List.getElem_mem hj)]
      exact Int.le_refl _
    · rw [h b hb']
      exact hdays a ha
theorem postR_ok {l : List Entry} {x : Entry} (hk : ledOk l = true) (hx : x.ok = true) (hb : begun l x.day = false) (hl : l.length < 5000) : postR l x = (l ++ [x], 0) := by
  rcases postR_cases l x with ⟨h1, _⟩ | ⟨_, _, h3, _⟩ | ⟨_, _, _, h4, _⟩ | ⟨_, _, _, _, hr⟩
  · rw [hk, hx] at h1; simp at h1
  · rw [hb] at h3; cases h3
  · omega
  · exact hr
theorem postR_state {l : List Entry} {x : Entry} (hk : ledOk l = true) (hx : x.ok = true) (hb : begun l x.day = true) : postR l x = ([], 6) := by
  rcases postR_cases l x with ⟨h1, _⟩ | ⟨_, _, _, hr⟩ | ⟨_, _, h3, _⟩ | ⟨_, _, h3, _⟩
  · rw [hk, hx] at h1; simp at h1
  · exact hr
  · rw [hb] at h3; cases h3
  · rw [hb] at h3; cases h3
/-- The entry that posts a deposit, and all that settles it. -/
def paidE (b : Bill) (paid d : Int) : Entry := ⟨d, 900, 500 + b.stay % 100, paid, b.stay⟩
theorem entriesL_mem {b : Bill} {x y d : Int} {e : Entry} (h : e ∈ entriesL b x y d) : (0 < y ∧ e = keptE b y d) ∨ (0 < x ∧ e = backE b x d) := by
  unfold entriesL at h
  rcases List.mem_append.1 h with h | h
  · split at h
    · exact .inl ⟨by assumption, by simpa using h⟩
    · cases h
  · split at h
    · exact .inr ⟨by assumption, by simpa using h⟩
    · cases h
theorem entriesL_len (b : Bill) (x y d : Int) : (entriesL b x y d).length ≤ 2 := by
  unfold entriesL
  split <;> split <;> simp
theorem entriesL_pos {b : Bill} {x y d : Int} (h : 0 < x ∨ 0 < y) : 0 < (entriesL b x y d).length := by
  unfold entriesL
  split <;> split <;> simp <;> omega
theorem sets_all {b : Bill} {paid d : Int} (hb : b.ok = true) (hp : 1 ≤ paid) (ha : amt paid = true) (hd0 : 0 ≤ d) (hd1 : d ≤ 366) :
    ∀ e ∈ paidE b paid d :: entriesL b (paid - min paid b.keep) (min paid b.keep) d, e.day = d ∧ e.ok = true ∧ e.ref = b.stay := by
  obtain ⟨_, _, _, ⟨s0, s1⟩, _, ⟨p0, p1⟩, ⟨r0, r1⟩, k0, k1⟩ := Bill.ok_iff.1 hb
  have ga := inB_iff.1 ha
  intro e he
  rcases List.mem_cons.1 he with rfl | he
  · refine ⟨rfl, Entry.ok_iff.2 ?_, rfl⟩
    simp only [paidE]
    omega
  · rcases entriesL_mem he with ⟨h, rfl⟩ | ⟨h, rfl⟩
    · refine ⟨rfl, Entry.ok_iff.2 ?_, rfl⟩
      simp only [keptE]
      omega
    · refine ⟨rfl, Entry.ok_iff.2 ?_, rfl⟩
      simp only [backE]
      omega
theorem sets_moves {b : Bill} {paid d : Int} (hb : b.ok = true) (hp : 1 ≤ paid) (z : Int) (n : Int) (hz : (z = 500 + b.stay % 100 ∧ n = 0) ∨ (z = 900 ∧ n = min paid b.keep) ∨ (z = 300 + b.place ∧ n = -min paid b.keep)) :
    mvs (fun a => a == z) (paidE b paid d :: entriesL b (paid - min paid b.keep) (min paid b.keep) d) = n := by
  obtain ⟨_, _, _, ⟨s0, s1⟩, _, ⟨p0, p1⟩, ⟨r0, r1⟩, k0, k1⟩ := Bill.ok_iff.1 hb
  obtain ⟨st, hst⟩ : ∃ st, b.stay % 100 = st := ⟨_, rfl⟩
  have hs2 : 0 ≤ st ∧ st ≤ 99 := by omega
  unfold entriesL
  rw [mvs_cons, mvs_append]
  have e1 : ∀ (c : Prop) [Decidable c] (e : Entry), mvs (fun a => a == z) (if c then [e] else []) = if c then mv (fun a => a == z) e else 0 := by
    intro c _ e
    split
    · rw [mvs_cons, mvs_nil]; omega
    · rfl
  rw [e1, e1]
  simp only [mv, paidE, keptE, backE, hst, beq_iff_eq]
  rcases hz with ⟨rfl, rfl⟩ | ⟨rfl, rfl⟩ | ⟨rfl, rfl⟩
  all_goals
    repeat' split
    all_goals omega
theorem sets_undone {l ys : List Entry} {d ref : Int} (hk : ledOk (l ++ ys) = true) (hb : begun (l ++ ys) d = false) (hl : (l ++ ys).length ≤ 60) (hr : ∀ e ∈ ys, e.ref = ref) (h1 : inB ref 1 1000000 = true) (h2 : inB d 0 366 = true) :
    (undoR (l ++ ys) ref d = ([], 4) ∧ ∀ p, bal p (l ++ ys) d = bal p (others ref l) d) ∨
      ∃ m, undoR (l ++ ys) ref d = (m, 0) ∧ ledOk m = true ∧ ∀ p, bal p m d = bal p (others ref l) d := by
  have hf : (l ++ ys).filter (fun e => decide (e.ref ≠ ref)) = others ref l := by
    have h0 : ys.filter (fun e => decide (e.ref ≠ ref)) = [] := List.filter_eq_nil_iff.2 (fun e he => by simp [hr e he])
    rw [List.filter_append, h0, List.append_nil]
    rfl
  have hdays := begun_days hb (ledOk_iff.1 hk).2.2
  have hlen := openE_le (l ++ ys) ref
  rcases undoR_cases (l ++ ys) ref d with ⟨h, _⟩ | ⟨_, _, _, h⟩
  · rw [hk, h1, h2] at h; simp at h
  · rcases h with ⟨h, _⟩ | ⟨_, h, hu⟩ | ⟨_, _, h, _⟩ | ⟨_, h, h', hu⟩
    · rw [hb] at h; cases h
    · refine .inl ⟨hu, fun p => ?_⟩
      have := bal_undone p (ref := ref) hdays
      rw [h, hf] at this
      simpa using this
    · omega
    · obtain ⟨g1, _, _, g4, _⟩ := undo_done hk h1 h2 hb h h'
      refine .inr ⟨_, hu, g1, fun p => ?_⟩
      rw [g4 p, hf]
end Go.Proofs.YtmlhoojcdidgkaaGreat

/-
  Folio: deeds case by case, and what holds of a course (no Go in sight).
-/
namespace Go.Proofs.YtmlhoojcdidgkaaGreat
set_option linter.unusedSimpArgs false
set_option linter.unusedVariables false
set_option maxHeartbeats 1000000
def mvL (day frm tgt cents ref : Int) : List Entry := if 0 < cents then [⟨day, tgt, frm, cents, ref⟩] else []
theorem mvE_eq (day frm tgt cents ref : Int) (l : List Entry) : mvE day frm tgt cents ref l = l ++ mvL day frm tgt cents ref := by
  unfold mvE mvL
  split <;> simp
theorem mvL_mem {day frm tgt cents ref : Int} {e : Entry} (h : e ∈ mvL day frm tgt cents ref) : 0 < cents ∧ e = ⟨day, tgt, frm, cents, ref⟩ := by
  unfold mvL at h
  split at h
  · next h0 => exact ⟨h0, by simpa using h⟩
  · simp at h
theorem mvL_len (day frm tgt cents ref : Int) : (mvL day frm tgt cents ref).length ≤ 1 := by
  unfold mvL
  split <;> simp
theorem movedR_app (es fs : List Entry) (acc r : Int) : movedR (es ++ fs) acc r = movedR es acc r + movedR fs acc r := by
  unfold movedR
  rw [List.filter_append, mvs_append]
theorem movedR_nil (acc s : Int) : movedR [] acc s = 0 := rfl
theorem movedR_one (e : Entry) (acc s : Int) : movedR [e] acc s = if e.ref = s then (if e.debit = acc then e.cents else 0) - (if e.credit = acc then e.cents else 0) else 0 := by
  have := movedR_snoc [] e acc s
  rw [List.nil_append, movedR_nil, mv_acc] at this
  rw [this, Int.zero_add]
theorem movedR_mvL (day frm tgt cents ref acc s : Int) : movedR (mvL day frm tgt cents ref) acc s = if ref = s ∧ 0 < cents then (if tgt = acc then cents else 0) - (if frm = acc then cents else 0) else 0 := by
  unfold mvL
  by_cases h : 0 < cents
  · rw [if_pos h, movedR_one]
    simp only [h, and_true]
  · rw [if_neg h, movedR_nil, if_neg (by omega)]
theorem movedR_far {l : List Entry} {acc s : Int} (h : ∀ e ∈ l, e.ref ≠ s) : movedR l acc s = 0 := by
  unfold movedR
  have : l.filter (fun e => e.ref == s) = [] := by
    rw [List.filter_eq_nil_iff]
    intro e he
    simpa using h e he
  rw [this]
  rfl
/-- Sums as they are taken by the code and by the plain laws. -/
theorem sgn_mv {a : Int} {e : Entry} (h : e.debit ≠ e.credit) : sgn a e = mv (fun x => x == a) e := by
  rw [mv_acc]
  unfold sgn
  split <;> split <;> first | omega | (split <;> omega) | skip
theorem sumE_mvs {a : Int} {q : Entry → Bool} : ∀ {l : List Entry}, (∀ e ∈ l, e.ok = true) → sumE a q l = mvs (fun x => x == a) (l.filter q)
  | [], _ => rfl
  | e :: l, h => by
    have h1 := sumE_mvs (a := a) (q := q) (l := l) fun x hx => h x (by simp [hx])
    have h3 : sumE a q (e :: l) = (if q e = true then sgn a e else 0) + sumE a q l := by unfold sumE; simp
    have h4 := (Entry.ok_iff.1 (h e (by simp))).2.2.2.1
    rw [h3, h1, List.filter_cons]
    split
    · rw [mvs_cons, sgn_mv h4]
    · rw [Int.zero_add]
theorem sumE_ref {a s : Int} {l : List Entry} (h : ∀ e ∈ l, e.ok = true) : sumE a (fun e => e.ref == s) l = movedR l a s := sumE_mvs h
theorem sumE_congr {a : Int} {q r : Entry → Bool} {l : List Entry} (h : ∀ e ∈ l, q e = r e) : sumE a q l = sumE a r l := by
  unfold sumE
  congr 1
  refine List.map_congr_left fun e he => ?_
  rw [h e he]
/-! ### Deeds, case by case -/
inductive Deeds (V : Env) (es : List Entry) (a : Acc) (x : Deed) : List Entry → Acc → Prop
  | book (k : x.kind = 1) (s : a.st = 0) : Deeds V es a x [] { a with st := 1 }
  | pay (n c : Int) (k : x.kind = 2) (s : a.st = 1 ∨ a.st = 2) (d : a.b.direct = true) (h : comesR V.ts a.b = some (n, c)) (m : x.cents ≤ c - a.paid) : Deeds V es a x (mvL x.day (payerA a.b) 900 x.cents a.b.stay) { a with paid := a.paid + x.cents }
  | late (k : x.kind = 2) (s : a.st = 3) (m : x.cents ≤ sumE (payerA a.b) (ownE a.b) es) : Deeds V es a x (mvL x.day (payerA a.b) 900 x.cents a.b.stay) { a with paid := a.paid + x.cents }
  | gone (k : x.kind = 3) (s : a.st = 1) (d : a.b.direct = true) : Deeds V es a x (entriesR a.b a.paid x.day).1 { a with st := 4 }
  | keeps (k : x.kind = 3) (s : a.st = 1) (d : a.b.direct = false) : Deeds V es a x (mvL x.day (300 + a.b.place) (payerA a.b) a.b.keep a.b.stay) { a with st := 4 }
  | arrive (k : x.kind = 4) (s : a.st = 1) : Deeds V es a x [] { a with st := 2 }
  | leave (n c : Int) (k : x.kind = 5) (s : a.st = 2) (h : comesR V.ts a.b = some (n, c)) : Deeds V es a x (mvL x.day (300 + a.b.place) (payerA a.b) a.b.price a.b.stay ++ mvL x.day (400 + a.b.place) (payerA a.b) n a.b.stay ++ mvL x.day (300 + a.b.place) (700 + a.b.channel) (oneR V.p V.d a.b).1 a.b.stay) { a with st := 3 }
  | walk (k : x.kind = 6) (s : a.st = 1) (h : (payR V.k a.b.price).2 = 0) : Deeds V es a x (mvL x.day 900 (guestA a.b.stay) a.paid a.b.stay ++ mvL x.day 900 800 (payR V.k a.b.price).1 a.b.stay) { a with st := 5 }
  | back (k : x.kind = 7) (s : a.st = 1 ∨ a.st = 2 ∨ a.st = 3) (d : a.b.direct = true) (m : x.cents ≤ a.paid) : Deeds V es a x (mvL x.day 900 (guestA a.b.stay) x.cents a.b.stay) { a with paid := a.paid - x.cents }
  | voucher (n c : Int) (k : x.kind = 8) (s : a.st = 1 ∨ a.st = 2) (d : a.b.direct = true) (h : comesR V.ts a.b = some (n, c)) : Deeds V es a x (mvL x.day (guestA a.b.stay) 600 (min x.cents (c - a.paid)) a.b.stay) { a with paid := a.paid + min x.cents (c - a.paid) }
theorem stated_iff {a : Acc} {k : Int} : statedD a k = true ↔ a.st ∈ ruleS k ∧ ((k = 7 ∨ k = 8 ∨ (k = 2 ∧ a.st ≠ 3)) → a.b.direct = true) := by
  unfold statedD ruleD
  rw [Bool.and_eq_true, decide_eq_true_eq, Bool.not_eq_true']
  refine and_congr Iff.rfl ?_
  cases a.b.direct <;> simp [or_assoc, and_assoc]
theorem deed_of {V : Env} {es : List Entry} {a : Acc} {x : Deed} (k0 : 1 ≤ x.kind) (k1 : x.kind ≤ 8) (h1 : statedD a x.kind = true) {r : List Entry × Acc} (h2 : deedD V es a x = .ok r) : ∃ ys, r.1 = es ++ ys ∧ Deeds V es a x ys r.2 := by
  obtain ⟨g1, g2⟩ := stated_iff.1 h1
  have hk : x.kind = 1 ∨ x.kind = 2 ∨ x.kind = 3 ∨ x.kind = 4 ∨ x.kind = 5 ∨ x.kind = 6 ∨ x.kind = 7 ∨ x.kind = 8 := by omega
  unfold deedD at h2
  rcases hk with hk | hk | hk | hk | hk | hk | hk | hk
  all_goals rw [hk] at h2 g1 g2; simp only [ruleS, Int.reduceEq, if_true, if_false, List.mem_cons, List.not_mem_nil, or_false] at h2 g1
  · injection h2 with h2
    subst h2
    exact ⟨[], by simp, .book hk g1⟩
  · unfold payD mostR at h2
    by_cases h3 : a.st = 3
    · rw [if_pos h3] at h2
      simp only at h2
      split at h2
      · cases h2
      · injection h2 with h2
        subst h2
        exact ⟨_, mvE_eq _ _ _ _ _ _, .late hk h3 (by omega)⟩
    · rw [if_neg h3] at h2
      cases hc : comesR V.ts a.b with
      | none => rw [hc] at h2; cases h2
      | some q =>
        obtain ⟨n, c⟩ := q
        rw [hc] at h2
        simp only at h2
        split at h2
        · cases h2
        · injection h2 with h2
          subst h2
          exact ⟨_, mvE_eq _ _ _ _ _ _, .pay n c hk (by omega) (g2 (by omega)) hc (by omega)⟩
  · injection h2 with h2
    subst h2
    unfold cancelD
    cases hd : a.b.direct
    · exact ⟨_, by rw [if_neg (by simp)]; exact mvE_eq _ _ _ _ _ _, .keeps hk g1 hd⟩
    · exact ⟨_, by rw [if_pos rfl], .gone hk g1 hd⟩
  · injection h2 with h2
    subst h2
    exact ⟨[], by simp, .arrive hk g1⟩
  · unfold leaveD at h2
    cases hc : comesR V.ts a.b with
    | none => rw [hc] at h2; cases h2
    | some q =>
      obtain ⟨n, c⟩ := q
      rw [hc] at h2
      injection h2 with h2
      subst h2
      exact ⟨_, by simp only [mvE_eq, List.append_assoc], .leave n c hk g1 hc⟩
  · unfold walkD at h2
    split at h2
    · cases h2
    · injection h2 with h2
      subst h2
      exact ⟨_, by simp only [mvE_eq, List.append_assoc], .walk hk g1 (by omega)⟩
  · unfold backD at h2
    split at h2
    · cases h2
    · injection h2 with h2
      subst h2
      exact ⟨_, mvE_eq _ _ _ _ _ _, .back hk g1 (g2 (by omega)) (by omega)⟩
  · unfold voucherD at h2
    cases hc : comesR V.ts a.b with
    | none => rw [hc] at h2; cases h2
    | some q =>
      obtain ⟨n, c⟩ := q
      rw [hc] at h2
      injection h2 with h2
      subst h2
      exact ⟨_, mvE_eq _ _ _ _ _ _, .voucher n c hk g1 (g2 (by omega)) hc⟩
theorem Deeds.mk {V : Env} {es : List Entry} {a : Acc} {x : Deed} {ys : List Entry} {a' : Acc} (h : Deeds V es a x ys a') : statedD a x.kind = true ∧ deedD V es a x = .ok (es ++ ys, a') := by
  cases h
  case book k s => exact ⟨stated_iff.2 ⟨by simp [k, s, ruleS], by omega⟩, by unfold deedD; rw [if_pos k, List.append_nil]⟩
  case pay n c k s d h m =>
    refine ⟨stated_iff.2 ⟨by rcases s with s | s <;> simp [k, s, ruleS], fun _ => d⟩, ?_⟩
    unfold deedD payD mostR
    rw [if_neg (by omega), if_pos k, if_neg (by omega), h]
    simp only
    rw [if_neg (by omega), mvE_eq]
  case late k s m =>
    refine ⟨stated_iff.2 ⟨by simp [k, s, ruleS], by omega⟩, ?_⟩
    unfold deedD payD mostR
    rw [if_neg (by omega), if_pos k, if_pos s]
    simp only
    rw [if_neg (by omega), mvE_eq]
  case gone k s d =>
    refine ⟨stated_iff.2 ⟨by simp [k, s, ruleS], by omega⟩, ?_⟩
    unfold deedD cancelD
    rw [if_neg (by omega), if_neg (by omega), if_pos k, if_pos d]
  case keeps k s d =>
    refine ⟨stated_iff.2 ⟨by simp [k, s, ruleS], by omega⟩, ?_⟩
    unfold deedD cancelD
    rw [if_neg (by omega), if_neg (by omega), if_pos k, if_neg (by simp [d]), mvE_eq]
  case arrive k s =>
    refine ⟨stated_iff.2 ⟨by simp [k, s, ruleS], by omega⟩, ?_⟩
    unfold deedD
    rw [if_neg (by omega), if_neg (by omega), if_neg (by omega), if_pos k, List.append_nil]
  case leave n c k s h =>
    refine ⟨stated_iff.2 ⟨by simp [k, s, ruleS], by omega⟩, ?_⟩
    unfold deedD leaveD
    rw [if_neg (by omega), if_neg (by omega), if_neg (by omega), if_neg (by omega), if_pos k, h]
    simp only [mvE_eq, List.append_assoc]
  case walk k s h =>
    refine ⟨stated_iff.2 ⟨by simp [k, s, ruleS], by omega⟩, ?_⟩
    unfold deedD walkD
    rw [if_neg (by omega), if_neg (by omega), if_neg (by omega), if_neg (by omega), if_neg (by omega), if_pos k, if_neg (by omega)]
    simp only [mvE_eq, List.append_assoc]
  case back k s d m =>
    refine ⟨stated_iff.2 ⟨by rcases s with s | s | s <;> simp [k, s, ruleS], fun _ => d⟩, ?_⟩
    unfold deedD backD
    rw [if_neg (by omega), if_neg (by omega), if_neg (by omega), if_neg (by omega), if_neg (by omega), if_neg (by omega), if_pos k, if_neg (by omega), mvE_eq]
  case voucher n c k s d h =>
    refine ⟨stated_iff.2 ⟨by rcases s with s | s <;> simp [k, s, ruleS], fun _ => d⟩, ?_⟩
    unfold deedD voucherD
    rw [if_neg (by omega), if_neg (by omega), if_neg (by omega), if_neg (by omega), if_neg (by omega), if_neg (by omega), if_neg (by omega), h]
    simp only [mvE_eq]
/-- The entries of a deed. -/
theorem Deeds.es_ok {V : Env} {es : List Entry} {a : Acc} {x : Deed} {ys : List Entry} {a' : Acc} {n : Nat} (h : Deeds V es a x ys a') (ha : AccOk a n) (hk : conOk V.k = true) (hp : partOk V.p V.d = true) (d0 : 0 ≤ x.day) (d1 : x.day ≤ 366) (hc : x.kind = 2 ∨ x.kind = 7 ∨ x.kind = 8 → 1 ≤ x.cents ∧ x.cents ≤ 1000000000) :
    ∀ e ∈ ys, e.ok = true ∧ e.day = x.day ∧ e.ref = a.b.stay := by
  have hb := Bill.ok_iff.1 ha.b
  have hpy := payer_bd ha.b
  have hg := guest_bd a.b.stay
  have hone := oneR_ok hp ha.b
  have hcm := comm_bd hp hb.2.2.2.2.2.2.1.1
  have hmk : ∀ (frm tgt cents : Int) (e : Entry), e ∈ mvL x.day frm tgt cents a.b.stay → 100 ≤ frm ∧ frm ≤ 999 → 100 ≤ tgt ∧ tgt ≤ 999 → tgt ≠ frm → cents ≤ 1000000000 → e.ok = true ∧ e.day = x.day ∧ e.ref = a.b.stay := by
    intro frm tgt cents e he h1 h2 h3 h4
    obtain ⟨h0, rfl⟩ := mvL_mem he
    exact ⟨Entry.ok_iff.2 ⟨⟨d0, d1⟩, h2, h1, h3, ⟨by simp only; omega, h4⟩, by simp only; omega⟩, rfl, rfl⟩
  intro e he
  cases h
  case book => simp at he
  case pay n c k s d h m => exact hmk _ _ _ e he (by omega) (by omega) (by omega) (hc (.inl k)).2
  case late k s m => exact hmk _ _ _ e he (by omega) (by omega) (by omega) (hc (.inl k)).2
  case gone k s d =>
    by_cases h3 : (!a.b.ok || !amt a.paid || !inB x.day 0 366) = true
    · rw [entriesR_no h3] at he; simp at he
    · have h4 : (a.b.ok = true ∧ amt a.paid = true) ∧ inB x.day 0 366 = true := by simpa using h3
      rw [entriesR_ok h4.1.1 h4.1.2 h4.2] at he
      have hp2 := inB_iff.1 h4.1.2
      rcases entriesL_mem he with ⟨h5, rfl⟩ | ⟨h5, rfl⟩
      · unfold keptE
        exact ⟨Entry.ok_iff.2 ⟨⟨d0, d1⟩, by simp only; omega, by simp only; omega, by simp only; omega, by simp only; omega, by simp only; omega⟩, rfl, rfl⟩
      · unfold backE
        exact ⟨Entry.ok_iff.2 ⟨⟨d0, d1⟩, by simp only; omega, by simp only; omega, by simp only; omega, by simp only; omega, by simp only; omega⟩, rfl, rfl⟩
  case keeps k s d => exact hmk _ _ _ e he (by omega) (by omega) (by omega) (by omega)
  case arrive => simp at he
  case leave n c k s h =>
    have := comes_bd ha.b h
    rw [hone] at he
    rcases List.mem_append.1 he with he | he
    · rcases List.mem_append.1 he with he | he
      · exact hmk _ _ _ e he (by omega) (by omega) (by omega) (by omega)
      · exact hmk _ _ _ e he (by omega) (by omega) (by omega) (by omega)
    · exact hmk _ _ _ e he (by omega) (by omega) (by omega) (by simp only; omega)
  case walk k s h =>
    have hpr : (payR V.k a.b.price).1 ≤ 1000000000 := by
      unfold payR at h ⊢
      split
      · split
        · simp
        · simp only; omega
      · simp
    have := ha.early (by omega)
    rcases List.mem_append.1 he with he | he
    · exact hmk _ _ _ e he (by omega) (by omega) (by omega) (by omega)
    · exact hmk _ _ _ e he (by omega) (by omega) (by omega) hpr
  case back k s d m => exact hmk _ _ _ e he (by omega) (by omega) (by omega) (hc (.inr (.inl k))).2
  case voucher n c k s d h =>
    have := (hc (.inr (.inr k))).2
    exact hmk _ _ _ e he (by omega) (by omega) (by omega) (by omega)
theorem Deeds.len {V : Env} {es : List Entry} {a : Acc} {x : Deed} {ys : List Entry} {a' : Acc} (h : Deeds V es a x ys a') : ys.length ≤ 3 := by
  have hm := fun f t c => mvL_len x.day f t c a.b.stay
  cases h
  case book => simp
  case pay => exact Nat.le_trans (hm _ _ _) (by decide)
  case late => exact Nat.le_trans (hm _ _ _) (by decide)
  case gone k s d =>
    unfold entriesR
    split
    · simp
    · have := entriesL_len a.b (a.paid - min a.paid a.b.keep) (min a.paid a.b.keep) x.day
      simp only
      omega
  case keeps => exact Nat.le_trans (hm _ _ _) (by decide)
  case arrive => simp
  case leave n c k s h =>
    have h1 := hm (300 + a.b.place) (payerA a.b) a.b.price
    have h2 := hm (400 + a.b.place) (payerA a.b) n
    have h3 := hm (300 + a.b.place) (700 + a.b.channel) (oneR V.p V.d a.b).1
    rw [List.length_append, List.length_append]
    omega
  case walk k s h =>
    have h1 := hm 900 (guestA a.b.stay) a.paid
    have h2 := hm 900 800 (payR V.k a.b.price).1
    rw [List.length_append]
    omega
  case back => exact Nat.le_trans (hm _ _ _) (by decide)
  case voucher => exact Nat.le_trans (hm _ _ _) (by decide)
theorem Deeds.acc {V : Env} {es : List Entry} {a : Acc} {x : Deed} {ys : List Entry} {a' : Acc} {n : Nat} (h : Deeds V es a x ys a') (ha : AccOk a n) (hc : x.kind = 2 ∨ x.kind = 7 ∨ x.kind = 8 → 1 ≤ x.cents ∧ x.cents ≤ 1000000000) : AccOk a' (n + 1) ∧ a'.b = a.b := by
  obtain ⟨b, st, paid, early⟩ := ha
  cases h
  case book => exact ⟨⟨b, by simp, by simp only; omega, fun _ => early (by omega)⟩, rfl⟩
  case pay n c k s d h m =>
    have := comes_bd b h
    have := hc (.inl k)
    exact ⟨⟨b, st, by simp only; omega, fun _ => by simp only; omega⟩, rfl⟩
  case late k s m =>
    have := hc (.inl k)
    exact ⟨⟨b, st, by simp only; omega, fun h => absurd s h⟩, rfl⟩
  case gone k s d => exact ⟨⟨b, by simp, by simp only; omega, fun _ => early (by omega)⟩, rfl⟩
  case keeps k s d => exact ⟨⟨b, by simp, by simp only; omega, fun _ => early (by omega)⟩, rfl⟩
  case arrive k s => exact ⟨⟨b, by simp, by simp only; omega, fun _ => early (by omega)⟩, rfl⟩
  case leave n c k s h => exact ⟨⟨b, by simp, by simp only; omega, fun h => by simp at h⟩, rfl⟩
  case walk k s h => exact ⟨⟨b, by simp, by simp only; omega, fun _ => early (by omega)⟩, rfl⟩
  case back k s d m =>
    have := hc (.inr (.inl k))
    exact ⟨⟨b, st, by simp only; omega, fun h => by have := early h; simp only; omega⟩, rfl⟩
  case voucher n c k s d h =>
    have := comes_bd b h
    have := hc (.inr (.inr k))
    have := early (by omega)
    exact ⟨⟨b, st, by simp only; omega, fun _ => by simp only; omega⟩, rfl⟩
end Go.Proofs.YtmlhoojcdidgkaaGreat

/-
  Package folio: the books of a course, and what a deed may turn.
-/
namespace Go.Proofs.YtmlhoojcdidgkaaGreat
set_option linter.unusedSimpArgs false
set_option linter.unusedVariables false
open Go.RowKit
open Go.Sort (grow size_grow)

set_option maxHeartbeats 4000000
set_option maxRecDepth 100000
/-- Below a border only the blocks of a list may have turned; above it none but that of the entries, which are ev, then ev'. -/
structure Turn (S : List Nat) (B : Nat) (ev ev' : Value) (w w' : World) : Prop where
  os : w'.os = w.os
  tape : w'.tape = w.tape
  output : w'.output = w.output
  size : w.heap.size ≤ w'.heap.size
  block : ∀ k, k < B → k ∉ S → w'.heap[k]? = w.heap[k]?
  same : ∀ k, k < w.heap.size → k ∉ S → some k ≠ ev.ownBlock → w'.heap[k]? = w.heap[k]?
  own : ∀ b, ev'.ownBlock = some b → ev.ownBlock = some b ∨ w.heap.size ≤ b
theorem Turn.refl (S : List Nat) (B : Nat) (w : World) {ev : Value} : Turn S B ev ev w w := ⟨rfl, rfl, rfl, Nat.le_refl _, fun _ _ _ => rfl, fun _ _ _ _ => rfl, fun _ h => .inl h⟩
theorem Turn.trans {S : List Nat} {B : Nat} {e1 e2 e3 : Value} {w1 w2 w3 : World} (h : Turn S B e1 e2 w1 w2) (h' : Turn S B e2 e3 w2 w3) : Turn S B e1 e3 w1 w3 :=
  ⟨h'.os.trans h.os, h'.tape.trans h.tape, h'.output.trans h.output, Nat.le_trans h.size h'.size, fun k h1 h2 => (h'.block k h1 h2).trans (h.block k h1 h2),
    fun k h1 h2 h3 => (h'.same k (Nat.lt_of_lt_of_le h1 h.size) h2 (fun e => by
      rcases h.own k e.symm with h4 | h4
      · exact h3 h4.symm
      · omega)).trans (h.same k h1 h2 h3),
    fun b hb => by
      rcases h'.own b hb with h4 | h4
      · exact h.own b h4
      · exact .inr (Nat.le_trans h.size h4)⟩
theorem Turn.more {S S' : List Nat} {B : Nat} {ev ev' : Value} {w w' : World} (h : Turn S B ev ev' w w') (hs : ∀ k ∈ S, k ∈ S') : Turn S' B ev ev' w w' :=
  ⟨h.os, h.tape, h.output, h.size, fun k h1 h2 => h.block k h1 fun h3 => h2 (hs k h3), fun k h1 h2 h4 => h.same k h1 (fun h3 => h2 (hs k h3)) h4, h.own⟩
theorem Turn.grown {S : List Nat} {B : Nat} {ev ev' : Value} {w w' : World} (h : Below B w w') (hg : w.grownBy w' ev.ownBlock) (ho : ∀ b, ev'.ownBlock = some b → ev.ownBlock = some b ∨ w.heap.size ≤ b) : Turn S B ev ev' w w' :=
  ⟨h.os, h.tape, h.output, h.size, fun k h1 _ => h.block k h1, fun k h1 _ h3 => hg.block k h1 h3, ho⟩
theorem Turn.up {S : List Nat} {B : Nat} {ev ev' : Value} {w w1 w2 : World} (h : Turn S B ev ev' w w1) (hb : Below w1.heap.size w1 w2) (hB : B ≤ w1.heap.size) : Turn S B ev ev' w w2 :=
  h.trans ⟨hb.os, hb.tape, hb.output, hb.size, fun k h1 _ => hb.block k (by omega), fun k h1 _ _ => hb.block k h1, fun _ h => .inl h⟩
theorem Turn.set {S : List Nat} {B : Nat} {ev ev' : Value} {w w1 : World} (h : Turn S B ev ev' w w1) {g o : Nat} (hg : g ∈ S) (v : Value) : Turn S B ev ev' w (w1.setCell ⟨g, o, none⟩ v) :=
  h.trans ⟨rfl, rfl, rfl, by simp [World.setCell], fun k _ h2 => Below.heap_setCell _ _ _ _ (fun e => h2 (by rw [e]; exact hg)), fun k _ h2 _ => Below.heap_setCell _ _ _ _ (fun e => h2 (by rw [e]; exact hg)), fun _ h => .inl h⟩
theorem Turn.below {S : List Nat} {B L : Nat} {ev ev' : Value} {w w' : World} (h : Turn S B ev ev' w w') (hL : L ≤ B) (hS : ∀ k ∈ S, L ≤ k) : Below L w w' := ⟨h.os, h.tape, h.output, h.size, fun k hk => h.block k (by omega) fun h3 => by have := hS k h3; omega⟩
theorem Turn.acc {S : List Nat} {B g : Nat} {ev ev' : Value} {w w' : World} {a : Acc} (h : Turn S B ev ev' w w') (ha : AccIn w g a) (hg : g < B) (hn : g ∉ S) : AccIn w' g a := ha.of_eq (h.block g hg hn)
abbrev OwnEn (w : World) (base : Nat) (v : Value) (L : List Entry) : Prop := OwnL w base 60 5 Entry.cs v L
theorem OwnL.turn {α : Type} {w w' : World} {base B size : Nat} {e : TypeId} {enc : α → List Value} {v : Value} {L : List α} (h : OwnL w base e size enc v L) (ht : ∀ k, base ≤ k → k < w.heap.size → w'.heap[k]? = w.heap[k]?) (hz : w.heap.size ≤ w'.heap.size) : OwnL w' base e size enc v L := by
  refine ⟨h.1, ?_⟩
  rcases h.2 with h1 | ⟨g, cap, cur, h1, h2, h3, h4⟩
  · exact .inl h1
  · exact .inr ⟨g, cap, cur, h1, h2, by rw [ht g h2 (Array.getElem?_eq_some_iff.1 h3).1]; exact h3, h4⟩
/-- The cells of a course. -/
def crsCells (ev : Value) (day : Int) (gm : Nat) (V : Env) (At : Option Addr) (ct : Nat) : Array Value :=
  #[ev, .int .i64 day, .map (some gm), .slice At V.ts.length ct, .int .i64 V.p, .int .i64 V.d, .int .i64 V.k.fx, .int .i64 V.k.n, .int .i64 V.k.d, .int .i64 V.k.most]
/-- The block of a course, and its entries, which lie behind the border. -/
structure Bk (w : World) (gc gm base : Nat) (V : Env) (At : Option Addr) (ct : Nat) (es : List Entry) (day : Int) (ev : Value) : Prop where
  at_ : w.heap[gc]? = some (.cells (crsCells ev day gm V At ct) 96 (0, 0))
  own : OwnEn w base ev es
  lt : gc < base
  le : base ≤ w.heap.size
theorem Bk.cell {w : World} {gc gm base : Nat} {V : Env} {At : Option Addr} {ct : Nat} {es : List Entry} {day : Int} {ev : Value} (h : Bk w gc gm base V At ct es day ev) (o : Nat) : w.cell? ⟨gc, o, none⟩ = (crsCells ev day gm V At ct)[o]? := cell_of_row w gc o _ _ _ h.at_
theorem Bk.free {w : World} {gc gm base : Nat} {V : Env} {At : Option Addr} {ct : Nat} {es : List Entry} {day : Int} {ev : Value} (h : Bk w gc gm base V At ct es day ev) (o : Nat) : w.frozen? ⟨gc, o, none⟩ = false := by
  unfold World.frozen?
  have := h.at_
  simp [this]
theorem Bk.up {w w' : World} {gc gm base : Nat} {V : Env} {At : Option Addr} {ct : Nat} {es : List Entry} {day : Int} {ev : Value} (h : Bk w gc gm base V At ct es day ev) (hb : Below w.heap.size w w') : Bk w' gc gm base V At ct es day ev :=
  ⟨by rw [hb.block gc (by have := h.lt; have := h.le; omega)]; exact h.at_, h.own.below hb, h.lt, Nat.le_trans h.le hb.size⟩
/-- A cell of another block is written. -/
theorem Bk.set {w : World} {gc gm base : Nat} {V : Env} {At : Option Addr} {ct : Nat} {es : List Entry} {day : Int} {ev : Value} (h : Bk w gc gm base V At ct es day ev) {g : Nat} (hg : g < base) (hne : g ≠ gc) (o : Nat) (v : Value) : Bk (w.setCell ⟨g, o, none⟩ v) gc gm base V At ct es day ev :=
  ⟨by rw [Below.heap_setCell _ _ _ _ (by exact Ne.symm hne)]; exact h.at_, h.own.turn (B := 0) (fun k h1 _ => Below.heap_setCell _ _ _ _ (by show k ≠ g; omega)) (by simp [World.setCell]), h.lt, by simp [World.setCell]; exact h.le⟩
theorem AccIn.set {w : World} {g : Nat} {a a' : Acc} (h : AccIn w g a) {o : Nat} {v : Value} (he : a.cells.setIfInBounds o v = a'.cells) : AccIn (w.setCell ⟨g, o, none⟩ v) g a' := by
  unfold AccIn
  rw [heap_setCell_same w g o _ _ v h, he]
theorem AccIn.far {w : World} {g : Nat} {a : Acc} (h : AccIn w g a) {p : Addr} (hp : p.block ≠ g) (v : Value) : AccIn (w.setCell p v) g a := h.of_eq (Below.heap_setCell _ _ _ _ (Ne.symm hp))
/-- What 'move' leaves as it is. -/
def erOf {α : Type} (r : Except Int α) : Int := match r with | .error e => e | .ok _ => 0
def resOf {α : Type} (r : Except Int α) (x : α) : α := match r with | .error _ => x | .ok y => y
def Spare (gc : Nat) (ev : Value) (w w' : World) : Prop := ∀ k, k < w.heap.size → k ≠ gc → some k ≠ ev.ownBlock → w'.heap[k]? = w.heap[k]?
theorem Spare.refl (gc : Nat) (ev : Value) (w : World) : Spare gc ev w w := fun _ _ _ _ => rfl
theorem Spare.cell {gc : Nat} {ev : Value} {w w' : World} (h : Spare gc ev w w') {k o : Nat} (h1 : k < w.heap.size) (h2 : k ≠ gc) (h3 : some k ≠ ev.ownBlock) : w'.cell? ⟨k, o, none⟩ = w.cell? ⟨k, o, none⟩ := by
  unfold World.cell?
  rw [h k h1 h2 h3]
theorem move_any (gc gm base : Nat) (V : Env) (At : Option Addr) (ct : Nat) (es : List Entry) (day : Int) (ev : Value) (frm tgt cents ref : Int) (w : World) (h : Bk w gc gm base V At ct es day ev) (hl : es.length ≤ 6000) :
    Calls Tryz.prog 107 #[.pointer (some ⟨gc, 0, none⟩), .int .i64 frm, .int .i64 tgt, .int .i64 cents, .int .i64 ref] w fun e w' => e = .returned (.tuple #[]) ∧ (∃ ev', Bk w' gc gm base V At ct (mvE day frm tgt cents ref es) day ev' ∧ Turn [gc] base ev ev' w w') ∧ Spare gc ev w w' := by
  by_cases h0 : 0 < cents
  · have hE : mvE day frm tgt cents ref es = es ++ [⟨day, tgt, frm, cents, ref⟩] := by unfold mvE; rw [if_pos h0]
    have HE := Lib.hid hE
    clear hE
    have q0 : w.cell? ⟨gc, 0, none⟩ = some ev := h.cell 0
    have q1 : w.cell? ⟨gc, 1, none⟩ = some (.int .i64 day) := h.cell 1
    have f0 := h.free 0
    have hlt := h.lt
    have hle := h.le
    have hlz : gc < w.heap.size := by omega
    have HB := Lib.hid h
    go_enter Tryz.func107, Tryz.ntmps107
    go_wp2_with fail
    go_region_law (first
      | (go_loud (refine step_push _ (by rfl) (.tmp 16) (.tmp 26) 45 60 (by rfl) base 5 40 Entry.cs elemEnt ent_len ent_one ev es (by rfl) (HB.out.own.alloc _) _ 1 ⟨day, tgt, frm, cents, ref⟩ (by rfl) (by exact news_new _ _ _ _ rfl) (by omega) (by omega) (by first | omega | (simp; done) | (simp; omega)) _ (by first | rfl | (simp; done)) ?_); intro gg cap w4 hown4 hgrow4 hat4 hlt4; have hb4 : Below base w w4 := below_push (e := 60) (size := 5) (enc := Entry.cs) (L := es) ((Below.refl base w).drew.alloc hle _) (HB.out.own.alloc _) hgrow4 (by first | omega | (simp; done) | (simp; omega)); have u0 : w4.cell? ⟨gc, 0, none⟩ = some ev := (hb4.cell (p := ⟨gc, 0, none⟩) hlt).trans q0; have uf : w4.frozen? ⟨gc, 0, none⟩ = false := (hb4.frozen (p := ⟨gc, 0, none⟩) hlt).trans f0; have hgat : w4.heap[gc]? = w.heap[gc]? := hb4.block gc hlt))
    all_goals
      have HO := HB.out
      go_wp2_with fail
      go_end0
      refine ⟨rfl, ⟨.slice (some ⟨gg, 0, none⟩) (es.length + 1) cap, ?_, ?_⟩, fun k h1 h2 h3 => ?_⟩
      · rw [HE.out]
        refine ⟨(heap_setCell_same w4 gc 0 _ _ _ (hgat.trans HO.at_)).trans rfl, hown4.turn (B := 0) (fun k h1 _ => Below.heap_setCell _ _ _ _ (by show k ≠ gc; omega)) (by simp [World.setCell]), hlt, Nat.le_trans hle (by have := hb4.size; simp [World.setCell]; omega)⟩
      · refine ((Turn.refl [gc] base w).trans (e2 := ev) (e3 := .slice (some ⟨gg, 0, none⟩) (es.length + 1) cap) (w3 := w4) ⟨hb4.os, hb4.tape, hb4.output, hb4.size, fun k h1 _ => hb4.block k h1, fun k h1 _ h3 => ?_, fun b hb => ?_⟩).set (by simp) _
        · rw [hgrow4.block k (by simp; omega) h3]
          exact ((Below.refl w.heap.size w).drew.alloc (Nat.le_refl _) _).block k h1
        · obtain rfl : gg = b := by injection hb
          rcases hat4 with h | h
          · exact .inl h
          · exact .inr (by rw [h]; simp)
      · rw [Below.heap_setCell _ _ _ _ (by exact h2), hgrow4.block k (by simp; omega) h3]
        exact ((Below.refl w.heap.size w).drew.alloc (Nat.le_refl _) _).block k h1
  · have hE : mvE day frm tgt cents ref es = es := by unfold mvE; rw [if_neg h0]
    rw [hE]
    go_enter Tryz.func107, Tryz.ntmps107
    go_wp2_with fail
    go_end0
    exact ⟨rfl, ⟨ev, h, Turn.refl _ _ _⟩, Spare.refl _ _ _⟩
end Go.Proofs.YtmlhoojcdidgkaaGreat
