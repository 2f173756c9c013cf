/-
  Package returns: what a run of deeds answers (no Go in sight).
-/
import Derived.Test.YtmlhoojcdidgkaaGreatRet8
import Derived.Test.YtmlhoojcdidgkaaGreatFoAgP
namespace Go.Proofs.YtmlhoojcdidgkaaGreat
set_option linter.unusedSimpArgs false
set_option linter.unusedVariables false
set_option maxHeartbeats 1000000
/-! ### How often a stay was left -/
theorem same_of3 {l : List Acc} (hn : (l.map fun a => a.b.stay).Nodup) {i j : Nat} (hi : i < l.length) (hj : j < l.length) (h : l[i].b.stay = l[j].b.stay) : i = j := by
  have h1 := idx_of hn hi
  have h2 := idx_of hn hj
  rw [h, h2] at h1
  injection h1 with h1
  exact h1.symm
def leftN (l : List Deed) (errs : List Int) (s : Int) : Nat := ((l.zip errs).filter fun p => (p.1.kind == 5) && (p.1.stay == s) && (p.2 == 0)).length
theorem leftN_snoc {l : List Deed} {errs : List Int} (h : errs.length = l.length) (x : Deed) (e s : Int) : leftN (l ++ [x]) (errs ++ [e]) s = leftN l errs s + if ((x.kind == 5) && (x.stay == s) && (e == 0)) = true then 1 else 0 := by
  unfold leftN
  rw [List.zip_append h.symm, List.filter_append, List.length_append]
  congr 1
  simp only [List.zip_cons_cons, List.zip_nil_right]
  rw [List.filter_cons]
  split
  · rfl
  · rfl
theorem Deeds.leftSt {V : Env} {es : List Entry} {a : Acc} {x : Deed} {ys : List Entry} {a' : Acc} (h : Deeds V es a x ys a') : (a'.st = 3 ↔ a.st = 3 ∨ x.kind = 5) ∧ (x.kind = 5 → a.st ≠ 3) ∧ a'.b = a.b := by
  cases h
  all_goals
    refine ⟨?_, ?_, rfl⟩
    · first | omega | (simp only; omega) | (dsimp only; omega) | (simp; omega)
    · omega
theorem leftN_run {V : Env} {bills : List Bill} (hV : EnvOk V) (hb : billsOk bills = true) (l : List Deed) : ∀ a ∈ (runAll V bills l).1.ac, leftN l (runAll V bills l).2 a.b.stay = if a.st = 3 then 1 else 0 := by
  have key := run_ind (V := V) (bills := bills) (fun l c er => er.length = l.length ∧ CrsOk c l.length ∧ ∀ a ∈ c.ac, leftN l er a.b.stay = if a.st = 3 then 1 else 0) ⟨rfl, crs0_ok hb, fun a ha => ?_⟩ ?_ ?_ l
  · exact key.2.2
  · obtain ⟨b, _, rfl⟩ := List.mem_map.1 ha
    rfl
  · rintro l x c c' er ⟨h1, h2, h3⟩ hf hs
    obtain ⟨g1, g2, g3⟩ := hs.ok hV hf h2
    refine ⟨by simp [h1], by rw [List.length_append]; exact g1, ?_⟩
    cases hs
    case broke k m =>
      intro a ha
      rw [leftN_snoc h1, if_neg (by simp [k]), Nat.add_zero]
      exact h3 a ha
    case deed k i a hi ha ys a' hd =>
      obtain ⟨hlt, hat⟩ := List.getElem?_eq_some_iff.1 ha
      obtain ⟨_, hst⟩ := idx_at hi
      rw [hat] at hst
      have ham := List.mem_of_getElem? ha
      intro b hb
      obtain ⟨j, hj, rfl⟩ := List.getElem_of_mem hb
      have hj' : j < c.ac.length := by simpa using hj
      show leftN (l ++ [x]) (er ++ [0]) (c.ac.set i a')[j].b.stay = if (c.ac.set i a')[j].st = 3 then 1 else 0
      rw [leftN_snoc h1, List.getElem_set]
      split
      · have h0 := h3 a ham
        obtain ⟨q1, q2, q3⟩ := hd.leftSt
        rw [hst] at h0
        rw [q3, hst, h0]
        by_cases k5 : x.kind = 5
        · rw [if_pos (show ((x.kind == 5) && (x.stay == x.stay) && ((0 : Int) == 0)) = true by simp [k5]), if_neg (q2 k5), if_pos (q1.2 (.inr k5))]
        · rw [if_neg (show ¬ ((x.kind == 5) && (x.stay == x.stay) && ((0 : Int) == 0)) = true by simp [k5]), Nat.add_zero]
          by_cases hs3 : a.st = 3
          · rw [if_pos hs3, if_pos (q1.2 (.inl hs3))]
          · rw [if_neg hs3, if_neg (fun h => (q1.1 h).elim hs3 k5)]
      · next hne =>
        have hns : x.stay ≠ c.ac[j].b.stay := by
          intro heq
          rw [← hst, ← hat] at heq
          exact hne (same_of3 h2.stays hlt hj' heq)
        rw [if_neg (by simp [hns]), Nat.add_zero]
        exact h3 _ (List.getElem_mem hj')
  · rintro l x c er e ⟨h1, h2, h3⟩ he
    refine ⟨by simp [h1], by rw [List.length_append]; exact h2.more, fun a ha => ?_⟩
    rw [leftN_snoc h1, if_neg (by simp [he]), Nat.add_zero]
    exact h3 a ha
/-- The bills that are left, as the law gathers them. -/
def leftRun (bills : List Bill) (l : List Deed) (errs : List Int) : List Bill := bills.flatMap fun b => List.replicate (leftN l errs b.stay) b
def leftF (bills : List Bill) (l : List Deed) (errs : List Int) : List Bill := bills.filter fun b => didR l errs 5 b.stay
theorem flatMap_rep (f : Bill → Bool) (g : Bill → Nat) : ∀ l : List Bill, (∀ b ∈ l, g b = if f b = true then 1 else 0) → (l.flatMap fun b => List.replicate (g b) b) = l.filter f
  | [], _ => rfl
  | b :: l, h => by
    have ih := flatMap_rep f g l fun x hx => h x (by simp [hx])
    rw [List.flatMap_cons, ih, h b (by simp), List.filter_cons]
    split <;> rfl
theorem left_run {V : Env} {bills : List Bill} (hV : EnvOk V) (hb : billsOk bills = true) (l : List Deed) : leftRun bills l (runAll V bills l).2 = leftF bills l (runAll V bills l).2 := by
  refine flatMap_rep _ _ bills fun b hbm => ?_
  have hR := run_all hV hb l
  obtain ⟨m, hm, rfl⟩ := List.getElem_of_mem hbm
  obtain ⟨a, ha, hab⟩ := hR.at_ hm
  rw [← hab, leftN_run hV hb l a ha, (hR.did a ha).left]
  by_cases h : a.st = 3
  · rw [if_pos h, if_pos (by simp [h])]
  · rw [if_neg h, if_neg (by simp [h])]
theorem leftF_ok {bills : List Bill} (hb : billsOk bills = true) (l : List Deed) (errs : List Int) : billsOk (leftF bills l errs) = true := by
  obtain ⟨h1, h2⟩ := billsOk_iff.1 hb
  exact billsOk_iff.2 ⟨fun b hbm => h1 b (List.mem_filter.1 hbm).1, h2.sublist (List.filter_sublist.map _)⟩
theorem leftF_len (bills : List Bill) (l : List Deed) (errs : List Int) : (leftF bills l errs).length ≤ bills.length := List.length_filter_le _ _
theorem didR_broke {l : List Deed} {errs : List Int} (h : errs.length = l.length) (day c n er k s : Int) (hk : k ≠ 9) : didR (l ++ [⟨9, day, c, n⟩]) (errs ++ [er]) k s = didR l errs k s := by
  rw [didR_snoc h]
  have : ((9 : Int) == k) = false := by rw [beq_eq_false_iff_ne]; exact fun e => hk e.symm
  simp [this]
/-! ### What the accounts of taxes have -/
def taxS (V : Env) (p : Int) (a : Acc) : Int := if a.st = 3 ∧ a.b.place = p then taxN V.ts a.b else 0
theorem sum_set (f : Acc → Int) : ∀ (l : List Acc) (i : Nat) (h : i < l.length) (x : Acc), ((l.set i x).map f).sum = (l.map f).sum - f l[i] + f x
  | a :: l, 0, _, x => by simp; omega
  | a :: l, i + 1, h, x => by
    have := sum_set f l i (by simpa using h) x
    simp only [List.set_cons_succ, List.map_cons, List.sum_cons, List.getElem_cons_succ]
    rw [this]
    omega
theorem mvs_mvL (q : Int → Bool) (day frm tgt cents ref : Int) : mvs q (mvL day frm tgt cents ref) = if 0 < cents then (if q tgt = true then cents else 0) - (if q frm = true then cents else 0) else 0 := by
  unfold mvL
  split
  · rw [mvs_cons, mvs_nil]
    unfold mv
    simp
  · rfl
theorem mvs_far {q : Int → Bool} : ∀ {l : List Entry}, (∀ e ∈ l, q e.debit = false ∧ q e.credit = false) → mvs q l = 0
  | [], _ => rfl
  | e :: l, h => by
    rw [mvs_cons, mvs_far fun x hx => h x (by simp [hx])]
    unfold mv
    rw [(h e (by simp)).1, (h e (by simp)).2]
    rfl
theorem Deeds.taxes {V : Env} {es : List Entry} {a : Acc} {x : Deed} {ys : List Entry} {a' : Acc} {n : Nat} (h : Deeds V es a x ys a') (ha : AccOk a n) (p : Int) (p0 : 1 ≤ p) (p1 : p ≤ 99) : mvs (fun z => z == 400 + p) ys = taxS V p a - taxS V p a' := by
  have hb := Bill.ok_iff.1 ha.b
  have hpy := payer_bd ha.b
  have hg := guest_bd a.b.stay
  have hpl := hb.2.2.2.2.2.1
  have hch := hb.2.2.2.2.1
  clear hb
  have hz : ∀ (frm tgt cents : Int), tgt ≠ 400 + p → frm ≠ 400 + p → mvs (fun z => z == 400 + p) (mvL x.day frm tgt cents a.b.stay) = 0 := by
    intro frm tgt cents h1 h2
    rw [mvs_mvL, if_neg (show ¬ (tgt == 400 + p) = true by simpa using h1), if_neg (show ¬ (frm == 400 + p) = true by simpa using h2)]
    split <;> rfl
  have hno : ∀ b : Acc, b.st ≠ 3 → taxS V p b = 0 := fun b h => by unfold taxS; rw [if_neg (fun h' => h h'.1)]
  cases h
  case book k s => rw [hno a (by omega), hno _ (by simp)]; rfl
  case pay n c k s d h m => show _ = taxS V p a - taxS V p a; rw [hz _ _ _ (by omega) (by omega)]; omega
  case late k s m => show _ = taxS V p a - taxS V p a; rw [hz _ _ _ (by omega) (by omega)]; omega
  case gone k s d =>
    rw [hno a (by omega), hno _ (by simp)]
    by_cases h3 : (!a.b.ok || !amt a.paid || !inB x.day 0 366) = true
    · rw [entriesR_no h3]; rfl
    · have h4 : (a.b.ok = true ∧ amt a.paid = true) ∧ inB x.day 0 366 = true := by simpa using h3
      rw [entriesR_ok h4.1.1 h4.1.2 h4.2]
      refine mvs_far fun e he => ?_
      rcases entriesL_mem he with ⟨h5, rfl⟩ | ⟨h5, rfl⟩
      · unfold keptE
        simp only [beq_eq_false_iff_ne]
        omega
      · unfold backE
        simp only [beq_eq_false_iff_ne]
        omega
  case keeps k s d => rw [hz _ _ _ (by omega) (by omega), hno a (by omega), hno _ (by simp)]; rfl
  case arrive k s => rw [hno a (by omega), hno _ (by simp)]; rfl
  case leave n c k s h =>
    have hcb := comes_bd ha.b h
    obtain ⟨r, hall⟩ := comes_all h
    have hn : taxN V.ts a.b = n := by unfold taxN; rw [hall]; rfl
    have hn3 : taxS V p { a with st := 3 } = if a.b.place = p then n else 0 := by
      unfold taxS
      rw [hn]
      simp
    rw [mvs_append, mvs_append, hz (300 + a.b.place) (payerA a.b) a.b.price (by omega) (by omega), hz (300 + a.b.place) (700 + a.b.channel) _ (by omega) (by omega), mvs_mvL, if_neg (show ¬ (payerA a.b == 400 + p) = true by simp; omega), hno a (by omega), hn3]
    by_cases hp : a.b.place = p
    · rw [if_pos (show ((400 + a.b.place) == 400 + p) = true by simp [hp]), if_pos hp]
      split <;> omega
    · rw [if_neg (show ¬ ((400 + a.b.place) == 400 + p) = true by simp; omega), if_neg hp]
      split <;> omega
  case walk k s h => rw [mvs_append, hz _ _ _ (by omega) (by omega), hz _ _ _ (by omega) (by omega), hno a (by omega), hno _ (by simp)]; rfl
  case back k s d m => show _ = taxS V p a - taxS V p a; rw [hz _ _ _ (by omega) (by omega)]; omega
  case voucher n c k s d h => show _ = taxS V p a - taxS V p a; rw [hz _ _ _ (by omega) (by omega)]; omega
theorem taxes_run {V : Env} {bills : List Bill} (hV : EnvOk V) (hb : billsOk bills = true) (l : List Deed) {p : Int} (p0 : 1 ≤ p) (p1 : p ≤ 99) : mvs (fun z => z == 400 + p) (runAll V bills l).1.es = -((runAll V bills l).1.ac.map (taxS V p)).sum := by
  have key := run_ind (V := V) (bills := bills) (fun l c _ => CrsOk c l.length ∧ mvs (fun z => z == 400 + p) c.es = -(c.ac.map (taxS V p)).sum) ⟨crs0_ok hb, ?_⟩ ?_ ?_ l
  · exact key.2
  · have : ((crs0 bills).ac.map (taxS V p)).sum = 0 := by
      unfold crs0
      induction bills with
      | nil => rfl
      | cons b bs ih =>
        rw [List.map_cons, List.map_cons, List.sum_cons]
        have h0 : taxS V p ⟨b, 0, 0⟩ = 0 := by unfold taxS; rw [if_neg (by simp)]
        rw [h0]
        have : billsOk bs = true := by
          obtain ⟨g1, g2⟩ := billsOk_iff.1 hb
          exact billsOk_iff.2 ⟨fun x hx => g1 x (by simp [hx]), by unfold stays at g2 ⊢; rw [List.map_cons] at g2; exact (List.nodup_cons.1 g2).2⟩
        rw [ih this]
        rfl
    rw [this]
    rfl
  · rintro l x c c' er ⟨h2, h3⟩ hf hs
    obtain ⟨g1, g2, g3⟩ := hs.ok hV hf h2
    refine ⟨by rw [List.length_append]; exact g1, ?_⟩
    cases hs
    case broke k m =>
      have hfm := (formed_iff.1 hf).2.2.2 k
      show mvs _ (c.es ++ mvL _ _ _ _ _) = _
      rw [mvs_append, h3, mvs_mvL, if_neg (show ¬ ((800 + x.stay) == 400 + p) = true by simp; omega), if_neg (show ¬ ((200 + x.stay) == 400 + p) = true by simp; omega)]
      split <;> simp
    case deed k i a hi ha ys a' hd =>
      obtain ⟨hlt, hat⟩ := List.getElem?_eq_some_iff.1 ha
      have hac := h2.ac a (List.mem_of_getElem? ha)
      show mvs _ (c.es ++ ys) = -((c.ac.set i a').map (taxS V p)).sum
      rw [mvs_append, h3, sum_set _ _ _ hlt, hat, hd.taxes hac p p0 p1]
      omega
  · rintro l x c er e ⟨h2, h3⟩ he
    exact ⟨by rw [List.length_append]; exact h2.more, h3⟩
end Go.Proofs.YtmlhoojcdidgkaaGreat
