/-
  Package returns: the ledger of a run agrees with the bills that are left (no Go in sight).
-/
import Derived.Test.YtmlhoojcdidgkaaGreatRetP
namespace Go.Proofs.YtmlhoojcdidgkaaGreat
set_option linter.unusedSimpArgs false
set_option linter.unusedVariables false
set_option maxHeartbeats 1000000
theorem placeN_left {V : Env} {bills : List Bill} (hV : EnvOk V) (hb : billsOk bills = true) (l : List Deed) (p : Int) : placeN V.ts (leftF bills l (runAll V bills l).2) p = ((runAll V bills l).1.ac.map (taxS V p)).sum := by
  have hR := run_all hV hb l
  have hd := hR.did
  have hbl := hR.bills
  unfold leftF
  generalize (runAll V bills l).1.ac = ac at *
  generalize (runAll V bills l).2 = errs at *
  subst hbl
  clear hR hb
  induction ac with
  | nil => rfl
  | cons a ac ih =>
    have ih := ih fun x hx => hd x (by simp [hx])
    rw [List.map_cons, List.map_cons, List.sum_cons, ← ih, List.filter_cons]
    have h5 := (hd a (by simp)).left
    have hc : ∀ (b : Bill) (bs : List Bill), placeN V.ts (b :: bs) p = (if b.place = p then taxN V.ts b else 0) + placeN V.ts bs p := fun b bs => by
      unfold placeN
      rw [List.filter_cons]
      by_cases h : b.place = p
      · simp [h]
      · simp [h]
    unfold taxS
    by_cases h3 : a.st = 3
    · rw [h5, if_pos (by simp [h3]), hc]
      by_cases hp : a.b.place = p
      · rw [if_pos hp, if_pos ⟨h3, hp⟩]
      · rw [if_neg hp, if_neg (fun h => hp h.2)]
    · rw [h5, if_neg (by simp [h3]), if_neg (fun h => h3 h.1)]
      omega
theorem days_run {V : Env} {bills : List Bill} (hV : EnvOk V) (hb : billsOk bills = true) (l : List Deed) : ∀ e ∈ (runAll V bills l).1.es, e.day ≤ 366 := fun e he => by
  have := (Entry.ok_iff.1 ((run_ok hV hb l).1.es e he).1).1
  omega
theorem bal_run {V : Env} {bills : List Bill} (hV : EnvOk V) (hb : billsOk bills = true) (l : List Deed) (q : Int → Bool) : bal q (runAll V bills l).1.es 366 = mvs q (runAll V bills l).1.es := by
  unfold bal
  rw [upto_le (days_run hV hb l)]
theorem bal_taxes {V : Env} {bills : List Bill} (hV : EnvOk V) (hb : billsOk bills = true) (l : List Deed) {p : Int} (p0 : 1 ≤ p) (p1 : p ≤ 99) : bal (fun z => z == 400 + p) (runAll V bills l).1.es 366 = -placeN V.ts (leftF bills l (runAll V bills l).2) p := by
  rw [bal_run hV hb, taxes_run hV hb l p0 p1, placeN_left hV hb]
theorem ask1_run {ts : List Tax} {left : List Bill} {es : List Entry} (h : ∀ p : Int, 1 ≤ p → p ≤ 99 → bal (fun z => z == 400 + p) es 366 = -placeN ts left p) : ask1R ts left es = if far1 ts left = true then (false, 3) else (true, 0) := by
  unfold ask1R
  split
  · rfl
  · next hf =>
    have : all1 es (placesL ts left 99) = true := by
      unfold all1
      rw [List.all_eq_true]
      intro x hx
      obtain ⟨k, hk, rfl⟩ := List.mem_map.1 hx
      have hk := List.mem_range.1 hk
      have hnf : ¬ 1000000000 < (placeV ts left k).1.2 := fun h' => hf (List.any_eq_true.2 ⟨_, hx, decide_eq_true h'⟩)
      unfold placeOk
      rw [placeV_val ts left hk] at hnf ⊢
      simp only at hnf ⊢
      rw [show (400 + ((k : Int) + 1)) = 400 + ((k : Int) + 1) from rfl, h _ (by omega) (by omega), beq_iff_eq]
      omega
    rw [this]
theorem agrees_left_run {V : Env} {bills : List Bill} (hV : EnvOk V) (hb : billsOk bills = true) (l : List Deed) {c : Int} (c0 : 0 ≤ c) (c1 : c ≤ 29) :
    agrees (comms V.p V.d (ofCh (leftF bills l (runAll V bills l).2) c)) (comms V.p V.d (ofCh (leftF bills l (runAll V bills l).2) c)) (ofCh (leftF bills l (runAll V bills l).2) c) (runAll V bills l).1.es (700 + c) = true := by
  refine agrees_iff.2 ⟨rfl, ?_, fun e he => ?_⟩
  · unfold movedL comms
    refine List.map_congr_left fun b hbm => ?_
    have hbl := (List.mem_filter.1 hbm).1
    have hbc : b.channel = c := by simpa using (List.mem_filter.1 hbm).2
    have hd : didR l (runAll V bills l).2 5 b.stay = true := (List.mem_filter.1 hbl).2
    have hbb := (List.mem_filter.1 hbl).1
    obtain ⟨m, hm, rfl⟩ := List.getElem_of_mem hbb
    have hbo := (billsOk_iff.1 hb).1 _ hbb
    rcases left_of (l := l) hV hb hm with ⟨n, fee, r, d5, h1, h2, h3, h4, h5, h6⟩ | ⟨d5, _, _, _, _, _⟩ | ⟨d5, _, _, _, _⟩
    · rw [hbc] at h4
      rw [h4]
      have := oneR_ok hV.p hbo
      rw [this] at h2
      injection h2 with h2
      exact h2.symm
    · rw [d5] at hd; cases hd
    · rw [d5] at hd; cases hd
  · by_cases h : e.debit = 700 + c ∨ e.credit = 700 + c
    · obtain ⟨b, hbm, hbs⟩ := List.mem_map.1 (fees_run hV hb l c0 c1 e he h)
      have hbl := (List.mem_filter.1 hbm).1
      have hbc : b.channel = c := by simpa using (List.mem_filter.1 hbm).2
      cases hd : didR l (runAll V bills l).2 5 b.stay
      · refine .inr (.inr ?_)
        obtain ⟨m, hm, rfl⟩ := List.getElem_of_mem hbl
        rw [← hbs, ← hbc]
        rcases left_of (l := l) hV hb hm with ⟨n, fee, r, d5, h1, h2, h3, h4, h5, h6⟩ | ⟨d5, _, _, _, h4, _⟩ | ⟨d5, _, _, h4, _⟩
        · rw [hd] at d5; cases d5
        · exact h4
        · exact h4
      · refine .inr (.inl ?_)
        rw [← hbs]
        exact List.mem_map.2 ⟨b, List.mem_filter.2 ⟨List.mem_filter.2 ⟨hbl, hd⟩, by simpa using hbc⟩, rfl⟩
    · exact .inl ⟨fun h' => h (.inl h'), fun h' => h (.inr h')⟩
theorem ask3_run {V : Env} {bills : List Bill} (hV : EnvOk V) (hb : billsOk bills = true) (l : List Deed) : ask3R V.p V.d (leftF bills l (runAll V bills l).2) (runAll V bills l).1.es = true := by
  unfold ask3R
  rw [List.all_eq_true]
  intro b hbl
  have hd : didR l (runAll V bills l).2 5 b.stay = true := (List.mem_filter.1 hbl).2
  have hbb := (List.mem_filter.1 hbl).1
  obtain ⟨m, hm, rfl⟩ := List.getElem_of_mem hbb
  have hbo := (billsOk_iff.1 hb).1 _ hbb
  rcases left_of (l := l) hV hb hm with ⟨n, fee, r, d5, h1, h2, h3, h4, h5, h6⟩ | ⟨d5, _, _, _, _, _⟩ | ⟨d5, _, _, _, _⟩
  · unfold houseOk
    rw [h3, beq_iff_eq]
    have := oneR_ok hV.p hbo
    rw [this] at h2
    injection h2 with h2
    rw [h2]
    omega
  · rw [d5] at hd; cases hd
  · rw [d5] at hd; cases hd
/-- Whether a sum is too great. -/
def farAll (ts : List Tax) (left : List Bill) (p d : Int) : Bool := far1 ts left || (List.range 30).any (chFar p d left)
theorem agree_run {V : Env} {bills : List Bill} {l : List Deed} (hok : runOk V bills = true) (hl : l.length ≤ 500) :
    agreeR (runAll V bills l).1.es (leftF bills l (runAll V bills l).2) V.ts V.p V.d = if farAll V.ts (leftF bills l (runAll V bills l).2) V.p V.d = true then (false, 3) else (true, 0) := by
  obtain ⟨hV, hb, hbl, hts⟩ := runOk_iff.1 hok
  have hled := run_led hok hl
  have hc : checkR V.ts (leftF bills l (runAll V bills l).2) = 0 := checkR_zero.2 ⟨Nat.le_trans (leftF_len _ _ _) hbl, leftF_ok hb _ _, hts⟩
  have h1 := ask1_run (ts := V.ts) (left := leftF bills l (runAll V bills l).2) (fun p p0 p1 => bal_taxes hV hb l p0 p1)
  have h3 := ask3_run hV hb l
  have h2 : ask2R V.p V.d (leftF bills l (runAll V bills l).2) (runAll V bills l).1.es = if (List.range 30).any (chFar V.p V.d (leftF bills l (runAll V bills l).2)) = true then (false, 3) else (true, 0) := by
    unfold ask2R
    split
    · rfl
    · have : all2 V.p V.d (leftF bills l (runAll V bills l).2) (runAll V bills l).1.es 30 = true := by
        unfold all2
        rw [List.all_eq_true]
        intro j hj
        have hj := List.mem_range.1 hj
        exact agrees_left_run hV hb l (by omega) (by omega)
      rw [this]
  unfold agreeR
  rw [if_neg (by simp [hc]), hled, hV.p, if_neg (by simp), h1, h2, h3]
  unfold farAll everyR
  cases far1 V.ts (leftF bills l (runAll V bills l).2) <;> cases (List.range 30).any (chFar V.p V.d (leftF bills l (runAll V bills l).2)) <;> rfl
end Go.Proofs.YtmlhoojcdidgkaaGreat
