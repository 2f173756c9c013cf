/-
  The law 'ReturnsCents': the plain part (no Go in sight).
-/
import Derived.Test.YtmlhoojcdidgkaaGreatRetQ
namespace Go.Proofs.YtmlhoojcdidgkaaGreat
set_option linter.unusedSimpArgs false
set_option linter.unusedVariables false
set_option maxHeartbeats 1000000
theorem agree_near {es : List Entry} {left : List Bill} {ts : List Tax} {p d : Int} (hc : checkR ts left = 0) (hled : ledOk es = true) (hp : partOk p d = true) (hf : farAll ts left p d = false) :
    agreeR es left ts p d = (all1 es (placesL ts left 99) && all2 p d left es 30 && ask3R p d left es, 0) := by
  unfold farAll at hf
  obtain ⟨f1, f2⟩ := Bool.or_eq_false_iff.1 hf
  unfold agreeR
  rw [if_neg (by simp [hc]), hled, hp, if_neg (by simp)]
  have h1 : ask1R ts left es = (all1 es (placesL ts left 99), 0) := by unfold ask1R; rw [if_neg (by rw [f1]; simp)]
  have h2 : ask2R p d left es = (all2 p d left es 30, 0) := by unfold ask2R; rw [if_neg (by rw [f2]; simp)]
  rw [h1, h2]
  unfold everyR
  simp
/-- A cent of an account. -/
structure Cent (X : Entry) (acc : Int) : Prop where
  day : X.day = 366
  ok : X.ok = true
  mv : mv (fun a => a == acc) X = 1 ∨ mv (fun a => a == acc) X = -1
  touch : X.debit = acc ∨ X.credit = acc
theorem cent_of {acc ref : Int} (h1 : 100 ≤ acc) (h2 : acc ≤ 899) (r0 : 1 ≤ ref) (r1 : ref ≤ 1000000) : Cent ⟨366, acc, 900, 1, ref⟩ acc ∧ Cent ⟨366, 900, acc, 1, ref⟩ acc := by
  refine ⟨⟨rfl, Entry.ok_iff.2 ⟨by simp only; omega, by simp only; omega, by simp only; omega, by simp only; omega, by simp only; omega, by simp only; omega⟩, ?_, .inl rfl⟩, ⟨rfl, Entry.ok_iff.2 ⟨by simp only; omega, by simp only; omega, by simp only; omega, by simp only; omega, by simp only; omega, by simp only; omega⟩, ?_, .inr rfl⟩⟩
  · rw [mv_acc, if_pos rfl, if_neg (by simp only; omega)]
    simp
  · rw [mv_acc, if_neg (by simp only; omega), if_pos rfl]
    simp
theorem cent_led {es : List Entry} {X : Entry} {acc : Int} (hled : ledOk es = true) (hl : es.length < 5000) (hX : Cent X acc) : ledOk (es ++ [X]) = true ∧ postR es X = (es ++ [X], 0) := by
  obtain ⟨h1, h2, h3⟩ := ledOk_iff.1 hled
  have hr : begun es X.day = false := by
    rw [hX.day]
    by_cases h0 : 0 < es.length
    · rw [begun_at h0, decide_eq_false_iff_not]
      have := (Entry.ok_iff.1 (h2 _ (List.getElem_mem (by omega : es.length - 1 < es.length)))).1
      omega
    · have : es = [] := List.eq_nil_of_length_eq_zero (by omega)
      subst this
      rfl
  have hp : postR es X = (es ++ [X], 0) := by
    unfold postR
    rw [hled, hX.ok, if_neg (by simp), hr, if_neg (by simp), if_neg (by omega)]
  refine ⟨?_, hp⟩
  refine ledOk_iff.2 ⟨by simp; omega, fun e he => ?_, ?_⟩
  · rcases List.mem_append.1 he with he | he
    · exact h2 e he
    · obtain rfl := List.mem_singleton.1 he
      exact hX.ok
  · refine List.pairwise_append.2 ⟨h3, List.pairwise_singleton _ _, fun a ha b hb => ?_⟩
    obtain rfl := List.mem_singleton.1 hb
    rw [hX.day]
    have := (Entry.ok_iff.1 (h2 a ha)).1
    omega
theorem cent_place {es : List Entry} {left : List Bill} {ts : List Tax} {X : Entry} {pl : Int} (h : ∀ p : Int, 1 ≤ p → p ≤ 99 → bal (fun z => z == 400 + p) es 366 = -placeN ts left p) (p0 : 1 ≤ pl) (p1 : pl ≤ 99) (hX : Cent X (400 + pl)) (hf : far1 ts left = false) : all1 (es ++ [X]) (placesL ts left 99) = false := by
  unfold all1
  rw [List.all_eq_false]
  obtain ⟨k, hk⟩ : ∃ k : Nat, pl = (k : Int) + 1 := ⟨(pl - 1).toNat, by omega⟩
  have hk99 : k < 99 := by omega
  have hm : placeV ts left k ∈ placesL ts left 99 := List.mem_map.2 ⟨k, List.mem_range.2 hk99, rfl⟩
  refine ⟨_, hm, ?_⟩
  have hnf : ¬ 1000000000 < (placeV ts left k).1.2 := fun h' => by
    have : far1 ts left = true := List.any_eq_true.2 ⟨_, hm, decide_eq_true h'⟩
    rw [hf] at this
    cases this
  unfold placeOk
  rw [placeV_val ts left hk99] at hnf ⊢
  simp only at hnf ⊢
  rw [← hk] at hnf ⊢
  rw [bal_one, if_pos (by rw [hX.day]; exact Int.le_refl _), h _ p0 p1, beq_iff_eq]
  have := hX.mv
  omega
theorem cent_channel {es : List Entry} {own : List Bill} {want : List Int} {acc : Int} {X : Entry} (ha : agrees want want own es acc = true) (hX : Cent X acc) : agrees want want own (es ++ [X]) acc = false := by
  obtain ⟨_, h1, h2⟩ := agrees_iff.1 ha
  have hz : ∀ r, r ∉ stays own → movedR es acc r = 0 := fun r hr => by
    refine Classical.byContradiction fun hne => ?_
    obtain ⟨e, he, rfl, ht⟩ := movedR_touch hne
    rcases h2 e he with h | h | h
    · rcases ht with t | t
      · exact h.1 t
      · exact h.2 t
    · exact hr h
    · exact hne h
  have hmv := hX.mv
  refine agrees_no fun ⟨_, g1, g2⟩ => ?_
  by_cases hr : X.ref ∈ stays own
  · obtain ⟨b, hb, hbs⟩ := List.mem_map.1 hr
    obtain ⟨j, hj, rfl⟩ := List.getElem_of_mem hb
    have e1 := List.getElem_of_eq (h1.trans g1.symm) (i := j) (by unfold movedL; simpa using hj)
    rw [movedL_at hj, movedL_at hj, movedR_snoc, if_pos hbs.symm] at e1
    omega
  · rcases g2 X (by simp) with h | h | h
    · rcases hX.touch with t | t
      · exact h.1 t
      · exact h.2 t
    · exact hr h
    · rw [movedR_snoc, if_pos rfl, hz _ hr] at h
      omega
theorem cent_house {es : List Entry} {left : List Bill} {p d : Int} {b : Bill} {X : Entry} (ha : ask3R p d left es = true) (hb : b ∈ left) (hX : Cent X (300 + b.place)) (hr : X.ref = b.stay) : ask3R p d left (es ++ [X]) = false := by
  unfold ask3R at ha ⊢
  rw [List.all_eq_false]
  refine ⟨b, hb, ?_⟩
  have h1 := List.all_eq_true.1 ha b hb
  unfold houseOk at h1 ⊢
  rw [beq_iff_eq] at h1 ⊢
  rw [movedR_snoc, if_pos hr]
  have := hX.mv
  omega
theorem far_no {ts : List Tax} {left : List Bill} {p d : Int} (h : farAll ts left p d = false) : far1 ts left = false := (Bool.or_eq_false_iff.1 h).1
/-- What the law says of the entry. -/
theorem cents_run {V : Env} {bills : List Bill} {l : List Deed} (hok : runOk V bills = true) (hl : l.length ≤ 60) (hf : farAll V.ts (leftF bills l (runAll V bills l).2) V.p V.d = false) {X : Entry} {acc : Int} (hX : Cent X acc)
    (hc : (∃ pl, 1 ≤ pl ∧ pl ≤ 99 ∧ acc = 400 + pl) ∨ (∃ ch, 0 ≤ ch ∧ ch ≤ 29 ∧ acc = 700 + ch) ∨ (∃ b ∈ leftF bills l (runAll V bills l).2, acc = 300 + b.place ∧ X.ref = b.stay)) :
    postR (runAll V bills l).1.es X = ((runAll V bills l).1.es ++ [X], 0) ∧ agreeR ((runAll V bills l).1.es ++ [X]) (leftF bills l (runAll V bills l).2) V.ts V.p V.d = (false, 0) := by
  obtain ⟨hV, hb, hbl, hts⟩ := runOk_iff.1 hok
  have hled := run_led hok (l := l) (by omega)
  have hlen := (run_ok hV hb l).1.len
  obtain ⟨g1, g2⟩ := cent_led hled (by omega) hX
  have hck : checkR V.ts (leftF bills l (runAll V bills l).2) = 0 := checkR_zero.2 ⟨Nat.le_trans (leftF_len _ _ _) hbl, leftF_ok hb _ _, hts⟩
  refine ⟨g2, ?_⟩
  rw [agree_near hck g1 hV.p hf]
  have key : (all1 ((runAll V bills l).1.es ++ [X]) (placesL V.ts (leftF bills l (runAll V bills l).2) 99) && all2 V.p V.d (leftF bills l (runAll V bills l).2) ((runAll V bills l).1.es ++ [X]) 30 && ask3R V.p V.d (leftF bills l (runAll V bills l).2) ((runAll V bills l).1.es ++ [X])) = false := by
    rcases hc with ⟨pl, p0, p1, rfl⟩ | ⟨ch, c0, c1, rfl⟩ | ⟨b, hbm, rfl, hr⟩
    · rw [cent_place (fun p p0 p1 => bal_taxes hV hb l p0 p1) p0 p1 hX (far_no hf)]
      simp
    · have : all2 V.p V.d (leftF bills l (runAll V bills l).2) ((runAll V bills l).1.es ++ [X]) 30 = false := by
        unfold all2
        rw [List.all_eq_false]
        refine ⟨ch.toNat, List.mem_range.2 (by omega), ?_⟩
        unfold chOk
        have e : ((ch.toNat : Nat) : Int) = ch := by omega
        rw [e, cent_channel (agrees_left_run hV hb l c0 c1) hX]
        simp
      rw [this]
      simp
    · rw [cent_house (ask3_run hV hb l) hbm hX hr]
      simp
  rw [key]
end Go.Proofs.YtmlhoojcdidgkaaGreat
