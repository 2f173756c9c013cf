/-
  The law 'ReturnsUndone': the plain part (no Go in sight).
-/
import Derived.Test.YtmlhoojcdidgkaaGreatReCentsP
import Derived.Test.YtmlhoojcdidgkaaGreatM16
import Derived.Test.YtmlhoojcdidgkaaGreatM11
namespace Go.Proofs.YtmlhoojcdidgkaaGreat
set_option linter.unusedSimpArgs false
set_option linter.unusedVariables false
set_option maxHeartbeats 1000000
theorem movedR_own {ys : List Entry} {acc s : Int} (h : ∀ e ∈ ys, e.ref = s) : movedR ys acc s = mvs (fun a => a == acc) ys := by
  unfold movedR
  rw [List.filter_eq_self.2 (fun e he => by simpa using h e he)]
/-- What is moved from a tax account by the entries of a stay. -/
theorem taxR_run {V : Env} {bills : List Bill} (hV : EnvOk V) (hb : billsOk bills = true) (l : List Deed) {p : Int} (p0 : 1 ≤ p) (p1 : p ≤ 99) : ∀ a ∈ (runAll V bills l).1.ac, movedR (runAll V bills l).1.es (400 + p) a.b.stay = -taxS V p a := by
  have key := run_ind (V := V) (bills := bills) (fun l c _ => CrsOk c l.length ∧ ∀ a ∈ c.ac, movedR c.es (400 + p) a.b.stay = -taxS V p a) ⟨crs0_ok hb, fun a ha => ?_⟩ ?_ ?_ l
  · exact key.2
  · obtain ⟨b, _, rfl⟩ := List.mem_map.1 ha
    unfold taxS
    rw [if_neg (by simp)]
    rfl
  · rintro l x c c' er ⟨h2, h3⟩ hf hs
    obtain ⟨g1, g2, g3⟩ := hs.ok hV hf h2
    refine ⟨by rw [List.length_append]; exact g1, ?_⟩
    have hfm := formed_iff.1 hf
    cases hs
    case broke k m =>
      have hfm := hfm.2.2.2 k
      intro a ha
      show movedR (c.es ++ mvL _ _ _ _ _) _ _ = _
      have hz : movedR (mvL x.day (200 + x.stay) (800 + x.stay) (sumE (200 + x.stay) (fun _ => true) c.es) 0) (400 + p) a.b.stay = 0 := by
        rw [movedR_mvL]
        split
        · rw [if_neg (by omega), if_neg (by omega)]; rfl
        · rfl
      rw [movedR_app, h3 a ha]
      first | rw [hz] | skip
      omega
    case deed k i a hi ha ys a' hdd =>
      obtain ⟨hlt, hat⟩ := List.getElem?_eq_some_iff.1 ha
      obtain ⟨_, hst⟩ := idx_at hi
      have ham := List.mem_of_getElem? ha
      have hac := h2.ac a ham
      have hcents : x.kind = 2 ∨ x.kind = 7 ∨ x.kind = 8 → 1 ≤ x.cents ∧ x.cents ≤ 1000000000 := fun h => hfm.2.2.1 (by omega)
      have hdy := h2.day
      have hes := hdd.es_ok hac hV.k hV.p (by omega) (by omega) hcents
      have hb' : a'.b = a.b := hdd.leftSt.2.2
      intro b hb
      obtain ⟨j, hj, rfl⟩ := List.getElem_of_mem hb
      have hj' : j < c.ac.length := by simpa using hj
      show movedR (c.es ++ ys) (400 + p) (c.ac.set i a')[j].b.stay = -taxS V p (c.ac.set i a')[j]
      rw [List.getElem_set]
      split
      · rw [hb', movedR_app, h3 a ham, movedR_own (fun e he => (hes e he).2.2), hdd.taxes hac p p0 p1]
        omega
      · next hne =>
        have hns : a.b.stay ≠ c.ac[j].b.stay := fun heq => hne (same_of3 h2.stays hlt hj' (by rw [hat]; exact heq))
        rw [movedR_app, h3 _ (List.getElem_mem hj'), movedR_far (fun e he => by rw [(hes e he).2.2]; exact hns)]
        omega
  · rintro l x c er e ⟨h2, h3⟩ he
    exact ⟨by rw [List.length_append]; exact h2.more, h3⟩
/-! ### The ledger without the entries of a stay -/
theorem movedR_undoneE (es : List Entry) (acc s day r : Int) : movedR (es ++ (openE es s).map (undone day)) acc r = if r = s then 0 else movedR es acc r := by
  have hnew : ∀ x ∈ (openE es s).map (undone day), x.ref = s := by
    intro x hx
    obtain ⟨y, hy, rfl⟩ := List.mem_map.1 hx
    exact openE_ref es s y hy
  rw [movedR_app]
  by_cases h : r = s
  · subst h
    rw [if_pos rfl, movedR_own hnew, mvs_undone]
    have h2 := mvs_fold (fun a => a == acc) r es []
    unfold openE movedR
    rw [h2, mvs_nil]
    have : (es.filter fun e => e.ref == r) = es.filter fun e => decide (e.ref = r) := List.filter_congr fun e _ => by simp [Bool.beq_eq_decide_eq]
    rw [this]
    omega
  · rw [if_neg h, movedR_far (l := (openE es s).map (undone day)) (fun e he => by rw [hnew e he]; exact fun h' => h h'.symm)]
    omega
theorem mvs_split (q : Int → Bool) (s : Int) : ∀ es : List Entry, mvs q es = mvs q (es.filter fun e => decide (e.ref ≠ s)) + mvs q (es.filter fun e => e.ref == s)
  | [] => rfl
  | e :: es => by
    rw [List.filter_cons, List.filter_cons, mvs_cons, mvs_split q s es]
    by_cases h : e.ref = s <;> simp [h, mvs_cons] <;> omega
/-- A list without one of its places. -/
def drop1 {α : Type} (l : List α) (k : Nat) : List α := l.take k ++ l.drop (k + 1)
theorem drop1_split {α : Type} {l : List α} {k : Nat} (h : k < l.length) : l = l.take k ++ l[k] :: l.drop (k + 1) := by
  rw [List.getElem_cons_drop, List.take_append_drop]
theorem drop1_sub {α : Type} (l : List α) (k : Nat) : (drop1 l k).Sublist l := by
  have h := (List.Sublist.refl (l.take k)).append (List.drop_sublist_drop_left l (Nat.le_succ k))
  rw [List.take_append_drop] at h
  exact h
theorem drop1_len {α : Type} (l : List α) (k : Nat) : (drop1 l k).length ≤ l.length := (drop1_sub l k).length_le
theorem drop1_stays {l : List Bill} (h : (stays l).Nodup) {k : Nat} (hk : k < l.length) : ∀ b ∈ drop1 l k, b.stay ≠ l[k].stay := by
  intro b hb heq
  have h2 := h
  unfold stays at h2
  rw [drop1_split hk, List.map_append, List.map_cons, List.nodup_append] at h2
  obtain ⟨_, h3, h4⟩ := h2
  rcases List.mem_append.1 hb with hb | hb
  · exact h4 _ (List.mem_map.2 ⟨b, hb, rfl⟩) _ (List.mem_cons_self) heq
  · exact (List.nodup_cons.1 h3).1 (List.mem_map.2 ⟨b, hb, heq⟩)
theorem placeN_drop1 (ts : List Tax) {l : List Bill} {k : Nat} (h : k < l.length) (p : Int) : placeN ts l p = placeN ts (drop1 l k) p + if l[k].place = p then taxN ts l[k] else 0 := by
  have e : placeN ts l p = placeN ts (l.take k ++ l[k] :: l.drop (k + 1)) p := by rw [← drop1_split h]
  rw [e]
  unfold placeN drop1
  rw [List.filter_append, List.filter_append, List.filter_cons, List.map_append, List.map_append, List.sum_append, List.sum_append]
  by_cases hp : l[k].place = p
  · rw [if_pos hp, if_pos (by simp [hp]), List.map_cons, List.sum_cons]
    omega
  · rw [if_neg hp, if_neg (by simp [hp])]
    omega
theorem comms_sum_drop1 {p d : Int} (hp : partOk p d = true) {l : List Bill} (hb : ∀ b ∈ l, b.ok = true) {k : Nat} (h : k < l.length) (c : Int) : (comms p d (ofCh (drop1 l k) c)).sum ≤ (comms p d (ofCh l c)).sum := by
  have e : (comms p d (ofCh l c)).sum = (comms p d (ofCh (l.take k ++ l[k] :: l.drop (k + 1)) c)).sum := by rw [← drop1_split h]
  rw [e]
  have hn := (comm_bd hp (Bill.ok_iff.1 (hb _ (List.getElem_mem h))).2.2.2.2.2.2.1.1).1
  unfold comms ofCh drop1
  rw [List.filter_append, List.filter_append, List.filter_cons, List.map_append, List.map_append, List.sum_append, List.sum_append]
  split
  · rw [List.map_cons, List.sum_cons]
    omega
  · omega
theorem far_drop1 {ts : List Tax} {p d : Int} (hp : partOk p d = true) {l : List Bill} (hb : ∀ b ∈ l, b.ok = true) {k : Nat} (h : k < l.length) (hf : farAll ts l p d = false) : farAll ts (drop1 l k) p d = false := by
  unfold farAll at hf ⊢
  obtain ⟨f1, f2⟩ := Bool.or_eq_false_iff.1 hf
  rw [Bool.or_eq_false_iff]
  constructor
  · unfold far1 at f1 ⊢
    rw [List.any_eq_false] at f1 ⊢
    intro x hx
    obtain ⟨j, hj, rfl⟩ := List.mem_map.1 hx
    have hj := List.mem_range.1 hj
    have h1 := f1 (placeV ts l j) (List.mem_map.2 ⟨j, List.mem_range.2 hj, rfl⟩)
    rw [placeV_val ts _ hj] at h1 ⊢
    have h2 := placeN_drop1 ts h ((j : Int) + 1)
    have h3 := taxN_nn ts l[k]
    simp only [decide_eq_true_eq] at h1 ⊢
    split at h2 <;> omega
  · rw [List.any_eq_false] at f2 ⊢
    intro j hj
    have h1 := f2 j hj
    unfold chFar at h1 ⊢
    have h2 := comms_sum_drop1 hp hb h (j : Int)
    simp only [decide_eq_true_eq] at h1 ⊢
    omega
theorem mem_stays {l : List Bill} {k : Nat} (hk : k < l.length) {c s : Int} (h : s ∈ stays (ofCh l c)) (hne : s ≠ l[k].stay) : s ∈ stays (ofCh (drop1 l k) c) := by
  obtain ⟨b, hb, rfl⟩ := List.mem_map.1 h
  obtain ⟨h1, h2⟩ := List.mem_filter.1 hb
  refine List.mem_map.2 ⟨b, List.mem_filter.2 ⟨?_, h2⟩, rfl⟩
  have h1' := h1
  rw [drop1_split hk] at h1'
  rcases List.mem_append.1 h1' with h1' | h1'
  · exact List.mem_append.2 (.inl h1')
  · rcases List.mem_cons.1 h1' with rfl | h1'
    · exact absurd rfl hne
    · exact List.mem_append.2 (.inr h1')
theorem stay_eq {left : List Bill} (hn : (stays left).Nodup) {k : Nat} (hk : k < left.length) {b : Bill} (hb : b ∈ left) (hs : b.stay = left[k].stay) : b = left[k] := by
  obtain ⟨i, hi, rfl⟩ := List.getElem_of_mem hb
  have hn2 := List.pairwise_iff_getElem.1 hn
  rcases Nat.lt_trichotomy i k with h' | h' | h'
  · have := hn2 i k (by simpa [stays] using hi) (by simpa [stays] using hk) h'
    simp only [stays, List.getElem_map] at this
    exact absurd hs this
  · subst h'; rfl
  · have := hn2 k i (by simpa [stays] using hk) (by simpa [stays] using hi) h'
    simp only [stays, List.getElem_map] at this
    exact absurd hs.symm this
section
variable {es m : List Entry} {left : List Bill} {k : Nat} {p d : Int} {ts : List Tax}
theorem near1 {L : List Bill} (hf : far1 ts L = false) {j : Nat} (hj : j < 99) : ¬ 1000000000 < placeN ts L ((j : Int) + 1) := by
  intro h
  have hx : placeV ts L j ∈ placesL ts L 99 := List.mem_map.2 ⟨j, List.mem_range.2 hj, rfl⟩
  have h9 : far1 ts L = true := List.any_eq_true.2 ⟨_, hx, by rw [placeV_val ts L hj]; simp only [decide_eq_true_eq]; omega⟩
  rw [hf] at h9
  cases h9
theorem ask1_same {L : List Bill} (hf : far1 ts L = false) (hbal : ∀ q : Int, 1 ≤ q → q ≤ 99 → bal (fun z => z == 400 + q) m 366 = -placeN ts L q) : all1 m (placesL ts L 99) = true := by
  unfold all1
  rw [List.all_eq_true]
  intro x hx
  obtain ⟨j, hj, rfl⟩ := List.mem_map.1 hx
  have hj := List.mem_range.1 hj
  have hnf := near1 hf hj
  unfold placeOk
  rw [placeV_val ts L hj]
  simp only
  rw [hbal _ (by omega) (by omega), beq_iff_eq]
  omega
theorem ask1_other {L : List Bill} (hf : far1 ts L = false) {q : Int} (q0 : 1 ≤ q) (q1 : q ≤ 99) (hbal : bal (fun z => z == 400 + q) m 366 ≠ -placeN ts L q) : all1 m (placesL ts L 99) = false := by
  unfold all1
  rw [List.all_eq_false]
  obtain ⟨j, hj⟩ : ∃ j : Nat, q = (j : Int) + 1 := ⟨(q - 1).toNat, by omega⟩
  have hj99 : j < 99 := by omega
  have hnf := near1 hf hj99
  refine ⟨placeV ts L j, List.mem_map.2 ⟨j, List.mem_range.2 hj99, rfl⟩, ?_⟩
  unfold placeOk
  rw [placeV_val ts L hj99]
  simp only
  rw [← hj] at hnf ⊢
  rw [beq_iff_eq]
  omega
theorem ask2_less (hk : k < left.length) (hn : (stays left).Nodup) (hmv : ∀ acc r, movedR m acc r = if r = left[k].stay then 0 else movedR es acc r) (hmem : ∀ e ∈ m, e ∈ es ∨ e.ref = left[k].stay)
    (h2 : ∀ c : Int, 0 ≤ c → c ≤ 29 → agrees (comms p d (ofCh left c)) (comms p d (ofCh left c)) (ofCh left c) es (700 + c) = true) : all2 p d (drop1 left k) m 30 = true := by
  unfold all2
  rw [List.all_eq_true]
  intro j hj
  have hj := List.mem_range.1 hj
  obtain ⟨_, g1, g2⟩ := agrees_iff.1 (h2 (j : Int) (by omega) (by omega))
  refine agrees_iff.2 ⟨rfl, ?_, fun e he => ?_⟩
  · have hsub : (ofCh (drop1 left k) (j : Int)).Sublist (ofCh left (j : Int)) := (drop1_sub left k).filter _
    have hall : ∀ b ∈ ofCh left (j : Int), movedR es (700 + (j : Int)) b.stay = comm p d b.price := by
      intro b hb
      obtain ⟨i, hi, rfl⟩ := List.getElem_of_mem hb
      have hq := List.getElem_of_eq g1 (i := i) (by unfold movedL; simpa using hi)
      rw [movedL_at hi] at hq
      rw [hq]
      unfold comms
      rw [List.getElem_map]
    unfold movedL comms
    refine List.map_congr_left fun b hb => ?_
    rw [hmv, if_neg (drop1_stays hn hk b (List.mem_filter.1 hb).1)]
    exact hall b (hsub.subset hb)
  · by_cases hs : e.ref = left[k].stay
    · exact .inr (.inr (by rw [hmv, if_pos hs]))
    · rcases hmem e he with he | he
      · rcases g2 e he with h | h | h
        · exact .inl h
        · exact .inr (.inl (mem_stays hk h hs))
        · exact .inr (.inr (by rw [hmv, if_neg hs]; exact h))
      · exact absurd he hs
theorem ask2_left (hk : k < left.length) (hn : (stays left).Nodup) (hmv : ∀ acc r, movedR m acc r = if r = left[k].stay then 0 else movedR es acc r) (hmem : ∀ e ∈ m, e ∈ es ∨ e.ref = left[k].stay) (hc : comm p d left[k].price = 0)
    (h2 : ∀ c : Int, 0 ≤ c → c ≤ 29 → agrees (comms p d (ofCh left c)) (comms p d (ofCh left c)) (ofCh left c) es (700 + c) = true) : all2 p d left m 30 = true := by
  unfold all2
  rw [List.all_eq_true]
  intro j hj
  have hj := List.mem_range.1 hj
  obtain ⟨_, g1, g2⟩ := agrees_iff.1 (h2 (j : Int) (by omega) (by omega))
  refine agrees_iff.2 ⟨rfl, ?_, fun e he => ?_⟩
  · have hall : ∀ b ∈ ofCh left (j : Int), movedR es (700 + (j : Int)) b.stay = comm p d b.price := by
      intro b hb
      obtain ⟨i, hi, rfl⟩ := List.getElem_of_mem hb
      have hq := List.getElem_of_eq g1 (i := i) (by unfold movedL; simpa using hi)
      rw [movedL_at hi] at hq
      rw [hq]
      unfold comms
      rw [List.getElem_map]
    unfold movedL comms
    refine List.map_congr_left fun b hb => ?_
    rw [hmv]
    split
    · next hs => rw [stay_eq hn hk (List.mem_filter.1 hb).1 hs, hc]
    · exact hall b hb
  · by_cases hs : e.ref = left[k].stay
    · exact .inr (.inr (by rw [hmv, if_pos hs]))
    · rcases hmem e he with he | he
      · rcases g2 e he with h | h | h
        · exact .inl h
        · exact .inr (.inl h)
        · exact .inr (.inr (by rw [hmv, if_neg hs]; exact h))
      · exact absurd he hs
theorem ask3_less (hk : k < left.length) (hn : (stays left).Nodup) (hmv : ∀ acc r, movedR m acc r = if r = left[k].stay then 0 else movedR es acc r) (h3 : ask3R p d left es = true) : ask3R p d (drop1 left k) m = true := by
  unfold ask3R at h3 ⊢
  rw [List.all_eq_true] at h3 ⊢
  intro b hb
  have h4 := h3 b ((drop1_sub left k).subset hb)
  unfold houseOk at h4 ⊢
  rw [hmv, if_neg (drop1_stays hn hk b hb)]
  exact h4
theorem ask3_left (hk : k < left.length) (hn : (stays left).Nodup) (hmv : ∀ acc r, movedR m acc r = if r = left[k].stay then 0 else movedR es acc r) (h3 : ask3R p d left es = true) : ask3R p d left m = decide (left[k].price + comm p d left[k].price = 0) := by
  by_cases hz : left[k].price + comm p d left[k].price = 0
  · rw [decide_eq_true hz]
    unfold ask3R at h3 ⊢
    rw [List.all_eq_true] at h3 ⊢
    intro b hb
    have h4 := h3 b hb
    unfold houseOk at h4 ⊢
    rw [hmv]
    split
    · next hs =>
      rw [stay_eq hn hk hb hs, hz]
      rfl
    · exact h4
  · rw [decide_eq_false hz]
    unfold ask3R
    rw [List.all_eq_false]
    refine ⟨left[k], List.getElem_mem hk, ?_⟩
    unfold houseOk
    rw [hmv, if_pos rfl, beq_iff_eq]
    omega
end
/-- What the law says of an undoing. -/
theorem undone_run {V : Env} {bills : List Bill} {l : List Deed} (hok : runOk V bills = true) (hl : l.length ≤ 60) (hf : farAll V.ts (leftF bills l (runAll V bills l).2) V.p V.d = false) {k : Nat} (hk : k < (leftF bills l (runAll V bills l).2).length) :
    ∃ r n, allT V.ts (leftF bills l (runAll V bills l).2)[k] = (r, n, 0) ∧
    ((undoR (runAll V bills l).1.es (leftF bills l (runAll V bills l).2)[k].stay 366 = ([], 4) ∧ (leftF bills l (runAll V bills l).2)[k].price = 0) ∨
     ∃ m, undoR (runAll V bills l).1.es (leftF bills l (runAll V bills l).2)[k].stay 366 = (m, 0) ∧ m.length ≤ 5000 ∧
      agreeR m (leftF bills l (runAll V bills l).2) V.ts V.p V.d = (decide ((leftF bills l (runAll V bills l).2)[k].price = 0) && decide (n = 0), 0) ∧
      agreeR m (drop1 (leftF bills l (runAll V bills l).2) k) V.ts V.p V.d = (true, 0)) := by
  obtain ⟨hV, hb, hbl, hts⟩ := runOk_iff.1 hok
  have hled := run_led hok (l := l) (by omega)
  have hlen := (run_ok hV hb l).1.len
  have hR := run_all hV hb l
  have hlo := leftF_ok hb l (runAll V bills l).2
  have hll := leftF_len bills l (runAll V bills l).2
  have h1 : ∀ p : Int, 1 ≤ p → p ≤ 99 → bal (fun z => z == 400 + p) (runAll V bills l).1.es 366 = -placeN V.ts (leftF bills l (runAll V bills l).2) p := fun p p0 p1 => bal_taxes hV hb l p0 p1
  have h2 : ∀ c : Int, 0 ≤ c → c ≤ 29 → agrees (comms V.p V.d (ofCh (leftF bills l (runAll V bills l).2) c)) (comms V.p V.d (ofCh (leftF bills l (runAll V bills l).2) c)) (ofCh (leftF bills l (runAll V bills l).2) c) (runAll V bills l).1.es (700 + c) = true := fun c c0 c1 => agrees_left_run hV hb l c0 c1
  have h3 := ask3_run hV hb l
  have hdays := days_run hV hb l
  obtain ⟨hb1, hb2⟩ := billsOk_iff.1 hlo
  have hbm := List.getElem_mem hk
  have hbok := hb1 _ hbm
  -- the bill's account
  have hacc : ∃ a ∈ (runAll V bills l).1.ac, a.b = (leftF bills l (runAll V bills l).2)[k] ∧ a.st = 3 := by
    obtain ⟨m, hm, he⟩ := List.getElem_of_mem (List.mem_filter.1 hbm).1
    obtain ⟨a, ha, hab⟩ := hR.at_ hm
    rw [he] at hab
    refine ⟨a, ha, hab, ?_⟩
    have hd : didR l (runAll V bills l).2 5 (leftF bills l (runAll V bills l).2)[k].stay = true := (List.mem_filter.1 hbm).2
    rw [← hab, (hR.did a ha).left] at hd
    simpa using hd
  have htax : ∃ r n, allT V.ts (leftF bills l (runAll V bills l).2)[k] = (r, n, 0) := by
    obtain ⟨m, hm, he⟩ := List.getElem_of_mem (List.mem_filter.1 hbm).1
    have hd : didR l (runAll V bills l).2 5 (leftF bills l (runAll V bills l).2)[k].stay = true := (List.mem_filter.1 hbm).2
    rcases left_of (l := l) hV hb hm with ⟨n, fee, r, d5, g1, g2, g3, g4, g5, g6⟩ | ⟨d5, _, _, _, _, _⟩ | ⟨d5, _, _, _, _⟩
    · exact ⟨r, n, by rw [← he]; exact g1⟩
    · rw [he, hd] at d5; cases d5
    · rw [he, hd] at d5; cases d5
  have htR : ∀ p : Int, 1 ≤ p → p ≤ 99 → movedR (runAll V bills l).1.es (400 + p) (leftF bills l (runAll V bills l).2)[k].stay = -(if (leftF bills l (runAll V bills l).2)[k].place = p then taxN V.ts (leftF bills l (runAll V bills l).2)[k] else 0) := by
    intro p p0 p1
    obtain ⟨a, ha, hab, hst⟩ := hacc
    have h := taxR_run hV hb l p0 p1 a ha
    unfold taxS at h
    rw [hab] at h
    rw [h]
    by_cases hp : (leftF bills l (runAll V bills l).2)[k].place = p
    · rw [if_pos ⟨hst, hp⟩, if_pos hp]
    · rw [if_neg (fun h => hp h.2), if_neg hp]
  clear hacc hR
  obtain ⟨r, n, hrn⟩ := htax
  have hnn : taxN V.ts (leftF bills l (runAll V bills l).2)[k] = n := by unfold taxN; rw [hrn]; rfl
  refine ⟨r, n, hrn, ?_⟩
  clear hrn
  have hckl : checkR V.ts (leftF bills l (runAll V bills l).2) = 0 := checkR_zero.2 ⟨Nat.le_trans hll hbl, hlo, hts⟩
  have hV' := hV.p
  clear hV hb
  generalize leftF bills l (runAll V bills l).2 = left at *
  generalize (runAll V bills l).1.es = es at *
  have hbo := Bill.ok_iff.1 hbok
  have hpr := hbo.2.2.2.2.2.2.1
  have hpl := hbo.2.2.2.2.2.1
  have hch := hbo.2.2.2.2.1
  have hsy := hbo.2.2.2.1
  clear hbo
  have hcm := comm_bd hV' hpr.1
  have hhouse : -movedR es (300 + left[k].place) left[k].stay = left[k].price + comm V.p V.d left[k].price := by
    have := List.all_eq_true.1 h3 _ hbm
    unfold houseOk at this
    simpa using this
  have hbeg : begun es 366 = false := by
    by_cases h0 : 0 < es.length
    · rw [begun_at h0, decide_eq_false_iff_not]
      have := hdays _ (List.getElem_mem (by omega : es.length - 1 < es.length))
      omega
    · have : es = [] := List.eq_nil_of_length_eq_zero (by omega)
      subst this
      rfl
  have hop : (openE es left[k].stay).length ≤ es.length := by
    have key : ∀ (L out : List Entry), (L.foldl (openStep left[k].stay) out).length ≤ out.length + L.length := by
      intro L
      induction L with
      | nil => intro out; simp
      | cons e L ih =>
        intro out
        rw [List.foldl_cons]
        refine Nat.le_trans (ih _) ?_
        have : (openStep left[k].stay out e).length ≤ out.length + 1 := by
          unfold openStep
          split
          · omega
          · split
            · rw [List.length_eraseIdx]; split <;> omega
            · simp
        simp only [List.length_cons]
        omega
    have := key es []
    unfold openE
    simpa using this
  by_cases ho : openE es left[k].stay = []
  · refine .inl ⟨?_, ?_⟩
    · unfold undoR
      rw [hled, inB_iff.2 hsy, hbeg, ho]
      rfl
    · have h := mvs_fold (fun a => a == 300 + left[k].place) left[k].stay es []
      have h' : es.foldl (openStep left[k].stay) [] = [] := ho
      rw [h', mvs_nil] at h
      have hm : movedR es (300 + left[k].place) left[k].stay = 0 := by
        unfold movedR
        have : (es.filter fun e => e.ref == left[k].stay) = es.filter fun e => decide (e.ref = left[k].stay) := List.filter_congr fun e _ => by simp [Bool.beq_eq_decide_eq]
        rw [this]
        omega
      omega
  · have hD := undo_done hled (inB_iff.2 hsy) (by decide : inB 366 0 366 = true) hbeg ho (by omega)
    have hun : undoR es left[k].stay 366 = (es ++ (openE es left[k].stay).map (undone 366), 0) := by
      unfold undoR
      rw [hled, inB_iff.2 hsy, hbeg, if_neg (by decide), if_neg (by decide), if_neg ho, if_neg (by omega)]
    have hmv : ∀ acc r, movedR (es ++ (openE es left[k].stay).map (undone 366)) acc r = if r = left[k].stay then 0 else movedR es acc r := fun acc r => movedR_undoneE es acc _ _ r
    have hbalp : ∀ q : Int, 1 ≤ q → q ≤ 99 → bal (fun z => z == 400 + q) (es ++ (openE es left[k].stay).map (undone 366)) 366 = -placeN V.ts (drop1 left k) q := by
      intro q q0 q1
      rw [hD.2.2.2.1]
      have e1 : bal (fun z => z == 400 + q) (es.filter fun e => decide (e.ref ≠ left[k].stay)) 366 = mvs (fun z => z == 400 + q) (es.filter fun e => decide (e.ref ≠ left[k].stay)) := by
        unfold bal
        rw [upto_le (fun e he => hdays e (List.mem_filter.1 he).1)]
      have e2 : bal (fun z => z == 400 + q) es 366 = mvs (fun z => z == 400 + q) es := by
        unfold bal
        rw [upto_le hdays]
      have e3 := mvs_split (fun z => z == 400 + q) left[k].stay es
      have e4 := htR q q0 q1
      unfold movedR at e4
      have e5 := h1 q q0 q1
      have e6 := placeN_drop1 V.ts hk q
      rw [e1]
      omega
    have hmem : ∀ e ∈ es ++ (openE es left[k].stay).map (undone 366), e ∈ es ∨ e.ref = left[k].stay := by
      intro e he
      rcases List.mem_append.1 he with he | he
      · exact .inl he
      · exact .inr (hD.2.2.2.2 e he).1
    have hml : (es ++ (openE es left[k].stay).map (undone 366)).length ≤ 5000 := by rw [List.length_append, List.length_map]; omega
    have hmo := hD.1
    refine .inr ⟨_, hun, hml, ?_, ?_⟩
    · rw [agree_near hckl hmo hV' hf]
      congr 1
      have hsum := fun q => placeN_drop1 V.ts hk q
      rw [ask3_left hk hb2 hmv h3]
      by_cases hp0 : left[k].price = 0
      · have hc0 : comm V.p V.d left[k].price = 0 := by omega
        rw [ask2_left hk hb2 hmv hmem hc0 h2, decide_eq_true hp0, decide_eq_true (show left[k].price + comm V.p V.d left[k].price = 0 by omega)]
        by_cases hn0 : n = 0
        · rw [decide_eq_true hn0, ask1_same (far_no hf) (fun q q0 q1 => by
            rw [hbalp q q0 q1]
            have := hsum q
            rw [hnn] at this
            split at this <;> omega)]
          rfl
        · rw [decide_eq_false hn0, ask1_other (far_no hf) hpl.1 hpl.2 (by
            rw [hbalp _ hpl.1 hpl.2]
            have := hsum left[k].place
            rw [hnn, if_pos rfl] at this
            omega)]
          rfl
      · rw [decide_eq_false hp0, decide_eq_false (show ¬ left[k].price + comm V.p V.d left[k].price = 0 by omega), Bool.and_false, Bool.false_and]
    · have hlo' : checkR V.ts (drop1 left k) = 0 := by
        obtain ⟨c1, c2, c3⟩ := checkR_zero.1 hckl
        exact checkR_zero.2 ⟨Nat.le_trans (drop1_len left k) c1, billsOk_iff.2 ⟨fun b hb => hb1 b ((drop1_sub left k).subset hb), hb2.sublist ((drop1_sub left k).map _)⟩, c3⟩
      have hf' := far_drop1 hV' hb1 hk hf
      rw [agree_near hlo' hmo hV' hf', ask1_same (far_no hf') hbalp, ask2_less hk hb2 hmv hmem h2, ask3_less hk hb2 hmv h3]
      rfl
end Go.Proofs.YtmlhoojcdidgkaaGreat
