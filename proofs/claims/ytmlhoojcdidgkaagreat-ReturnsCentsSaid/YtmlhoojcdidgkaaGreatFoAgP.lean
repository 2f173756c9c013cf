/-
  The law 'FolioAgrees': the plain part (no Go in sight).
-/
import Derived.Test.YtmlhoojcdidgkaaGreatFoLeft
import Derived.Test.YtmlhoojcdidgkaaGreatM28
namespace Go.Proofs.YtmlhoojcdidgkaaGreat
set_option linter.unusedSimpArgs false
set_option linter.unusedVariables false
set_option maxHeartbeats 1000000
/-- The entries of a deed touch a fee's account only with the ref of a stay of its channel. -/
theorem Deeds.fees {V : Env} {es : List Entry} {a : Acc} {x : Deed} {ys : List Entry} {a' : Acc} {n : Nat} (h : Deeds V es a x ys a') (ha : AccOk a n) (c : Int) (c0 : 0 ≤ c) (c1 : c ≤ 29) : ∀ e ∈ ys, e.debit = 700 + c ∨ e.credit = 700 + c → a.b.channel = c := by
  have hb := Bill.ok_iff.1 ha.b
  have hpy := payer_bd ha.b
  have hg := guest_bd a.b.stay
  have hpl := hb.2.2.2.2.2.1
  have hch := hb.2.2.2.2.1
  clear hb
  have hmk : ∀ (frm tgt cents : Int) (e : Entry), e ∈ mvL x.day frm tgt cents a.b.stay → e.debit = 700 + c ∨ e.credit = 700 + c → tgt = 700 + c ∨ frm = 700 + c := by
    intro frm tgt cents e he h
    obtain ⟨h0, rfl⟩ := mvL_mem he
    exact h
  intro e he h'
  cases h
  case book => simp at he
  case pay n c k s d h m => have := hmk _ _ _ e he h'; omega
  case late k s m => have := hmk _ _ _ e he h'; omega
  case gone k s d =>
    exfalso
    by_cases h3 : (!a.b.ok || !amt a.paid || !inB x.day 0 366) = true
    · rw [entriesR_no h3] at he; simp at he
    · have h4 : (a.b.ok = true ∧ amt a.paid = true) ∧ inB x.day 0 366 = true := by simpa using h3
      rw [entriesR_ok h4.1.1 h4.1.2 h4.2] at he
      rcases entriesL_mem he with ⟨h5, rfl⟩ | ⟨h5, rfl⟩
      · unfold keptE at h'
        simp only at h'
        omega
      · unfold backE at h'
        simp only at h'
        omega
  case keeps k s d => have := hmk _ _ _ e he h'; omega
  case arrive => simp at he
  case leave n c k s h =>
    rcases List.mem_append.1 he with he | he
    · rcases List.mem_append.1 he with he | he
      · have := hmk _ _ _ e he h'; omega
      · have := hmk _ _ _ e he h'; omega
    · have := hmk _ _ _ e he h'; omega
  case walk k s h =>
    rcases List.mem_append.1 he with he | he
    · have := hmk _ _ _ e he h'; omega
    · have := hmk _ _ _ e he h'; omega
  case back k s d m => have := hmk _ _ _ e he h'; omega
  case voucher n c k s d h => have := hmk _ _ _ e he h'; omega
theorem fees_run {V : Env} {bills : List Bill} (hV : EnvOk V) (hb : billsOk bills = true) (l : List Deed) {c : Int} (c0 : 0 ≤ c) (c1 : c ≤ 29) : ∀ e ∈ (runAll V bills l).1.es, e.debit = 700 + c ∨ e.credit = 700 + c → e.ref ∈ stays (ofCh bills c) := by
  have key := run_ind (V := V) (bills := bills) (fun l cr _ => CrsOk cr l.length ∧ (cr.ac.map fun a => a.b) = bills ∧ ∀ e ∈ cr.es, e.debit = 700 + c ∨ e.credit = 700 + c → e.ref ∈ stays (ofCh bills c)) ⟨crs0_ok hb, by simp [crs0, Function.comp_def], by simp [crs0]⟩ ?_ ?_ l
  · exact key.2.2
  · rintro l x cr cr' er ⟨h2, h3, h4⟩ hf hs
    obtain ⟨g1, g2, g3⟩ := hs.ok hV hf h2
    refine ⟨by rw [List.length_append]; exact g1, g3.trans h3, ?_⟩
    have hfm := formed_iff.1 hf
    cases hs
    case broke k m =>
      intro e he h'
      rcases List.mem_append.1 he with he | he
      · exact h4 e he h'
      · obtain ⟨_, rfl⟩ := mvL_mem he
        have := hfm.2.2.2 k
        simp only at h'
        omega
    case deed k i a hi ha ys a' hdd =>
      have ham := List.mem_of_getElem? ha
      have hac := h2.ac a ham
      have hcents : x.kind = 2 ∨ x.kind = 7 ∨ x.kind = 8 → 1 ≤ x.cents ∧ x.cents ≤ 1000000000 := fun h => hfm.2.2.1 (by omega)
      have hdy := h2.day
      have hes := hdd.es_ok hac hV.k hV.p (by omega) (by omega) hcents
      intro e he h'
      rcases List.mem_append.1 he with he | he
      · exact h4 e he h'
      · have hc := hdd.fees hac c c0 c1 e he h'
        rw [(hes e he).2.2]
        refine List.mem_map.2 ⟨a.b, List.mem_filter.2 ⟨?_, by simpa using hc⟩, rfl⟩
        rw [← h3]
        exact List.mem_map.2 ⟨a, ham, rfl⟩
  · rintro l x cr er e ⟨h2, h3, h4⟩ he
    exact ⟨by rw [List.length_append]; exact h2.more, h3, h4⟩
/-- Where all stays of a channel were left, the ledger agrees with its statement. -/
theorem agrees_run {V : Env} {bills : List Bill} (hV : EnvOk V) (hb : billsOk bills = true) (l : List Deed) {c : Int} (c0 : 0 ≤ c) (c1 : c ≤ 29) (hl : ∀ b ∈ ofCh bills c, didR l (runAll V bills l).2 5 b.stay = true) : agrees (comms V.p V.d (ofCh bills c)) (comms V.p V.d (ofCh bills c)) (ofCh bills c) (runAll V bills l).1.es (700 + c) = true := by
  refine agrees_iff.2 ⟨rfl, ?_, fun e he => ?_⟩
  · unfold movedL comms
    refine List.map_congr_left fun b hbm => ?_
    have hbl := (List.mem_filter.1 hbm).1
    have hbc : b.channel = c := by simpa using (List.mem_filter.1 hbm).2
    obtain ⟨m, hm, rfl⟩ := List.getElem_of_mem hbl
    have hd := hl _ hbm
    have hbo := (billsOk_iff.1 hb).1 _ hbl
    rcases left_of (l := l) hV hb hm with ⟨n, fee, r, d5, h1, h2, h3, h4, h5, h6⟩ | ⟨d5, _, _, _, _, _⟩ | ⟨d5, _, _, _, _⟩
    · rw [hbc] at h4
      rw [h4]
      have := oneR_ok hV.p hbo
      rw [this] at h2
      injection h2 with h2
      exact h2.symm
    · rw [d5] at hd; cases hd
    · rw [d5] at hd; cases hd
  · by_cases h : e.debit = 700 + c ∨ e.credit = 700 + c
    · exact .inr (.inl (fees_run hV hb l c0 c1 e he h))
    · exact .inl ⟨fun h' => h (.inl h'), fun h' => h (.inr h')⟩
end Go.Proofs.YtmlhoojcdidgkaaGreat
