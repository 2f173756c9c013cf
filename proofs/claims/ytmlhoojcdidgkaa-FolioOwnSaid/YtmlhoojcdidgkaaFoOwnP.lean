/-
  The law 'FolioOwn': the plain part (no Go in sight).
-/
import Derived.Test.YtmlhoojcdidgkaaFoRefused
namespace Go.Proofs.Ytmlhoojcdidgkaa
set_option linter.unusedSimpArgs false
set_option linter.unusedVariables false
set_option maxHeartbeats 1000000
/-- The deeds of a stay that have no error. -/
def ownD (l : List Deed) (errs : List Int) (s : Int) : List Deed := ((l.zip errs).filter fun p => (p.2 == 0) && (p.1.kind != 9) && (p.1.stay == s)).map (·.1)
def mineE (es : List Entry) (s : Int) : List Entry := es.filter fun e => e.ref == s
theorem ownD_snoc {l : List Deed} {errs : List Int} (h : errs.length = l.length) (x : Deed) (e s : Int) : ownD (l ++ [x]) (errs ++ [e]) s = if ((e == 0) && (x.kind != 9) && (x.stay == s)) = true then ownD l errs s ++ [x] else ownD l errs s := by
  unfold ownD
  rw [List.zip_append h.symm, List.filter_append, List.map_append]
  split
  · next he => simp [he]
  · next he => simp [he]
theorem mineE_app (a b : List Entry) (s : Int) : mineE (a ++ b) s = mineE a s ++ mineE b s := by unfold mineE; rw [List.filter_append]
theorem mineE_all {l : List Entry} {s : Int} (h : ∀ e ∈ l, e.ref = s) : mineE l s = l := List.filter_eq_self.2 fun e he => by simpa using h e he
theorem mineE_none {l : List Entry} {s : Int} (h : ∀ e ∈ l, e.ref ≠ s) : mineE l s = [] := List.filter_eq_nil_iff.2 fun e he => by simpa using h e he
theorem sumE_mine (a : Int) {b : Bill} (hd : b.direct = true) : ∀ l : List Entry, sumE a (ownE b) (mineE l b.stay) = sumE a (ownE b) l
  | [] => rfl
  | e :: l => by
    have ih := sumE_mine a hd l
    have hc : ∀ (q : Entry → Bool) (e : Entry) (l : List Entry), sumE a q (e :: l) = (if q e = true then sgn a e else 0) + sumE a q l := fun q e l => by unfold sumE; simp
    unfold mineE at ih ⊢
    rw [List.filter_cons, hc]
    split
    · rw [hc, ih]
    · next h =>
      have : ownE b e = false := by unfold ownE; rw [hd]; simpa using h
      rw [ih, this]
      simp
theorem Deeds.mine {V : Env} {es : List Entry} {a : Acc} {x : Deed} {ys : List Entry} {a' : Acc} (h : Deeds V es a x ys a') (hd : a.b.direct = true) : Deeds V (mineE es a.b.stay) a x ys a' := by
  cases h
  case book k s => exact .book k s
  case pay n c k s d h m => exact .pay n c k s d h m
  case late k s m => exact .late k s (by rw [sumE_mine _ hd]; exact m)
  case gone k s d => exact .gone k s d
  case keeps k s d => exact .keeps k s d
  case arrive k s => exact .arrive k s
  case leave n c k s h => exact .leave n c k s h
  case walk k s h => exact .walk k s h
  case back k s d m => exact .back k s d m
  case voucher n c k s d h => exact .voucher n c k s d h
theorem CrsOk.more' {c : Crs} {n : Nat} (h : CrsOk c n) : CrsOk c (n + 1) := ⟨h.day, h.es, h.rises, by have := h.len; omega, fun a ha => ⟨(h.ac a ha).b, (h.ac a ha).st, by have := (h.ac a ha).paid; omega, (h.ac a ha).early⟩, h.stays⟩
structure OwnSim (V : Env) (bills : List Bill) (l : List Deed) (c : Crs) (er : List Int) (b : Bill) : Prop where
  len : er.length = l.length
  ok : CrsOk c l.length
  sim : ∃ c1 a, runAll V [b] (ownD l er b.stay) = (c1, List.replicate (ownD l er b.stay).length 0) ∧ a ∈ c.ac ∧ a.b = b ∧ c1.ac = [a] ∧ c1.es = mineE c.es b.stay ∧ c1.day ≤ c.day
theorem same_of {l : List Acc} (hn : (l.map fun a => a.b.stay).Nodup) {i j : Nat} (hi : i < l.length) (hj : j < l.length) (h : l[i].b.stay = l[j].b.stay) : i = j := by
  have h1 := idx_of hn hi
  have h2 := idx_of hn hj
  rw [h, h2] at h1
  injection h1 with h1
  exact h1.symm
theorem own_sim {V : Env} {bills : List Bill} (hV : EnvOk V) (hb : billsOk bills = true) {b : Bill} (hbm : b ∈ bills) (hd : b.direct = true) (l : List Deed) : OwnSim V bills l (runAll V bills l).1 (runAll V bills l).2 b := by
  have hbk := (billsOk_iff.1 hb).1 b hbm
  have hst := (Bill.ok_iff.1 hbk).2.2.2.1
  refine run_ind (V := V) (bills := bills) (fun l c er => OwnSim V bills l c er b) ⟨rfl, crs0_ok hb, crs0 [b], ⟨b, 0, 0⟩, rfl, List.mem_map.2 ⟨b, hbm, rfl⟩, rfl, rfl, rfl, Int.le_refl _⟩ ?_ ?_ l
  · rintro l x c c' er ⟨h1, h2, c1, a, h3, h4, h5, h6, h7, h8⟩ hf hs
    obtain ⟨g1, g2, g3⟩ := hs.ok hV hf h2
    have hfm := formed_iff.1 hf
    refine ⟨by simp [h1], by rw [List.length_append]; exact g1, ?_⟩
    cases hs
    case broke k m =>
      refine ⟨c1, a, ?_, h4, h5, h6, ?_, ?_⟩
      · rw [ownD_snoc h1, if_neg (by simp [k])]
        exact h3
      · show c1.es = mineE (c.es ++ _) b.stay
        rw [mineE_app, mineE_none (l := mvL _ _ _ _ _) fun e he => ?_, List.append_nil]
        · exact h7
        · obtain ⟨_, rfl⟩ := mvL_mem he
          simp only
          omega
      · show c1.day ≤ x.day
        omega
    case deed k i a2 hi ha ys a' hdd =>
      obtain ⟨hlt, hat⟩ := List.getElem?_eq_some_iff.1 ha
      obtain ⟨_, hs2⟩ := idx_at hi
      rw [hat] at hs2
      have ham := List.mem_of_getElem? ha
      have hac := h2.ac a2 ham
      have hcents : x.kind = 2 ∨ x.kind = 7 ∨ x.kind = 8 → 1 ≤ x.cents ∧ x.cents ≤ 1000000000 := fun h => hfm.2.2.1 (by omega)
      have hdy := h2.day
      have hes := hdd.es_ok hac hV.k hV.p (by omega) (by omega) hcents
      obtain ⟨j, hj, hja⟩ := List.getElem_of_mem h4
      by_cases hx : x.stay = b.stay
      · have hij : i = j := same_of h2.stays hlt hj (by rw [hat, hja, hs2, hx, h5])
        subst hij
        have haa : a2 = a := by rw [← hat, ← hja]
        subst haa
        have hf1 : formedD c1.day x = true := formed_iff.2 ⟨hfm.1, by omega, hfm.2.2⟩
        have hmine := hdd.mine (by rw [h5]; exact hd)
        rw [h5] at hmine
        have hstep : Steps V c1 x { c1 with day := x.day, es := c1.es ++ ys, ac := c1.ac.set 0 a' } := .deed k 0 a2 (by rw [h6]; unfold idxA; simp [h5, hx]) (by rw [h6]; rfl) ys a' (by rw [h7]; exact hmine)
        refine ⟨{ c1 with day := x.day, es := c1.es ++ ys, ac := c1.ac.set 0 a' }, a', ?_, ?_, ?_, ?_, ?_, Int.le_refl _⟩
        · rw [ownD_snoc h1, if_pos (by simp [k, hx]), runAll_snoc, h3]
          unfold runD
          simp only
          rw [if_pos hf1, hstep.mk]
          simp only [List.length_append, List.length_singleton, List.replicate_succ', Nat.add_eq]
        · exact List.mem_set hlt _
        · rw [(hdd.acc hac hcents).2]; exact h5
        · show c1.ac.set 0 a' = [a']
          rw [h6]
          rfl
        · show c1.es ++ ys = mineE (c.es ++ ys) b.stay
          rw [mineE_app, h7, mineE_all (l := ys) fun e he => by rw [(hes e he).2.2, h5]]
      · have hne : i ≠ j := by
          rintro rfl
          have : a2 = a := by rw [← hat, ← hja]
          subst this
          rw [h5] at hs2
          exact hx hs2.symm
        refine ⟨c1, a, ?_, ?_, h5, h6, ?_, ?_⟩
        · rw [ownD_snoc h1, if_neg (by simp [hx])]
          exact h3
        · show a ∈ c.ac.set i a'
          refine List.mem_of_getElem (i := j) (h := by simpa using hj) ?_
          rw [List.getElem_set_ne hne]
          exact hja
        · show c1.es = mineE (c.es ++ ys) b.stay
          rw [mineE_app, mineE_none (l := ys) fun e he => by rw [(hes e he).2.2, hs2]; exact hx, List.append_nil]
          exact h7
        · show c1.day ≤ x.day
          omega
  · rintro l x c er e ⟨h1, h2, h3⟩ he
    refine ⟨by simp [h1], by rw [List.length_append]; exact h2.more', ?_⟩
    rw [ownD_snoc h1, if_neg (by simp [he])]
    exact h3
end Go.Proofs.Ytmlhoojcdidgkaa
