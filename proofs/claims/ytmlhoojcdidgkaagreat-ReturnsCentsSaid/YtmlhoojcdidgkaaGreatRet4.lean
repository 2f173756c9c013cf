/-
  Maps of pairs of integers to integers, read as data; what 'm[k] += c' does.
-/
import Derived.Test.YtmlhoojcdidgkaaGreatM15
import Derived.Test.YtmlhoojcdidgkaaGreatM14
import Derived.WideKeyPair
import Derived.WideKeyEntry
import Derived.DeepKeys4
namespace Go.Proofs.YtmlhoojcdidgkaaGreat
set_option linter.unusedSimpArgs false
set_option linter.unusedVariables false
open Go.RowKit Go.Maps
open Go.WideMaps (KeyLaw ArrKey keyOf_pair)
open Go.WideElems (entry_then_store)
open Go.ChangeMaps (setBlock)
set_option maxHeartbeats 4000000
set_option maxRecDepth 100000
abbrev kP (a r : Int) : Lit := .string (keyBytes [.int .i64 a, .int .i64 r])
theorem kP_key (a r : Int) : WideAt.IsKeyLit (kP a r) := trivial
theorem arrP : ArrKey Tryz.prog 81 3 2 := ⟨Tryz.underlying81, by kernel_rfl, by kernel_rfl, by kernel_rfl⟩
theorem lawP : KeyLaw Tryz.prog 81 := deep_law_laid (by kernel_rfl) (m := 2) (by omega) (of_decide_eq_true (by kernel_rfl)) (by kernel_rfl) (by rw [Tryz.underlying81])
theorem keyedP : Keyed Tryz.prog 81 := Keyed.of_law lawP
theorem keyP {a r : Int} (ha : (Lit.int .i64 a).wf = true) (hr : (Lit.int .i64 r).wf = true) : keyOf Tryz.prog 81 (.agg #[.int .i64 a, .int .i64 r]) = some (kP a r) := keyOf_pair arrP Tryz.underlying3 ⟨Tryz.prog.types.size - 1, by kernel_rfl⟩ ha hr
theorem kP_inj {a r a' r' : Int} (ha : (Lit.int .i64 a).wf = true) (hr : (Lit.int .i64 r).wf = true) (ha' : (Lit.int .i64 a').wf = true) (hr' : (Lit.int .i64 r').wf = true) (h : kP a r = kP a' r') : a = a' ∧ r = r' := by
  have h1 := keyP ha hr
  rw [h] at h1
  have h2 := lawP.inj h1 (keyP ha' hr')
  simpa using h2
def getP (D : DM) (a r : Int) : Int := numOf (D.atKey (kP a r) (vI 0))
def putP (D : DM) (a r c : Int) : DM := D.put (kP a r) (vI c)
theorem getP_same {D : DM} (h : Tidy D) (a r c : Int) : getP (putP D a r c) a r = c := by
  unfold getP putP
  rw [atKey_put_same h.isMap (kP_key a r)]
  rfl
theorem getP_other {D : DM} {a r a' r' : Int} (h : kP a' r' ≠ kP a r) (c : Int) : getP (putP D a r c) a' r' = getP D a' r' := by
  unfold getP putP
  rw [atKey_put_other h]
theorem getP_of {D : DM} {a r c : Int} (h : D.atKey (kP a r) (.lit (.int .i64 0)) = .lit (.int .i64 c)) : getP D a r = c := by
  unfold getP
  rw [h]
  rfl
theorem putP_tidy {D : DM} (h : Tidy D) (a r c : Int) : Tidy (putP D a r c) := h.put (kP_key a r) _
section
variable {P : Program} {w : World} {t k e : TypeId} {R : Value → Option (DM × List MemPlace)} {b : Nat} {es : Array MapEntry} {clock : Nat}
/-- What asking for an entry leaves is what a store of its value would. -/
theorem entry_is_update (K : KeyLaw P k) (ht : P.underlying t = some (.map k e)) {z : Value} (hz : ∀ u : World, (zeroValue e).run P u = .ok z u) (hb : w.heap[b]? = some (.map es clock)) (F : Go.WideElems.Fit P k R es clock)
    {key : Value} {kl : Lit} (hkey : keyOf P k key = some kl) {v0 : Value} {st : Nat} {W1 : World} (h : (Instr.mapEntry t (.map (some b)) key).run P w = .ok (.tuple #[v0, goInt st]) W1) : (Instr.mapUpdate t (.map (some b)) key v0).run P w = .ok () W1 := by
  rcases K.find w hkey es.toList F.keys with ⟨h1, h2⟩ | ⟨j, e0, h1, h2, h3⟩
  · simp [Instr.mapEntry, run_underlying ht, MapKept.run_getObj_map hb, K.check w false hkey, h1, hz, MapKept.run_setObj_map _ hb, Result.andThen, setBlock] at h
    obtain ⟨⟨rfl, _⟩, rfl⟩ := h
    simp [Instr.mapUpdate, run_underlying ht, MapKept.run_getObj_map hb, K.check w false hkey, h1, MapKept.run_setObj_map _ hb, Result.andThen, setBlock]
  · have hj : es[j]? = some e0 := by simpa using h2
    simp [Instr.mapEntry, run_underlying ht, MapKept.run_getObj_map hb, K.check w false hkey, h1, hj, h3, K.stays w hkey, MapKept.run_setObj_map _ hb, Result.andThen, setBlock] at h
    obtain ⟨⟨rfl, _⟩, rfl⟩ := h
    have hm : es.modify j (fun e' => { e' with key := key, val := e0.val }) = es.modify j (fun e' => { e' with key := key }) := by
      apply Array.ext'
      rw [Array.toList_modify, Array.toList_modify, ChangeMaps.modify_eq_set _ _ _ _ h2, ChangeMaps.modify_eq_set _ _ _ _ h2]
    simp [Instr.mapUpdate, run_underlying ht, MapKept.run_getObj_map hb, K.check w false hkey, h1, hj, h3, K.stays w hkey, MapKept.run_setObj_map _ hb, Result.andThen, setBlock, hm]
end
theorem zero_int4 (w : World) : (zeroValue 3).run Tryz.prog w = .ok (.int .i64 0) w := by kernel_rfl
theorem entry_pair {w : World} {bm n : Nat} {D : DM} (hown : w.ownsMap Tryz.prog 81 (plainElem Tryz.prog 3) bm n D) (hn : n + 1 < maxLen) (a r : Int) (ha : (Lit.int .i64 a).wf = true) (hr : (Lit.int .i64 r).wf = true) :
    ∃ (c : Int) (st : Nat) (W1 : World), getP D a r = c ∧ (Lit.int .i64 c).wf = true ∧ (Instr.lookup 80 (.map (some bm)) (.agg #[.int .i64 a, .int .i64 r]) false).run Tryz.prog w = .ok (.int .i64 c) w ∧
      (Instr.mapEntry 80 (.map (some bm)) (.agg #[.int .i64 a, .int .i64 r])).run Tryz.prog w = .ok (.tuple #[.int .i64 c, .int .i64 st]) W1 ∧ (Instr.lookup 80 (.map (some bm)) (.agg #[.int .i64 a, .int .i64 r]) false).run Tryz.prog W1 = .ok (.int .i64 c) W1 ∧
      w.grownBy W1 (some bm) ∧ ∀ x : Int, (Lit.int .i64 x).wf = true → ∃ W2, (Instr.entryStore 80 (.map (some bm)) (.int .i64 st) (.int .i64 x)).run Tryz.prog W1 = .ok () W2 ∧ W2.ownsMap Tryz.prog 81 (plainElem Tryz.prog 3) bm (n + 1) (putP D a r x) ∧ w.grownBy W2 (some bm) := by
  have hk := keyP ha hr
  obtain ⟨c, hl, hat, hwc⟩ := hown.lookup_int (t := 80) keyedP Tryz.underlying80 Tryz.underlying3 (zero_int4 _) (key := .agg #[.int .i64 a, .int .i64 r]) hk
  have hc := getP_of hat
  obtain ⟨es, clock, hb, F, hs, hD⟩ := id hown
  obtain ⟨v0, st, es1, clock1, hme, hv0, hst⟩ := entry_then_store lawP Tryz.underlying80 (z := .int .i64 0) (fun u => zero_int4 u) hb F hk
  have hup := entry_is_update lawP Tryz.underlying80 (z := .int .i64 0) (fun u => zero_int4 u) hb F hk hme
  have hv : v0 = .int .i64 c := by
    have h1 := hl
    rcases hv0 with ⟨e0, he0, hek, rfl⟩ | ⟨hno, rfl⟩
    · rcases lawP.find w hk es.toList F.keys with ⟨h2, h3⟩ | ⟨j, e1, h2, h3, h4⟩
      · exact absurd hek (h3 _ he0)
      · have hj : es[j]? = some e1 := by simpa using h3
        simp [Instr.mapEntry, run_underlying Tryz.underlying80, MapKept.run_getObj_map hb, lawP.check w false hk, h2, hj, h4, lawP.stays w hk, MapKept.run_setObj_map _ hb, Result.andThen] at hme
        simp [Instr.lookup, run_underlying Tryz.underlying80, MapKept.run_getObj_map hb, lawP.check w _ hk, h2, Result.andThen] at h1
        rw [← hme.1.1]
        first | exact h1 | simpa using h1
    · rcases lawP.find w hk es.toList F.keys with ⟨h2, h3⟩ | ⟨j, e1, h2, h3, h4⟩
      · simp [Instr.lookup, run_underlying Tryz.underlying80, MapKept.run_getObj_map hb, lawP.check w _ hk, h2, zero_int4, Result.andThen] at h1
        first | exact h1 | simpa using h1
      · exact absurd h4 (hno _ (List.mem_of_getElem? h3))
  subst hv
  obtain ⟨W1, hW1⟩ : ∃ W1, W1 = setBlock w bm (.map es1 clock1) := ⟨_, rfl⟩
  rw [← hW1] at hme hup
  obtain ⟨w', hrun', ho', hg'⟩ := hown.update (t := 80) keyedP Tryz.underlying80 (by omega) (val := .int .i64 c) (d := vI c) (ps := []) hk (plainElem_int Tryz.underlying3 hwc)
  rw [hup] at hrun'
  injection hrun' with _ hww
  subst hww
  obtain ⟨c', hl', hat', _⟩ := ho'.lookup_int (t := 80) keyedP Tryz.underlying80 Tryz.underlying3 (zero_int4 _) (key := .agg #[.int .i64 a, .int .i64 r]) hk
  have htidy := hown.tidy keyedP
  have hcc : c' = c := by
    have h1 := getP_of hat'
    have h2 := getP_same htidy a r c
    unfold putP at h2
    rw [h2] at h1
    exact h1.symm
  subst hcc
  have hb1 : W1.heap[bm]? = some (.map es1 clock1) := by
    rw [hW1]
    exact Go.ChangeMaps.heap_setBlock_same hb _
  refine ⟨c', st, W1, hc, hwc, hl, hme, hl', hg', fun x hx => ?_⟩
  obtain ⟨es', clock', h1, h2⟩ := hst W1 (.int .i64 x) hb1
  obtain ⟨w2, hrun2, ho2, hg2⟩ := hown.update (t := 80) keyedP Tryz.underlying80 (by omega) (val := .int .i64 x) (d := vI x) (ps := []) hk (plainElem_int Tryz.underlying3 hx)
  rw [h2] at hrun2
  injection hrun2 with _ hww2
  refine ⟨w2, ?_, ho2, hg2⟩
  rw [← hww2]
  have : setBlock W1 bm (.map es' clock') = setBlock w bm (.map es' clock') := by
    rw [hW1]
    unfold setBlock
    simp
  rw [← this]
  exact h1
/-- What the map of moved sums holds. -/
structure PairOf (D : DM) (es : List Entry) : Prop where
  tidy : Tidy D
  at_ : ∀ a r, 0 ≤ a → a ≤ 1000 → 0 ≤ r → r ≤ 1000000 → getP D a r = -movedR es a r
theorem pairOf_empty : PairOf (.map []) [] := ⟨tidy_empty, fun _ _ _ _ _ _ => rfl⟩
theorem wf_small {a : Int} (h0 : 0 ≤ a) (h1 : a ≤ 1000000) : (Lit.int .i64 a).wf = true := WalkArith.wf_i64 (by omega)
theorem PairOf.step {D : DM} {es : List Entry} {e : Entry} (h : PairOf D es) (he : e.ok = true) {c1 c2 : Int} (h1 : getP D e.credit e.ref = c1) (h2 : getP (putP D e.credit e.ref (c1 + e.cents)) e.debit e.ref = c2) :
    PairOf (putP (putP D e.credit e.ref (c1 + e.cents)) e.debit e.ref (c2 - e.cents)) (es ++ [e]) := by
  obtain ⟨_, ⟨d1, d2⟩, ⟨g1, g2⟩, hne, _, r1, r2⟩ := Entry.ok_iff.1 he
  have ht := putP_tidy h.tidy e.credit e.ref (c1 + e.cents)
  have wr := wf_small r1 r2
  have wd := wf_small (a := e.debit) (by omega) (by omega)
  have wc := wf_small (a := e.credit) (by omega) (by omega)
  have hkne : kP e.debit e.ref ≠ kP e.credit e.ref := fun h => hne (kP_inj wd wr wc wr h).1
  rw [getP_other hkne] at h2
  refine ⟨putP_tidy ht _ _ _, fun a r a0 a1 r0 r1' => ?_⟩
  have wa := wf_small a0 (by omega)
  have wr' := wf_small r0 r1'
  rw [movedR_snoc, mv_acc]
  have hold := h.at_ a r a0 a1 r0 r1'
  by_cases hr : e.ref = r
  · subst hr
    rw [if_pos rfl]
    by_cases hd : e.debit = a
    · subst hd
      rw [getP_same ht, if_pos rfl, if_neg (Ne.symm hne)]
      omega
    · have k1 : kP a e.ref ≠ kP e.debit e.ref := fun h => hd (kP_inj wa wr wd wr h).1.symm
      rw [getP_other k1, if_neg hd]
      by_cases hc : e.credit = a
      · subst hc
        rw [getP_same h.tidy, if_pos rfl]
        omega
      · have k2 : kP a e.ref ≠ kP e.credit e.ref := fun h => hc (kP_inj wa wr wc wr h).1.symm
        rw [getP_other k2, if_neg hc]
        omega
  · have k1 : kP a r ≠ kP e.debit e.ref := fun h => hr (kP_inj wa wr' wd wr h).2.symm
    have k2 : kP a r ≠ kP e.credit e.ref := fun h => hr (kP_inj wa wr' wc wr h).2.symm
    rw [getP_other k1, getP_other k2, if_neg hr]
    omega
end Go.Proofs.YtmlhoojcdidgkaaGreat
