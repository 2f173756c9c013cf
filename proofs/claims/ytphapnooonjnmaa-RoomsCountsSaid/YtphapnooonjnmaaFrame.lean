/-
  The row's frame: a law that returns true and leaves a world of which 'Below' is known; arguments made of integers, opened whatever their nesting.
-/
import Derived.Test.YtphapnooonjnmaaRows
import Derived.Test.YtphapnooonjnmaaBase
import Derived.ProofKit
import Derived.OpenShut
import Derived.Deep.Slices
import Derived.ReadAgain
import Derived.WideKeyArgs
import Derived.ChangeSame
namespace Go.Proofs.Ytphapnooonjnmaa
set_option linter.unusedSimpArgs false
set_option linter.unusedVariables false
open Go.ChangeShapes Go.WideShapes Go.ChangeAt Go.RowKit Go.Deep

theorem own_none : ownKnob Try.prog.godebug = none := by kernel_rfl
theorem laid_out : laidOutB Try.prog = true := by kernel_rfl

section
variable {H : Type} {enc : TypeId × Value → H} {P : Program}
theorem post_of_below {f : Func} {s : ChangeSpec} {apart fresh handsOn again : Bool} {W W' : World} {args : Array Value} {v : Value} {ds gs : List (DataW H)} {before pa pv : List MemPlace}
    (hW : DataW.Whole enc P f.params.toList s.vars apart W args.toList ds gs before)
    (hres : ∀ (b : Nat) (sp : Nat → Bool) (hd : Bool), DataW.TrodAll enc P W' b sp hd f.resultTypes.toList (v.resultList f.resultTypes.size) (s.fn H (ds ++ gs)).results [])
    (hargs : ∀ sp : Nat → Bool, (∀ p ∈ before, sp p.block = true) → DataW.TrodAll enc P W' 0 sp true f.params.toList args.toList (s.fn H (ds ++ gs)).args pa)
    (hvars : ∀ sp : Nat → Bool, (∀ p ∈ before, sp p.block = true) → DataW.TrodVars enc P W' sp s.vars (s.fn H (ds ++ gs)).vars pv)
    (hps : before = pa ++ pv) (hb : Below W.heap.size W W')
    (hok : ∀ (j : Nat) (t : TypeId) (r : Value), f.resultTypes[j]? = some t → (v.resultList f.resultTypes.size)[j]? = some r → Value.okWide P W' .any 0 t r) :
    s.post enc P f apart fresh handsOn again W args v W' := by
  have hlt : ∀ p ∈ before, p.block < W.heap.size := fun p hp => hW.lt p hp
  have hold : ∀ p ∈ before, (fun b => decide (b < W.heap.size)) p.block = true := fun p hp => by simpa using hlt p hp
  refine ⟨ds, gs, before, [], pa, pv, hW, hres _ _ _, hargs _ hold, hvars _ hold, World.keptBut_mono (fun p hp => ⟨hp, ?_⟩) (hb.frame (· ∈ before)), fun _ => ?_⟩
  · rw [hps, List.mem_append] at hp
    exact Or.inr hp
  · obtain ⟨_, _, _, _, _, hz, hn⟩ := hW
    refine ⟨hok, _, _, ([] ++ pa) ++ pv, ⟨[] ++ pa, pv, trodAll_append (hargs _ (fun _ _ => rfl)) (hres _ _ _), hvars _ (fun _ _ => rfl), rfl, ?_, ?_⟩, ?_⟩
    · intro b off hp
      have hin : MemPlace.cell b off ∈ before := by rw [hps]; simpa using hp
      rw [hb.frozen (hlt _ hin)]
      exact hz b off hin
    · intro ha
      have := hn ha
      rw [hps] at this
      simpa using this
    · intro p hp _
      rw [hps]
      simpa using hp

theorem trodAll_stays (hl : laidOutB P = true) {W W' : World} {sp : Nat → Bool} (hb : Below W.heap.size W W') : ∀ (ts : List TypeId) (vs : List Value) (ds : List (DataW H)) (ps : List MemPlace),
    (ts.all fun t => P.readableRec t && decide (t < P.types.size)) = true → DataW.TrodAll enc P W 0 (fun _ => true) true ts vs ds ps → (∀ x ∈ ps, x.block < W.heap.size) → (∀ x ∈ ps, sp x.block = true) →
    DataW.TrodAll enc P W' 0 sp true ts vs ds ps := by
  intro ts
  induction ts with
  | nil =>
    intro vs ds ps _ h _ _
    obtain ⟨rfl, rfl, rfl⟩ := trodAll_nil h
    rfl
  | cons t ts ih =>
    intro vs ds ps hts h hlt hsp
    obtain ⟨v, vs', d, ds', p, q, rfl, rfl, rfl, h1, h2⟩ := trodAll_cons h
    rw [List.all_cons, Bool.and_eq_true, Bool.and_eq_true, decide_eq_true_eq] at hts
    exact ⟨p, q, WideElems.Trod_stays hl hts.1.1 hts.1.2 h1 (fun x hx => hb.same (hlt x (List.mem_append.2 (.inl hx)))) (fun x hx => hsp x (List.mem_append.2 (.inl hx))),
      ih vs' ds' q hts.2 h2 (fun x hx => hlt x (List.mem_append.2 (.inr hx))) (fun x hx => hsp x (List.mem_append.2 (.inr hx))), rfl⟩

/-- A law's post: true, and its arguments as they were. -/
theorem law_post {f : Func} {s : ChangeSpec} {tb : TypeId} {handsOn again fresh : Bool} {W W' : World} {args : Array Value} {ds gs : List (DataW H)} {before : List MemPlace} (hl : laidOutB P = true)
    (hts : (f.params.toList.all fun t => P.readableRec t && decide (t < P.types.size)) = true) (hrt : f.resultTypes = #[tb]) (htb : P.underlying tb = some .bool) (hsv : s.vars = []) (hsf : s.fn H ds = { results := [.lit (.bool true)], args := ds })
    (hW : DataW.Whole enc P f.params.toList s.vars false W args.toList ds gs before) (hb : Below W.heap.size W W') : s.post enc P f false fresh handsOn again W args (.bool true) W' := by
  have hlt : ∀ p ∈ before, p.block < W.heap.size := fun p hp => hW.lt p hp
  have hW' := hW
  obtain ⟨p, q, hA, hV, rfl, _, _⟩ := hW
  rw [hsv] at hV
  obtain ⟨rfl, rfl⟩ := trodVars_none hV
  refine post_of_below (pa := p) (pv := []) hW' (fun b sp hd => ?_) (fun sp hsp => ?_) (fun sp hsp => ?_) rfl hb ?_
  · rw [List.append_nil, hsf, hrt]
    exact trodAll_cons_mk (shut_bool htb _) trodAll_mk0
  · rw [List.append_nil, hsf]
    exact trodAll_stays hl hb _ _ _ _ hts hA (fun x hx => hlt x (by simpa using hx)) (fun x hx => hsp x (by simpa using hx))
  · rw [List.append_nil, hsf, hsv]
    rfl
  · intro j t r hj hr
    rw [hrt] at hj
    match j, hj with
    | 0, hj =>
      have ht : t = tb := by simpa using hj.symm
      subst ht
      have : r = .bool true := by rw [hrt] at hr; simpa [Value.resultList] using hr.symm
      subst this
      exact okWide_bool_mk htb _
end

/-! ### Data made of integers alone, whatever their nesting -/
def isI64 (v : Value) : Prop := ∃ n, v = .int .i64 n ∧ (Lit.int .i64 n).wf = true
def intsOnly (P : Program) : Nat → TypeId → Bool
  | 0, _ => false
  | n + 1, t => match P.underlying t with
    | some (.int .i64) => true
    | some (.struct fs) => (fs.toList.all fun f => intsOnly P n f.type) && ((List.range (P.cellsOf t)).all fun i => fs.toList.any fun f => decide (f.offset ≤ i) && decide (i < f.offset + P.cellsOf f.type))
    | _ => false
theorem trod_ints {H : Type} {enc : TypeId × Value → H} {P : Program} {w : World} {base : Nat} {spare : Nat → Bool} {held : Bool} : ∀ (n : Nat) (t : TypeId) (fuel : Nat) (cs : List Value) (x : DataW H × List MemPlace),
    intsOnly P n t = true → DataW.trod enc P w base spare held fuel t cs = some x → ∀ (i : Nat) (c : Value), cs[i]? = some c → isI64 c := by
  intro n
  induction n with
  | zero => intro t fuel cs x h; simp [intsOnly] at h
  | succ n ih =>
    intro t fuel cs x h hx i c hc
    unfold intsOnly at h
    split at h
    · rename_i hu
      obtain ⟨m, hm, _, hw⟩ := DataW.trod_int hu hx
      subst hm
      match i, hc with
      | 0, hc => exact ⟨m, by simpa using hc.symm, hw⟩
    · rename_i fs hu
      rw [Bool.and_eq_true, List.all_eq_true, List.all_eq_true] at h
      obtain ⟨xs, n', _, _, hlen, hxl, hf⟩ := DataW.trod_struct hu hx
      have hi : i < P.cellsOf t := by
        rw [← hlen]
        exact (List.getElem?_eq_some_iff.1 hc).1
      have h2 := h.2 i (by simpa using hi)
      rw [List.any_eq_true] at h2
      obtain ⟨f, hfm, hfi⟩ := h2
      rw [Bool.and_eq_true, decide_eq_true_eq, decide_eq_true_eq] at hfi
      obtain ⟨j, hj, rfl⟩ := List.getElem_of_mem hfm
      have hj' : fs[j]? = some fs.toList[j] := by
        rw [← Array.getElem?_toList]
        exact List.getElem?_eq_getElem hj
      have h3 := hf j _ hj'
      have hjx : j < xs.length := by rw [hxl]; simpa using hj
      rw [List.getElem?_eq_getElem hjx] at h3
      refine ih _ _ _ _ (h.1 _ hfm) h3 (i - fs.toList[j].offset) c ?_
      rw [List.getElem?_take_of_lt (by omega), List.getElem?_drop, ← hc]
      congr 1
      omega
    · cases h

/-- A struct argument made of integers. -/
theorem open_ints {H : Type} {enc : TypeId × Value → H} {P : Program} {w : World} {base : Nat} {spare : Nat → Bool} {held : Bool} {r : Reach} {b0 n : Nat} {t : TypeId} {fs : Array Field} {v : Value} {d : DataW H} {p : List MemPlace} (hs : P.underlying t = some (.struct fs)) (hi : intsOnly P n t = true)
    (hv : Value.okWide P w r b0 t v) (h : DataW.Trod enc P w base spare held t v d p) : ∃ cs : Array Value, v = .agg cs ∧ cs.size = P.cellsOf t ∧ ∀ (i : Nat) (c : Value), cs[i]? = some c → isI64 c := by
  obtain ⟨cs, rfl, hsz⟩ := okWide_struct hs hv
  obtain ⟨fuel, hf⟩ := h
  exact ⟨cs, rfl, hsz, fun i c hc => trod_ints n t fuel _ _ hi hf i c (by simpa [Value.cells] using hc)⟩

theorem add_plain (b off n : Nat) : (⟨b, off, none⟩ : Addr).add n = ⟨b, off + n, none⟩ := by
  unfold Addr.add
  split <;> simp_all
/-- A slice argument whose elements are made of integers. -/
theorem open_slice_ints {H : Type} {enc : TypeId × Value → H} {P : Program} {w : World} {spare : Nat → Bool} {held : Bool} {r : Reach} {b0 n : Nat} {t e : TypeId} {v : Value} {d : DataW H} {p : List MemPlace} {α : Type} {size : Nat} {code : α → List Value} (hs : P.underlying t = some (.slice e)) (hi : intsOnly P n e = true) (hsz : P.cellsOf e = size) (hpos : 0 < size)
    (hdec : ∀ cs : List Value, cs.length = size → (∀ (i : Nat) (c : Value), cs[i]? = some c → isI64 c) → ∃ x, cs = code x)
    (hv : Value.okWide P w r b0 t v) (h : DataW.Trod enc P w 0 spare held t v d p) : ∃ (A : Option Addr) (l : List α) (c : Nat), v = .slice A l.length c ∧ Sl w w.heap.size size code A l ∧ l.length ≤ maxLen := by
  obtain ⟨a, len, cap, rfl⟩ := okWide_slice hs hv
  obtain ⟨fuel, hf⟩ := h
  rcases open_slice hs hf with ⟨h1, _⟩ | ⟨a', len', cap', m, n', D, Pl, h1, _, hlc, hcm, hm, _, hel⟩
  · simp [Value.cells] at h1
    obtain ⟨rfl, rfl, rfl⟩ := h1
    exact ⟨none, [], 0, rfl, Sl.nil_, by simp⟩
  · simp [Value.cells] at h1
    obtain ⟨rfl, rfl, rfl⟩ := h1
    have hlm : len ≤ m := by rw [hm]; split <;> omega
    have hx : ∀ i : Fin len, ∃ x : α, ∀ j v, (code x)[j]? = some v → w.cell? (a'.add (i.val * size + j)) = some v := by
      intro i
      obtain ⟨cs', hc, ht⟩ := hel i.val (by omega)
      obtain ⟨_, hl, hcell⟩ := World.cells?_some hc
      obtain ⟨x, rfl⟩ := hdec cs' (hl.trans hsz) (trod_ints n e n' cs' _ hi ht)
      refine ⟨x, fun j v hj => ?_⟩
      have hjl : j < P.cellsOf e := by
        rw [← hl]
        exact (List.getElem?_eq_some_iff.1 hj).1
      have := hcell j hjl
      rw [hj, hsz] at this
      rw [← this]
      rw [Go.Deep.add_add]
    refine ⟨some a', List.ofFn fun i : Fin len => (hx i).choose, cap, by simp, fun hne => ?_, by simp; omega⟩
    have hlen : 0 < len := by
      rcases Nat.eq_zero_or_pos len with h0 | h0
      · subst h0
        simp at hne
      · exact h0
    obtain ⟨cs', hc, ht⟩ := hel 0 (by omega)
    obtain ⟨_, hl, hcell⟩ := World.cells?_some hc
    have h0 := hcell 0 (by omega)
    rw [List.getElem?_eq_getElem (by omega)] at h0
    obtain ⟨b, off, spot⟩ := a'
    have hsp : spot = none := by
      cases spot with
      | none => rfl
      | some k =>
        unfold World.cell? at h0
        split at h0
        · simp [Addr.add] at h0
        · cases h0
    subst hsp
    have hb := World.block_lt_of_cell? w _ h0
    refine ⟨b, off, rfl, by simpa [Addr.add] using hb, fun k hk j v hj => ?_⟩
    have hk' : k < len := by simpa using hk
    have := (hx ⟨k, hk'⟩).choose_spec j v (by simpa using hj)
    rw [add_plain, ← Nat.add_assoc] at this
    exact this
end Go.Proofs.Ytphapnooonjnmaa
