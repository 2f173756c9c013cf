/-
  Texts, one behind the other: Com8, Frame, TaxHead, TaxArgs, TaxSums, TaxTogether.
-/
import Derived.Test.YtmlhoojcdidgkaaGreatM13
import Derived.Test.YtmlhoojcdidgkaaGreatRows
import Derived.Test.YtmlhoojcdidgkaaGreatM01
import Derived.ProofKit
import Derived.OpenShut
import Derived.Deep.Slices
import Derived.ReadAgain
import Derived.WideKeyArgs
import Derived.ChangeSame
import Derived.Test.YtmlhoojcdidgkaaGreatM05
import Derived.Deep.RegionHeld3
import Derived.Deep.DeepCutAuto
import Derived.Test.YtmlhoojcdidgkaaGreatM07
/-
  Package commission: statements as a whole; lists that are equal; what entries with a reference move.
-/
namespace Go.Proofs.YtmlhoojcdidgkaaGreat
set_option linter.unusedSimpArgs false
set_option linter.unusedVariables false
open Go.RowKit Go.Maps
open Go.Sort (grow size_grow)

set_option maxHeartbeats 4000000
set_option maxRecDepth 100000
theorem cstmt_any (p d : Int) (l : List Bill) (A : Option Addr) (c : Nat) (ch : Int) (w : World) (hs : SlBill w A l) (hl0 : l.length ≤ maxLen) :
    Calls Tryz.prog 41 #[.agg #[.int .i64 p, .int .i64 d], .slice A l.length c, .int .i64 ch] w fun e w' => OutI3 (stmtR p d l ch) e w' ∧ Below w.heap.size w w' := by
  by_cases h : l.length ≤ 3000 ∧ partOk p d = true ∧ billsOk l = true ∧ inB ch 0 29 = true
  · obtain ⟨h0, h1, h2, h3⟩ := h
    obtain ⟨L, hL⟩ := bok_of (billsOk_iff.1 h2).1
    exact cstmt_ok p d l L hL A c ch w hs h0 h1 h2 h3
  · exact cstmt_no p d l A c ch w hs hl0 h
theorem cstmt_lit {p d ch s er : Int} {l : List Bill} {r : List Int} (h : stmtR p d l ch = (r, s, er)) (A : Option Addr) (c : Nat) (w : World) (hs : SlBill w A l) (hl0 : l.length ≤ maxLen) :
    Calls Tryz.prog 41 #[.agg #[.int .i64 p, .int .i64 d], .slice A l.length c, .int .i64 ch] w fun e w' => (∃ A' c', e = .returned (.tuple #[.slice A' r.length c', .int .i64 s, .int .i64 er]) ∧ SlInt w' A' r) ∧ Below w.heap.size w w' := by
  have := cstmt_any p d l A c ch w hs hl0
  rw [h] at this
  exact this
theorem equal_ints_any (xs ys : List Int) (A B : Option Addr) (c d : Nat) (w : World) (hx : SlInt w A xs) (hy : SlInt w B ys) (hl1 : xs.length ≤ 1000000000000) :
    Calls Tryz.prog 75 #[.slice A xs.length c, .slice B ys.length d] w fun e w' => e = .returned (.bool (decide (xs = ys))) ∧ Below w.heap.size w w' := by
  by_cases hlen : xs.length = ys.length
  · have hb : ((xs.length : Int) != (ys.length : Int)) = false := by rw [bne_eq_false_iff_eq]; omega
    have hbn : (xs.length != ys.length) = false := by simpa using hlen
    have HL := Lib.hid hlen
    have hi1 : (xs.length : Int) ≤ ys.length := by omega
    have hi2 : (ys.length : Int) ≤ xs.length := by omega
    clear hlen
    go_enter Tryz.func75, Tryz.ntmps75
    go_wp2
    go_loopw [13] (fun k wr => ∃ m : Nat, m ≤ xs.length ∧ k = .int .i64 m ∧ Hid (xs.take m = ys.take m) ∧ Below w.heap.size w wr) (fun k _ => xs.length - (intOf k).toNat)
    case atStart => exact ⟨0, by omega, rfl, Lib.hid rfl, Below.refl _ _⟩
    case round =>
      obtain ⟨m, hm, rfl, hn, hbw⟩ := hrel
      have hbz := hbw.size
      by_cases hlt : m < xs.length
      · have hlt2 : m < ys.length := by have := HL.out; omega
        obtain ⟨b1, off1, rfl, hbl1, hcell1⟩ := (hx.below hbw).at_ hlt
        obtain ⟨b2, off2, rfl, hbl2, hcell2⟩ := (hy.below hbw).at_ hlt2
        have p1 := hcell1 0 _ rfl
        have p2 := hcell2 0 _ rfl
        rw [Nat.add_zero, Nat.mul_one] at p1 p2
        clear hcell1 hcell2
        have hx1 : (m : Int) < (xs.length : Int) := by omega
        have hx2 : (m : Int) < (ys.length : Int) := by omega
        have hx4 : (0 : Int) ≤ (m : Int) := by omega
        by_cases he : xs[m] = ys[m]
        · have hb2 : (xs[m] != ys[m]) = false := by simpa using he
          have HE := Lib.hid he
          clear he
          go_wp2_with fail
          go_quiet (fail)
          go_wp2_with fail
          go_roundw
          case rel =>
            refine ⟨m + 1, by omega, by go_num, Lib.hid ?_, ?_⟩
            · rw [List.take_succ_eq_append_getElem hlt, List.take_succ_eq_append_getElem hlt2, hn.out, HE.out]
            · repeat' (first
                | (with_reducible exact Below.refl _ _)
                | (with_reducible assumption)
                | (with_reducible refine below_drewN ?_ _)
                | (with_reducible refine Below.drew ?_)
                | (with_reducible refine below_regrown_up _ _ ?_ ?_)
                | (with_reducible refine Below.alloc ?_ ?_ _)
                | (with_reducible refine Below.setCell ?_ ?_ _)
                | (with_reducible refine below_up ?_ ?_ (by assumption))
                | (with_reducible exact Nat.le_refl _)
                | omega
                | (simp; done)
                | (simp; omega))
          case measure => simp [intOf]; omega
        · have hb2 : (xs[m] != ys[m]) = true := by simpa using he
          have HE := Lib.hid he
          clear he
          go_wp2_with fail
          go_quiet (fail)
          go_wp2_with fail
          go_ret
          refine ⟨ret_bool ?_, ?_⟩
          · symm
            rw [decide_eq_false_iff_not]
            intro e
            refine HE.out ?_
            simp [e]
          · repeat' (first
              | (with_reducible exact Below.refl _ _)
              | (with_reducible assumption)
              | (with_reducible refine below_drewN ?_ _)
              | (with_reducible refine Below.drew ?_)
              | (with_reducible refine below_regrown_up _ _ ?_ ?_)
              | (with_reducible refine Below.alloc ?_ ?_ _)
              | (with_reducible refine Below.setCell ?_ ?_ _)
              | (with_reducible refine below_up ?_ ?_ (by assumption))
              | (with_reducible exact Nat.le_refl _)
              | omega
              | (simp; done)
              | (simp; omega))
      · obtain rfl : m = xs.length := by omega
        go_wp2
        go_ret
        refine ⟨ret_bool ?_, ?_⟩
        · symm
          rw [decide_eq_true_eq]
          have := hn.out
          rw [List.take_of_length_le (Nat.le_refl _), List.take_of_length_le (by have := HL.out; omega)] at this
          exact this
        · repeat' (first
            | (with_reducible exact Below.refl _ _)
            | (with_reducible assumption)
            | (with_reducible refine below_drewN ?_ _)
            | (with_reducible refine Below.drew ?_)
            | (with_reducible refine below_regrown_up _ _ ?_ ?_)
            | (with_reducible refine Below.alloc ?_ ?_ _)
            | (with_reducible refine Below.setCell ?_ ?_ _)
            | (with_reducible refine below_up ?_ ?_ (by assumption))
            | (with_reducible exact Nat.le_refl _)
            | omega
            | (simp; done)
            | (simp; omega))
  · have hb : ((xs.length : Int) != (ys.length : Int)) = true := by rw [bne_iff_ne]; omega
    have hbn : (xs.length != ys.length) = true := by simpa using hlen
    have HL := Lib.hid hlen
    clear hlen
    go_enter Tryz.func75, Tryz.ntmps75
    go_wp2
    go_ret
    refine ⟨ret_bool ?_, ?_⟩
    · symm
      rw [decide_eq_false_iff_not]
      intro e
      exact HL.out (by rw [e])
    · repeat' (first
        | (with_reducible exact Below.refl _ _)
        | (with_reducible assumption)
        | (with_reducible refine below_drewN ?_ _)
        | (with_reducible refine Below.drew ?_)
        | (with_reducible refine below_regrown_up _ _ ?_ ?_)
        | (with_reducible refine Below.alloc ?_ ?_ _)
        | (with_reducible refine Below.setCell ?_ ?_ _)
        | (with_reducible refine below_up ?_ ?_ (by assumption))
        | (with_reducible exact Nat.le_refl _)
        | omega
        | (simp; done)
        | (simp; omega))
def movedR (es : List Entry) (acc ref : Int) : Int := mvs (fun a => a == acc) (es.filter fun e => e.ref == ref)
theorem movedR_snoc (es : List Entry) (e : Entry) (acc ref : Int) : movedR (es ++ [e]) acc ref = movedR es acc ref + if e.ref = ref then mv (fun a => a == acc) e else 0 := by
  unfold movedR
  rw [List.filter_append, mvs_append]
  by_cases h : e.ref = ref
  · rw [if_pos h]; simp [h, mvs_cons, mvs_nil]
  · rw [if_neg h]; simp [h, mvs_nil]
theorem mv_acc (acc : Int) (e : Entry) : mv (fun a => a == acc) e = (if e.debit = acc then e.cents else 0) - (if e.credit = acc then e.cents else 0) := by
  unfold mv
  simp
theorem movedR_bd {es : List Entry} {acc ref : Int} (h : ∀ e ∈ es, e.ok = true) : -(1000000000 * (es.length : Int)) ≤ movedR es acc ref ∧ movedR es acc ref ≤ 1000000000 * (es.length : Int) := by
  have h1 := mvs_bd (fun a => a == acc) (l := es.filter fun e => e.ref == ref) (fun e he => h e (List.mem_filter.1 he).1)
  have h2 := List.length_filter_le (fun e : Entry => e.ref == ref) es
  unfold movedR
  omega
end Go.Proofs.YtmlhoojcdidgkaaGreat

/-
  The row's frame: a law that returns true and leaves a world of which 'Below' is known; arguments made of integers, opened whatever their nesting.
-/
namespace Go.Proofs.YtmlhoojcdidgkaaGreat
set_option linter.unusedSimpArgs false
set_option linter.unusedVariables false
open Go.ChangeShapes Go.WideShapes Go.ChangeAt Go.RowKit Go.Deep

theorem own_none : ownKnob Tryz.prog.godebug = none := by kernel_rfl
theorem laid_out : laidOutB Tryz.prog = true := by kernel_rfl

section
variable {H : Type} {enc : TypeId × Value → H} {P : Program}
theorem post_of_below {f : Func} {s : ChangeSpec} {apart fresh handsOn again : Bool} {W W' : World} {args : Array Value} {v : Value} {ds gs : List (DataW H)} {before pa pv : List MemPlace}
    (hW : DataW.Whole enc P f.params.toList s.vars apart W args.toList ds gs before)
    (hres : ∀ (b : Nat) (sp : Nat → Bool) (hd : Bool), DataW.TrodAll enc P W' b sp hd f.resultTypes.toList (v.resultList f.resultTypes.size) (s.fn H (ds ++ gs)).results [])
    (hargs : ∀ sp : Nat → Bool, (∀ p ∈ before, sp p.block = true) → DataW.TrodAll enc P W' 0 sp true f.params.toList args.toList (s.fn H (ds ++ gs)).args pa)
    (hvars : ∀ sp : Nat → Bool, (∀ p ∈ before, sp p.block = true) → DataW.TrodVars enc P W' sp s.vars (s.fn H (ds ++ gs)).vars pv)
    (hps : before = pa ++ pv) (hb : Below W.heap.size W W')
    (hok : ∀ (j : Nat) (t : TypeId) (r : Value), f.resultTypes[j]? = some t → (v.resultList f.resultTypes.size)[j]? = some r → Value.okWide P W' .any 0 t r) :
    s.post enc P f apart fresh handsOn again W args v W' := by
  have hlt : ∀ p ∈ before, p.block < W.heap.size := fun p hp => hW.lt p hp
  have hold : ∀ p ∈ before, (fun b => decide (b < W.heap.size)) p.block = true := fun p hp => by simpa using hlt p hp
  refine ⟨ds, gs, before, [], pa, pv, hW, hres _ _ _, hargs _ hold, hvars _ hold, World.keptBut_mono (fun p hp => ⟨hp, ?_⟩) (hb.frame (· ∈ before)), fun _ => ?_⟩
  · rw [hps, List.mem_append] at hp
    exact Or.inr hp
  · obtain ⟨_, _, _, _, _, hz, hn⟩ := hW
    refine ⟨hok, _, _, ([] ++ pa) ++ pv, ⟨[] ++ pa, pv, trodAll_append (hargs _ (fun _ _ => rfl)) (hres _ _ _), hvars _ (fun _ _ => rfl), rfl, ?_, ?_⟩, ?_⟩
    · intro b off hp
      have hin : MemPlace.cell b off ∈ before := by rw [hps]; simpa using hp
      rw [hb.frozen (hlt _ hin)]
      exact hz b off hin
    · intro ha
      have := hn ha
      rw [hps] at this
      simpa using this
    · intro p hp _
      rw [hps]
      simpa using hp

theorem trodAll_stays (hl : laidOutB P = true) {W W' : World} {sp : Nat → Bool} (hb : Below W.heap.size W W') : ∀ (ts : List TypeId) (vs : List Value) (ds : List (DataW H)) (ps : List MemPlace),
    (ts.all fun t => P.readableRec t && decide (t < P.types.size)) = true → DataW.TrodAll enc P W 0 (fun _ => true) true ts vs ds ps → (∀ x ∈ ps, x.block < W.heap.size) → (∀ x ∈ ps, sp x.block = true) →
    DataW.TrodAll enc P W' 0 sp true ts vs ds ps := by
  intro ts
  induction ts with
  | nil =>
    intro vs ds ps _ h _ _
    obtain ⟨rfl, rfl, rfl⟩ := trodAll_nil h
    rfl
  | cons t ts ih =>
    intro vs ds ps hts h hlt hsp
    obtain ⟨v, vs', d, ds', p, q, rfl, rfl, rfl, h1, h2⟩ := trodAll_cons h
    rw [List.all_cons, Bool.and_eq_true, Bool.and_eq_true, decide_eq_true_eq] at hts
    exact ⟨p, q, WideElems.Trod_stays hl hts.1.1 hts.1.2 h1 (fun x hx => hb.same (hlt x (List.mem_append.2 (.inl hx)))) (fun x hx => hsp x (List.mem_append.2 (.inl hx))),
      ih vs' ds' q hts.2 h2 (fun x hx => hlt x (List.mem_append.2 (.inr hx))) (fun x hx => hsp x (List.mem_append.2 (.inr hx))), rfl⟩

/-- A law's post: true, and its arguments as they were. -/
theorem law_post {f : Func} {s : ChangeSpec} {tb : TypeId} {handsOn again fresh : Bool} {W W' : World} {args : Array Value} {ds gs : List (DataW H)} {before : List MemPlace} (hl : laidOutB P = true)
    (hts : (f.params.toList.all fun t => P.readableRec t && decide (t < P.types.size)) = true) (hrt : f.resultTypes = #[tb]) (htb : P.underlying tb = some .bool) (hsv : s.vars = []) (hsf : s.fn H ds = { results := [.lit (.bool true)], args := ds })
    (hW : DataW.Whole enc P f.params.toList s.vars false W args.toList ds gs before) (hb : Below W.heap.size W W') : s.post enc P f false fresh handsOn again W args (.bool true) W' := by
  have hlt : ∀ p ∈ before, p.block < W.heap.size := fun p hp => hW.lt p hp
  have hW' := hW
  obtain ⟨p, q, hA, hV, rfl, _, _⟩ := hW
  rw [hsv] at hV
  obtain ⟨rfl, rfl⟩ := trodVars_none hV
  refine post_of_below (pa := p) (pv := []) hW' (fun b sp hd => ?_) (fun sp hsp => ?_) (fun sp hsp => ?_) rfl hb ?_
  · rw [List.append_nil, hsf, hrt]
    exact trodAll_cons_mk (shut_bool htb _) trodAll_mk0
  · rw [List.append_nil, hsf]
    exact trodAll_stays hl hb _ _ _ _ hts hA (fun x hx => hlt x (by simpa using hx)) (fun x hx => hsp x (by simpa using hx))
  · rw [List.append_nil, hsf, hsv]
    rfl
  · intro j t r hj hr
    rw [hrt] at hj
    match j, hj with
    | 0, hj =>
      have ht : t = tb := by simpa using hj.symm
      subst ht
      have : r = .bool true := by rw [hrt] at hr; simpa [Value.resultList] using hr.symm
      subst this
      exact okWide_bool_mk htb _
end

/-! ### Data made of integers alone, whatever their nesting -/
def isI64 (v : Value) : Prop := ∃ n, v = .int .i64 n ∧ (Lit.int .i64 n).wf = true
def intsOnly (P : Program) : Nat → TypeId → Bool
  | 0, _ => false
  | n + 1, t => match P.underlying t with
    | some (.int .i64) => true
    | some (.struct fs) => (fs.toList.all fun f => intsOnly P n f.type) && ((List.range (P.cellsOf t)).all fun i => fs.toList.any fun f => decide (f.offset ≤ i) && decide (i < f.offset + P.cellsOf f.type))
    | _ => false
theorem trod_ints {H : Type} {enc : TypeId × Value → H} {P : Program} {w : World} {base : Nat} {spare : Nat → Bool} {held : Bool} : ∀ (n : Nat) (t : TypeId) (fuel : Nat) (cs : List Value) (x : DataW H × List MemPlace),
    intsOnly P n t = true → DataW.trod enc P w base spare held fuel t cs = some x → ∀ (i : Nat) (c : Value), cs[i]? = some c → isI64 c := by
  intro n
  induction n with
  | zero => intro t fuel cs x h; simp [intsOnly] at h
  | succ n ih =>
    intro t fuel cs x h hx i c hc
    unfold intsOnly at h
    split at h
    · rename_i hu
      obtain ⟨m, hm, _, hw⟩ := DataW.trod_int hu hx
      subst hm
      match i, hc with
      | 0, hc => exact ⟨m, by simpa using hc.symm, hw⟩
    · rename_i fs hu
      rw [Bool.and_eq_true, List.all_eq_true, List.all_eq_true] at h
      obtain ⟨xs, n', _, _, hlen, hxl, hf⟩ := DataW.trod_struct hu hx
      have hi : i < P.cellsOf t := by
        rw [← hlen]
        exact (List.getElem?_eq_some_iff.1 hc).1
      have h2 := h.2 i (by simpa using hi)
      rw [List.any_eq_true] at h2
      obtain ⟨f, hfm, hfi⟩ := h2
      rw [Bool.and_eq_true, decide_eq_true_eq, decide_eq_true_eq] at hfi
      obtain ⟨j, hj, rfl⟩ := List.getElem_of_mem hfm
      have hj' : fs[j]? = some fs.toList[j] := by
        rw [← Array.getElem?_toList]
        exact List.getElem?_eq_getElem hj
      have h3 := hf j _ hj'
      have hjx : j < xs.length := by rw [hxl]; simpa using hj
      rw [List.getElem?_eq_getElem hjx] at h3
      refine ih _ _ _ _ (h.1 _ hfm) h3 (i - fs.toList[j].offset) c ?_
      rw [List.getElem?_take_of_lt (by omega), List.getElem?_drop, ← hc]
      congr 1
      omega
    · cases h

/-- A struct argument made of integers. -/
theorem open_ints {H : Type} {enc : TypeId × Value → H} {P : Program} {w : World} {base : Nat} {spare : Nat → Bool} {held : Bool} {r : Reach} {b0 n : Nat} {t : TypeId} {fs : Array Field} {v : Value} {d : DataW H} {p : List MemPlace} (hs : P.underlying t = some (.struct fs)) (hi : intsOnly P n t = true)
    (hv : Value.okWide P w r b0 t v) (h : DataW.Trod enc P w base spare held t v d p) : ∃ cs : Array Value, v = .agg cs ∧ cs.size = P.cellsOf t ∧ ∀ (i : Nat) (c : Value), cs[i]? = some c → isI64 c := by
  obtain ⟨cs, rfl, hsz⟩ := okWide_struct hs hv
  obtain ⟨fuel, hf⟩ := h
  exact ⟨cs, rfl, hsz, fun i c hc => trod_ints n t fuel _ _ hi hf i c (by simpa [Value.cells] using hc)⟩

theorem add_plain (b off n : Nat) : (⟨b, off, none⟩ : Addr).add n = ⟨b, off + n, none⟩ := by
  unfold Addr.add
  split <;> simp_all
/-- A slice argument whose elements are made of integers. -/
theorem open_slice_ints {H : Type} {enc : TypeId × Value → H} {P : Program} {w : World} {spare : Nat → Bool} {held : Bool} {r : Reach} {b0 n : Nat} {t e : TypeId} {v : Value} {d : DataW H} {p : List MemPlace} {α : Type} {size : Nat} {code : α → List Value} (hs : P.underlying t = some (.slice e)) (hi : intsOnly P n e = true) (hsz : P.cellsOf e = size) (hpos : 0 < size)
    (hdec : ∀ cs : List Value, cs.length = size → (∀ (i : Nat) (c : Value), cs[i]? = some c → isI64 c) → ∃ x, cs = code x)
    (hv : Value.okWide P w r b0 t v) (h : DataW.Trod enc P w 0 spare held t v d p) : ∃ (A : Option Addr) (l : List α) (c : Nat), v = .slice A l.length c ∧ Sl w w.heap.size size code A l ∧ l.length ≤ maxLen := by
  obtain ⟨a, len, cap, rfl⟩ := okWide_slice hs hv
  obtain ⟨fuel, hf⟩ := h
  rcases open_slice hs hf with ⟨h1, _⟩ | ⟨a', len', cap', m, n', D, Pl, h1, _, hlc, hcm, hm, _, hel⟩
  · simp [Value.cells] at h1
    obtain ⟨rfl, rfl, rfl⟩ := h1
    exact ⟨none, [], 0, rfl, Sl.nil_, by simp⟩
  · simp [Value.cells] at h1
    obtain ⟨rfl, rfl, rfl⟩ := h1
    have hlm : len ≤ m := by rw [hm]; split <;> omega
    have hx : ∀ i : Fin len, ∃ x : α, ∀ j v, (code x)[j]? = some v → w.cell? (a'.add (i.val * size + j)) = some v := by
      intro i
      obtain ⟨cs', hc, ht⟩ := hel i.val (by omega)
      obtain ⟨_, hl, hcell⟩ := World.cells?_some hc
      obtain ⟨x, rfl⟩ := hdec cs' (hl.trans hsz) (trod_ints n e n' cs' _ hi ht)
      refine ⟨x, fun j v hj => ?_⟩
      have hjl : j < P.cellsOf e := by
        rw [← hl]
        exact (List.getElem?_eq_some_iff.1 hj).1
      have := hcell j hjl
      rw [hj, hsz] at this
      rw [← this]
      rw [Go.Deep.add_add]
    refine ⟨some a', List.ofFn fun i : Fin len => (hx i).choose, cap, by simp, fun hne => ?_, by simp; omega⟩
    have hlen : 0 < len := by
      rcases Nat.eq_zero_or_pos len with h0 | h0
      · subst h0
        simp at hne
      · exact h0
    obtain ⟨cs', hc, ht⟩ := hel 0 (by omega)
    obtain ⟨_, hl, hcell⟩ := World.cells?_some hc
    have h0 := hcell 0 (by omega)
    rw [List.getElem?_eq_getElem (by omega)] at h0
    obtain ⟨b, off, spot⟩ := a'
    have hsp : spot = none := by
      cases spot with
      | none => rfl
      | some k =>
        unfold World.cell? at h0
        split at h0
        · simp [Addr.add] at h0
        · cases h0
    subst hsp
    have hb := World.block_lt_of_cell? w _ h0
    refine ⟨b, off, rfl, by simpa [Addr.add] using hb, fun k hk j v hj => ?_⟩
    have hk' : k < len := by simpa using hk
    have := (hx ⟨k, hk'⟩).choose_spec j v (by simpa using hj)
    rw [add_plain, ← Nat.add_assoc] at this
    exact this
end Go.Proofs.YtmlhoojcdidgkaaGreat

/-
  The laws of package tax: the head that each of them calls.
-/
namespace Go.Proofs.YtmlhoojcdidgkaaGreat
set_option linter.unusedSimpArgs false
set_option linter.unusedVariables false
open Go.RowKit Go.Maps
open Go.Sort (grow size_grow)

set_option maxHeartbeats 4000000
set_option maxRecDepth 100000

def exBill : Bill := ⟨1, 0, 4, 1, 5, 8, 2, 30000, 0⟩
def taxA (t : Tax) : Array Value := #[.int .i64 t.id, .int .i64 t.place, .int .i64 t.night, .int .i64 t.n, .int .i64 t.d, .int .i64 t.first, .int .i64 t.round]
/-- Where the head's taxes lie, once three of them have been copied. -/
structure HeadAt (w : World) (b4 b5 b6 : Nat) (W : World) : Prop where
  below : Below w.heap.size w W
  size : w.heap.size + 6 ≤ W.heap.size
  l4 : w.heap.size + 3 ≤ b4 ∧ b4 < w.heap.size + 6
  l5 : w.heap.size + 3 ≤ b5 ∧ b5 < w.heap.size + 6
  l6 : w.heap.size + 3 ≤ b6 ∧ b6 < w.heap.size + 6
  n45 : b4 ≠ b5
  n46 : b4 ≠ b6
  n56 : b5 ≠ b6
  c1 : ∀ o, W.cell? ⟨w.heap.size, o, none⟩ = (#[Value.int .i64 1, .int .i64 4, .int .i64 200, .int .i64 0, .int .i64 1, .int .i64 0, .int .i64 1] : Array Value)[o]?
  c2 : ∀ o, W.cell? ⟨w.heap.size + 1, o, none⟩ = (#[Value.int .i64 2, .int .i64 4, .int .i64 0, .int .i64 7, .int .i64 100, .int .i64 0, .int .i64 1] : Array Value)[o]?
  c3 : ∀ o, W.cell? ⟨w.heap.size + 1 + 1, o, none⟩ = (#[Value.int .i64 3, .int .i64 4, .int .i64 0, .int .i64 1, .int .i64 3, .int .i64 2, .int .i64 2] : Array Value)[o]?
  c4 : ∀ o, W.cell? ⟨b4, o, none⟩ = (#[Value.int .i64 3, .int .i64 4, .int .i64 0, .int .i64 1, .int .i64 3, .int .i64 2, .int .i64 2] : Array Value)[o]?
  c5 : ∀ o, W.cell? ⟨b5, o, none⟩ = (#[Value.int .i64 3, .int .i64 4, .int .i64 0, .int .i64 1, .int .i64 3, .int .i64 2, .int .i64 2] : Array Value)[o]?
  c6 : ∀ o, W.cell? ⟨b6, o, none⟩ = (#[Value.int .i64 2, .int .i64 4, .int .i64 0, .int .i64 7, .int .i64 100, .int .i64 0, .int .i64 1] : Array Value)[o]?
  f4 : ∀ o, W.frozen? ⟨b4, o, none⟩ = false
  f5 : ∀ o, W.frozen? ⟨b5, o, none⟩ = false
  f6 : ∀ o, W.frozen? ⟨b6, o, none⟩ = false
theorem headAt_drew {w W : World} {b4 b5 b6 : Nat} (h : HeadAt w b4 b5 b6 W) : HeadAt w b4 b5 b6 W.drew :=
  ⟨Below.drew h.below, h.size, h.l4, h.l5, h.l6, h.n45, h.n46, h.n56, h.c1, h.c2, h.c3, h.c4, h.c5, h.c6, h.f4, h.f5, h.f6⟩
theorem box_at {w : World} {n : Nat} (cs : Array Value) (t : TypeId) (hn : n = w.heap.size) : ∀ o, (w.alloc (.cells cs t)).cell? ⟨n, o, none⟩ = cs[o]? := by subst hn; exact box_new w cs t
theorem fr_at {w : World} {n : Nat} (cs : Array Value) (t : TypeId) (hn : n = w.heap.size) : ∀ o, (w.alloc (.cells cs t)).frozen? ⟨n, o, none⟩ = false := by subst hn; intro o; exact World.frozen?_alloc_new w cs t o
theorem fr_old {w : World} {n : Nat} (h : ∀ o, w.frozen? ⟨n, o, none⟩ = false) (hn : n < w.heap.size) (x : Obj) : ∀ o, (w.alloc x).frozen? ⟨n, o, none⟩ = false := fun o => (World.frozen?_alloc_old w x ⟨n, o, none⟩ (by simp only; omega)).trans (h o)
def tNight : Tax := ⟨1, 4, 200, 0, 1, 0, 1⟩
def tPart : Tax := ⟨2, 4, 0, 7, 100, 0, 1⟩
def tThird : Tax := ⟨3, 4, 0, 1, 3, 2, 2⟩
def tEven : Tax := ⟨3, 4, 0, 1, 3, 2, 3⟩
def tDown : Tax := ⟨3, 4, 0, 1, 3, 2, 1⟩
def tFar : Tax := ⟨9, 5, 0, 7, 100, 0, 1⟩
def tZero : Tax := ⟨0, 0, 0, 0, 0, 0, 0⟩
theorem oc1 (w : World) : Calls Tryz.prog 65 #[tNight.v, exBill.v] w fun e w' => e = .returned (.tuple #[.int .i64 1200, .int .i64 0]) ∧ Below w.heap.size w w' := by
  have h : one tNight exBill = (1200, 0) := by decide +kernel
  have := one_any tNight exBill w
  rw [h] at this
  exact this
theorem oc2 (w : World) : Calls Tryz.prog 65 #[tPart.v, exBill.v] w fun e w' => e = .returned (.tuple #[.int .i64 2100, .int .i64 0]) ∧ Below w.heap.size w w' := by
  have h : one tPart exBill = (2100, 0) := by decide +kernel
  have := one_any tPart exBill w
  rw [h] at this
  exact this
theorem oc3 (w : World) : Calls Tryz.prog 65 #[tThird.v, exBill.v] w fun e w' => e = .returned (.tuple #[.int .i64 6667, .int .i64 0]) ∧ Below w.heap.size w w' := by
  have h : one tThird exBill = (6667, 0) := by decide +kernel
  have := one_any tThird exBill w
  rw [h] at this
  exact this
theorem oc4 (w : World) : Calls Tryz.prog 65 #[tEven.v, exBill.v] w fun e w' => e = .returned (.tuple #[.int .i64 6667, .int .i64 0]) ∧ Below w.heap.size w w' := by
  have h : one tEven exBill = (6667, 0) := by decide +kernel
  have := one_any tEven exBill w
  rw [h] at this
  exact this
theorem oc5 (w : World) : Calls Tryz.prog 65 #[tDown.v, exBill.v] w fun e w' => e = .returned (.tuple #[.int .i64 6666, .int .i64 0]) ∧ Below w.heap.size w w' := by
  have h : one tDown exBill = (6666, 0) := by decide +kernel
  have := one_any tDown exBill w
  rw [h] at this
  exact this
theorem oc6 (w : World) : Calls Tryz.prog 65 #[tZero.v, exBill.v] w fun e w' => e = .returned (.tuple #[.int .i64 0, .int .i64 1]) ∧ Below w.heap.size w w' := by
  have h : one tZero exBill = (0, 1) := by decide +kernel
  have := one_any tZero exBill w
  rw [h] at this
  exact this

def headCells : Array Value := #[.int .i64 1, .int .i64 4, .int .i64 200, .int .i64 0, .int .i64 1, .int .i64 0, .int .i64 1, .int .i64 9, .int .i64 5, .int .i64 0, .int .i64 7, .int .i64 100, .int .i64 0, .int .i64 1, .int .i64 2, .int .i64 4, .int .i64 0, .int .i64 7, .int .i64 100, .int .i64 0, .int .i64 1]
theorem headSl (W : World) : SlTax (W.alloc (.cells headCells 67)) (some ⟨W.heap.size, 0, none⟩) [tNight, tFar, tPart] :=
  sl_of_box (cs := headCells) (fun _ => rfl) (fun o => World.cell?_alloc_new W headCells 67 o) (by simp) rfl
theorem headSl2 {W wx : World} (h : Below (W.alloc (.cells headCells 67)).heap.size (W.alloc (.cells headCells 67)) wx) : SlTax wx (some ⟨W.heap.size, 0, none⟩) [tNight, tFar, tPart] :=
  ((headSl W).below h).more h.size
theorem headSl3 {W wx : World} (h : Below (W.alloc (.cells headCells 67)).heap.size (W.alloc (.cells headCells 67)).drew wx) : SlTax wx (some ⟨W.heap.size, 0, none⟩) [tNight, tFar, tPart] :=
  headSl2 ⟨h.os, h.tape, h.output, h.size, h.block⟩
theorem headAll (A : Option Addr) (c : Nat) (w : World) (h : SlTax w A [tNight, tFar, tPart]) :
    Calls Tryz.prog 12 #[.slice A 3 c, exBill.v] w fun e w' => ∃ A' c', e = .returned (.tuple #[.slice A' 3 c', .int .i64 3300, .int .i64 0]) ∧ SlInt w' A' [1200, 0, 2100] ∧ Below w.heap.size w w' := by
  have h1 : allT [tNight, tFar, tPart] exBill = ([1200, 0, 2100], 3300, 0) := by decide +kernel
  refine (tall_any [tNight, tFar, tPart] exBill A c w h (by decide)).mono ?_
  rintro e w' ⟨⟨A', c', he, hs⟩, hb⟩
  rw [h1] at he hs
  exact ⟨A', c', he, hs, hb⟩

end Go.Proofs.YtmlhoojcdidgkaaGreat

/-
  The laws of package tax: their arguments; plain words on rounding.
-/
namespace Go.Proofs.YtmlhoojcdidgkaaGreat
set_option linter.unusedSimpArgs false
set_option linter.unusedVariables false
open Go.ChangeShapes Go.WideShapes Go.ChangeAt Go.RowKit Go.Deep
set_option maxRecDepth 100000

theorem dec_tax (cs : List Value) (h : cs.length = 7) (hc : ∀ (i : Nat) (c : Value), cs[i]? = some c → isI64 c) : ∃ t : Tax, cs = t.cs := by
  match cs, h with
  | [a, b, c, d, e, f, g], _ =>
    obtain ⟨a, rfl, _⟩ := hc 0 _ rfl
    obtain ⟨b, rfl, _⟩ := hc 1 _ rfl
    obtain ⟨c, rfl, _⟩ := hc 2 _ rfl
    obtain ⟨d, rfl, _⟩ := hc 3 _ rfl
    obtain ⟨e, rfl, _⟩ := hc 4 _ rfl
    obtain ⟨f, rfl, _⟩ := hc 5 _ rfl
    obtain ⟨g, rfl, _⟩ := hc 6 _ rfl
    exact ⟨⟨a, b, c, d, e, f, g⟩, rfl⟩
theorem dec_bill (cs : List Value) (h : cs.length = 9) (hc : ∀ (i : Nat) (c : Value), cs[i]? = some c → isI64 c) : ∃ b : Bill, Value.agg cs.toArray = b.v := by
  match cs, h with
  | [a, b, c, d, e, f, g, x, y], _ =>
    obtain ⟨a, rfl, _⟩ := hc 0 _ rfl
    obtain ⟨b, rfl, _⟩ := hc 1 _ rfl
    obtain ⟨c, rfl, _⟩ := hc 2 _ rfl
    obtain ⟨d, rfl, _⟩ := hc 3 _ rfl
    obtain ⟨e, rfl, _⟩ := hc 4 _ rfl
    obtain ⟨f, rfl, _⟩ := hc 5 _ rfl
    obtain ⟨g, rfl, _⟩ := hc 6 _ rfl
    obtain ⟨x, rfl, _⟩ := hc 7 _ rfl
    obtain ⟨y, rfl, _⟩ := hc 8 _ rfl
    exact ⟨⟨a, b, c, d, e, f, g, x, y⟩, rfl⟩
section
variable {H : Type} {enc : TypeId × Value → H} {w : World} {r : Reach} {b0 : Nat} {v : Value} {d : DataW H} {p : List MemPlace}
theorem arg_tax (hv : Value.okWide Tryz.prog w r b0 67 v) (h : DataW.Trod enc Tryz.prog w 0 (fun _ => true) true 67 v d p) : ∃ t : Tax, v = t.v := by
  obtain ⟨cs, rfl, hsz, hc⟩ := open_ints (n := 4) Tryz.underlying67 (by kernel_rfl) hv h
  obtain ⟨l⟩ := cs
  obtain ⟨t, ht⟩ := dec_tax l (hsz.trans (by kernel_rfl)) (fun i c hi => hc i c (by simpa using hi))
  exact ⟨t, by rw [ht]; rfl⟩
theorem arg_bill (hv : Value.okWide Tryz.prog w r b0 31 v) (h : DataW.Trod enc Tryz.prog w 0 (fun _ => true) true 31 v d p) : ∃ b : Bill, v = b.v := by
  obtain ⟨cs, rfl, hsz, hc⟩ := open_ints (n := 4) Tryz.underlying31 (by kernel_rfl) hv h
  obtain ⟨l⟩ := cs
  exact dec_bill l (hsz.trans (by kernel_rfl)) (fun i c hi => hc i c (by simpa using hi))
theorem arg_taxes (hv : Value.okWide Tryz.prog w r b0 23 v) (h : DataW.Trod enc Tryz.prog w 0 (fun _ => true) true 23 v d p) : ∃ (A : Option Addr) (l : List Tax) (c : Nat), v = .slice A l.length c ∧ SlTax w A l ∧ l.length ≤ maxLen :=
  open_slice_ints (n := 4) (size := 7) (code := Tax.cs) Tryz.underlying23 (by kernel_rfl) (by kernel_rfl) (by decide) dec_tax hv h
end

theorem one_any' {t : Tax} {b : Bill} {m e : Int} (h : one t b = (m, e)) (w : World) : Calls Tryz.prog 65 #[t.v, b.v] w fun x w' => x = .returned (.tuple #[.int .i64 m, .int .i64 e]) ∧ Below w.heap.size w w' := by
  have := one_any t b w
  rwa [h] at this
/-- What one tax of a bill may be: refused; far; too great; the rounded number. -/
theorem one_cases (t : Tax) (b : Bill) : one t b = (0, 1) ∨ (t.ok = true ∧ b.ok = true ∧ t.place ≠ b.place ∧ one t b = (0, 0)) ∨ one t b = (0, 3) ∨ (t.ok = true ∧ b.ok = true ∧ t.place = b.place ∧ one t b = (oneV t b, 0) ∧ 0 ≤ oneV t b ∧ oneV t b ≤ 1000000000) := by
  have hb := one_bd t b
  unfold one at hb ⊢
  split
  · exact .inl rfl
  · rename_i h1
    simp at h1
    split
    · rename_i h2
      exact .inr (.inl ⟨h1.1, h1.2, h2, rfl⟩)
    · rename_i h2
      split
      · exact .inr (.inr (.inl rfl))
      · rename_i h3
        rw [if_neg (by simp [h1]), if_neg h2, if_neg h3] at hb
        exact .inr (.inr (.inr ⟨h1.1, h1.2, by simpa using h2, rfl, hb⟩))
/-- Rounding, read off the remainder. -/
theorem rnd_spec (n way : Int) {d : Int} (hd : 1 ≤ d) : ((way = 1 → rnd n d way * d - n ≤ 0 ∧ -d < rnd n d way * d - n) ∧ (way = 2 → 0 ≤ rnd n d way * d - n ∧ rnd n d way * d - n < d)) ∧
    (way = 3 → 2 * (rnd n d way * d - n) ≤ d ∧ -d ≤ 2 * (rnd n d way * d - n) ∧ ((2 * (rnd n d way * d - n) ≠ d ∧ 2 * (rnd n d way * d - n) ≠ -d) ∨ rnd n d way % 2 = 0)) := by
  have h1 := Int.emod_add_mul_ediv n d
  have h2 := Int.emod_nonneg n (show d ≠ 0 by omega)
  have h3 := Int.emod_lt_of_pos n (show 0 < d by omega)
  have e1 : (n / d + 1) * d = d * (n / d) + d := by rw [Int.add_mul, Int.mul_comm]; omega
  have e2 : n / d * d = d * (n / d) := Int.mul_comm _ _
  unfold rnd
  refine ⟨⟨fun h => ?_, fun h => ?_⟩, fun h => ?_⟩
  all_goals subst h
  · rw [if_neg (by simp)]
    omega
  · by_cases h0 : 0 < n % d
    · rw [if_pos (.inl ⟨rfl, h0⟩)]
      omega
    · rw [if_neg (by simp [h0])]
      omega
  · by_cases h0 : d < 2 * (n % d)
    · rw [if_pos (.inr ⟨rfl, .inl h0⟩)]
      omega
    · by_cases h4 : 2 * (n % d) = d
      · by_cases h5 : (n / d) % 2 = 0
        · rw [if_neg (by simp [h5]; omega)]
          omega
        · rw [if_pos (.inr ⟨rfl, .inr ⟨h4, h5⟩⟩)]
          omega
      · rw [if_neg (by simp [h4]; omega)]
        omega
end Go.Proofs.YtmlhoojcdidgkaaGreat

/-
  All taxes of a bill, in another order or without those of other places: plain laws.
-/
namespace Go.Proofs.YtmlhoojcdidgkaaGreat
set_option linter.unusedSimpArgs false
set_option linter.unusedVariables false

theorem one_err {t : Tax} {b : Bill} (ht : t.ok = true) (hb : b.ok = true) (h : (one t b).2 ≠ 0) : (one t b).2 = 3 := by
  unfold one at h ⊢
  rw [if_neg (by simp [ht, hb])] at h ⊢
  split at h
  · exact absurd rfl h
  · rename_i h1
    split at h
    · rename_i h2
      rw [if_neg h1, if_pos h2]
    · exact absurd rfl h
def allE (l : List Tax) (b : Bill) : Bool := (l.any fun t => (one t b).2 != 0) || decide (1000000000 < (onesT l b).sum)
theorem allT_bad {l : List Tax} {b : Bill} (h : (taxesOk l && b.ok) = false) : allT l b = ([], 0, 1) := allT_arg (by rw [Bool.and_eq_false_iff] at h; rcases h with h | h <;> simp [h])
theorem allT_good {l : List Tax} {b : Bill} (h : (taxesOk l && b.ok) = true) : allT l b = if allE l b = true then ([], 0, 3) else (onesT l b, (onesT l b).sum, 0) := by
  rw [Bool.and_eq_true] at h
  unfold allE
  cases ha : l.any fun t => (one t b).2 != 0 with
  | true =>
    rw [if_pos (by simp)]
    unfold allT
    rw [if_neg (by simp [h])]
    cases hf : l.find? (fun t => (one t b).2 != 0) with
    | none =>
      rw [List.find?_eq_none] at hf
      rw [List.any_eq_true] at ha
      obtain ⟨t, ht, hx⟩ := ha
      exact absurd hx (hf t ht)
    | some t =>
      have h1 := List.find?_some hf
      have h2 := List.mem_of_find?_eq_some hf
      have ht : t.ok = true := by
        obtain ⟨j, hj, rfl⟩ := List.getElem_of_mem h2
        exact (taxesOk_iff.1 h.1).2.1 j hj
      simp only
      rw [one_err ht h.2 (by simpa using h1)]
  | false =>
    rw [allT_ok (by simp [h]) (fun j hj => by
      rw [List.any_eq_false] at ha
      have := ha _ (List.getElem_mem hj)
      simpa using this)]
    simp only [Bool.false_or, decide_eq_true_eq]
theorem onesT_rev (l : List Tax) (b : Bill) : onesT l.reverse b = (onesT l b).reverse := by simp [onesT]
theorem taxesOk_rev (l : List Tax) : taxesOk l.reverse = taxesOk l := by
  unfold taxesOk
  rw [List.length_reverse, List.all_reverse, List.map_reverse]
  congr 1
  exact decide_eq_decide.2 (List.pairwise_reverse.trans ⟨fun h => h.imp Ne.symm, fun h => h.imp Ne.symm⟩)
theorem sum_rev (l : List Int) : l.reverse.sum = l.sum := by
  induction l with
  | nil => rfl
  | cons x l ih => rw [List.reverse_cons, List.sum_append, ih, List.sum_cons]; simp; omega
theorem allE_rev (l : List Tax) (b : Bill) : allE l.reverse b = allE l b := by
  unfold allE
  rw [List.any_reverse, onesT_rev, sum_rev]
/-- In the opposite order. -/
theorem allT_rev (l : List Tax) (b : Bill) : (allT l.reverse b).2 = (allT l b).2 := by
  cases h : taxesOk l && b.ok with
  | false => rw [allT_bad h, allT_bad (by rw [taxesOk_rev]; exact h)]
  | true =>
    rw [allT_good h, allT_good (by rw [taxesOk_rev]; exact h), allE_rev]
    split
    · rfl
    · rw [onesT_rev, sum_rev]
def ownT (l : List Tax) (b : Bill) : List Tax := l.filter fun t => decide (t.place = b.place)
theorem one_far {t : Tax} {b : Bill} (ht : t.ok = true) (hb : b.ok = true) (h : t.place ≠ b.place) : one t b = (0, 0) := by
  unfold one
  rw [if_neg (by simp [ht, hb]), if_pos h]
theorem own_sums {b : Bill} (hb : b.ok = true) : ∀ {l : List Tax}, (∀ t ∈ l, t.ok = true) → (onesT (ownT l b) b).sum = (onesT l b).sum ∧ ((ownT l b).any fun t => (one t b).2 != 0) = l.any fun t => (one t b).2 != 0
  | [], _ => ⟨rfl, rfl⟩
  | t :: l, h => by
    obtain ⟨h1, h2⟩ := own_sums hb (l := l) (fun x hx => h x (by simp [hx]))
    by_cases hp : t.place = b.place
    · have e : ownT (t :: l) b = t :: ownT l b := by unfold ownT; rw [List.filter_cons, if_pos (by simpa using hp)]
      rw [e]
      exact ⟨by show (_ :: onesT (ownT l b) b).sum = (_ :: onesT l b).sum; rw [List.sum_cons, List.sum_cons, h1], by rw [List.any_cons, List.any_cons, h2]⟩
    · have e : ownT (t :: l) b = ownT l b := by unfold ownT; rw [List.filter_cons, if_neg (by simpa using hp)]
      have e2 := one_far (h t (by simp)) hb hp
      rw [e]
      exact ⟨by rw [h1]; show _ = (_ :: onesT l b).sum; rw [List.sum_cons]; simp [e2], by rw [List.any_cons, h2, e2]; simp⟩
theorem ownT_ok {l : List Tax} (b : Bill) (h : taxesOk l = true) : taxesOk (ownT l b) = true := by
  unfold taxesOk at h ⊢
  simp only [Bool.and_eq_true, decide_eq_true_eq, List.all_eq_true] at h ⊢
  exact ⟨⟨Nat.le_trans (List.length_filter_le _ _) h.1.1, fun t ht => h.1.2 t (List.mem_filter.1 ht).1⟩, h.2.sublist (List.filter_sublist.map _)⟩
/-- Without those of other places. -/
theorem allT_own {l : List Tax} {b : Bill} (h : (taxesOk l && b.ok) = true) : (allT (ownT l b) b).2 = (allT l b).2 := by
  have h' := h
  rw [Bool.and_eq_true] at h'
  obtain ⟨e1, e2⟩ := own_sums h'.2 (l := l) (fun t ht => by
    obtain ⟨j, hj, rfl⟩ := List.getElem_of_mem ht
    exact (taxesOk_iff.1 h'.1).2.1 j hj)
  rw [allT_good h, allT_good (by rw [ownT_ok b h'.1, h'.2]; rfl)]
  have e3 : allE (ownT l b) b = allE l b := by unfold allE; rw [e1, e2]
  rw [e3]
  split
  · rfl
  · rw [e1]
/-- What comes of all taxes: refused; too great; each one, and the sum. -/
theorem allT_cases (l : List Tax) (b : Bill) : ((taxesOk l && b.ok) = false ∧ allT l b = ([], 0, 1)) ∨ ((taxesOk l && b.ok) = true ∧ allT l b = ([], 0, 3)) ∨
    ((taxesOk l && b.ok) = true ∧ allT l b = (onesT l b, (onesT l b).sum, 0) ∧ (∀ j (h : j < l.length), (one l[j] b).2 = 0) ∧ 0 ≤ (onesT l b).sum ∧ (onesT l b).sum ≤ 1000000000) := by
  cases h : taxesOk l && b.ok with
  | false => exact .inl ⟨rfl, allT_bad h⟩
  | true =>
    rw [allT_good h]
    by_cases he : allE l b = true
    · rw [if_pos he]
      exact .inr (.inl ⟨rfl, rfl⟩)
    · rw [if_neg he]
      have he' : allE l b = false := by simpa using he
      unfold allE at he'
      rw [Bool.or_eq_false_iff, List.any_eq_false, decide_eq_false_iff_not] at he'
      exact .inr (.inr ⟨rfl, rfl, fun j hj => by simpa using he'.1 _ (List.getElem_mem hj), (onesT_sum_bd l b).1, by omega⟩)
end Go.Proofs.YtmlhoojcdidgkaaGreat

/-
  The law 'TaxTogether': the walk.
-/
namespace Go.Proofs.YtmlhoojcdidgkaaGreat
set_option linter.unusedSimpArgs false
set_option linter.unusedVariables false
open Go.RowKit Go.Maps
open Go.Sort (grow size_grow)

set_option maxHeartbeats 4000000
set_option maxRecDepth 100000
theorem elemTax : Elem Tryz.prog 23 67 7 56 := elem_mk Tryz.underlying23 (by kernel_rfl)
theorem tax_len (y : Tax) : (Tax.cs y).length = 7 := rfl
theorem tax_one (y : Tax) : ∀ u ∈ Tax.cs y, u.oneCell' = true := by simp [Tax.cs, Value.oneCell']
theorem tall_any' {l : List Tax} {b : Bill} {xs : List Int} {m e : Int} (h : allT l b = (xs, m, e)) (A : Option Addr) (c : Nat) (w : World) (hs : SlTax w A l) (hl : l.length ≤ 1000000000000) :
    Calls Tryz.prog 12 #[.slice A l.length c, b.v] w fun x w' => (∃ A' c', x = .returned (.tuple #[.slice A' xs.length c', .int .i64 m, .int .i64 e]) ∧ SlInt w' A' xs) ∧ Below w.heap.size w w' := by
  have := tall_any l b A c w hs hl
  rw [h] at this
  exact this

end Go.Proofs.YtmlhoojcdidgkaaGreat
