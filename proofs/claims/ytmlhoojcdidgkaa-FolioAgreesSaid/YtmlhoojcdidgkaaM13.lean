/-
  Texts, one behind the other: LedHead, LedMatches, LedZero, LedPosts, LedDays, UndoP, LedUndoes, SetP, FoQ.
-/
import Derived.Test.YtmlhoojcdidgkaaM08
import Derived.Test.YtmlhoojcdidgkaaM11
import Derived.Test.YtmlhoojcdidgkaaM07
import Derived.Test.YtmlhoojcdidgkaaM09
import Derived.Test.YtmlhoojcdidgkaaM12
/-
  The laws of package ledger: the head that each of them calls; their arguments.
-/
namespace Go.Proofs.Ytmlhoojcdidgkaa
set_option linter.unusedSimpArgs false
set_option linter.unusedVariables false
open Go.RowKit
open Go.Sort (grow size_grow)

set_option maxHeartbeats 4000000
set_option maxRecDepth 100000

/-- A list of entries and an error, written out. -/
def OutE (r : List Entry) (er : Int) (e : Ending) (w' : World) : Prop := ∃ A c, e = .returned (.tuple #[.slice A r.length c, .int .i64 er]) ∧ r.length ≤ c ∧ SlEnt w' A r
theorem bal_lit {l : List Entry} {a day n er : Int} (h : balR l a day = (n, er)) (A : Option Addr) (c : Nat) (w : World) (hs : SlEnt w A l) (hl : l.length ≤ 140737488355328) :
    Calls Try.prog 24 #[.slice A l.length c, .int .i64 a, .int .i64 day] w fun e w' => e = .returned (.tuple #[.int .i64 n, .int .i64 er]) ∧ Below w.heap.size w w' := by
  have := lbalance_any l A c a day w hs hl
  rw [h] at this
  exact this
theorem kind_lit {l : List Entry} {k day n er : Int} (h : kindR l k day = (n, er)) (A : Option Addr) (c : Nat) (w : World) (hs : SlEnt w A l) (hl : l.length ≤ 140737488355328) :
    Calls Try.prog 23 #[.slice A l.length c, .int .i64 k, .int .i64 day] w fun e w' => e = .returned (.tuple #[.int .i64 n, .int .i64 er]) ∧ Below w.heap.size w w' := by
  have := lkind_any l A c k day w hs hl
  rw [h] at this
  exact this
def hE1 : Entry := ⟨3, 105, 302, 8000, 7⟩
def hE2 : Entry := ⟨4, 900, 105, 5000, 7⟩
def hE3 : Entry := ⟨3, 105, 302, 8000, 0⟩
def hU1 : Entry := ⟨6, 302, 105, 8000, 7⟩
def hU2 : Entry := ⟨6, 105, 900, 5000, 7⟩
def hZ : Entry := ⟨0, 0, 0, 0, 0⟩
theorem h28_1 : postR [] hE1 = ([hE1], 0) := by decide +kernel
theorem h28_2 : postR [hE1] hE2 = ([hE1, hE2], 0) := by decide +kernel
theorem h28_3 : balR [hE1, hE2] 105 3 = (8000, 0) := by decide +kernel
theorem h28_4 : balR [hE1, hE2] 105 4 = (3000, 0) := by decide +kernel
theorem h28_5 : kindR [hE1, hE2] 3 366 = (-8000, 0) := by decide +kernel
theorem h28_6 : undoR [hE1, hE2] 7 6 = ([hE1, hE2, hU1, hU2], 0) := by decide +kernel
theorem h28_7 : balR [hE1, hE2, hU1, hU2] 105 6 = (0, 0) := by decide +kernel
theorem h28_8 : undoR [hE1, hE2, hU1, hU2] 7 6 = ([], 4) := by decide +kernel
theorem h28_9 : postR [hE1, hE2] hE3 = ([], 6) := by decide +kernel
theorem h28_10 : ledOk [hE1, hE2, hU1, hU2] = true := by decide +kernel
theorem h28_11 : ledOk [hZ] = false := by decide +kernel
def undoneCells : Array Value := #[.int .i64 6, .int .i64 302, .int .i64 105, .int .i64 8000, .int .i64 7, .int .i64 6, .int .i64 105, .int .i64 900, .int .i64 5000, .int .i64 7]
theorem undoneSl (W : World) : SlEnt (W.alloc (.cells undoneCells 46)) (some ⟨W.heap.size, 0, none⟩) [hU1, hU2] :=
  sl_of_box (cs := undoneCells) (fun _ => rfl) (fun o => World.cell?_alloc_new W undoneCells 46 o) (by simp) rfl
theorem zeroSl (W : World) : SlEnt (W.alloc (.cells #[.int .i64 0, .int .i64 0, .int .i64 0, .int .i64 0, .int .i64 0] 46)) (some ⟨W.heap.size, 0, none⟩) [hZ] :=
  sl_of_box (cs := #[.int .i64 0, .int .i64 0, .int .i64 0, .int .i64 0, .int .i64 0]) (fun _ => rfl) (fun o => World.cell?_alloc_new W _ 46 o) (by simp) rfl

section
open Go.ChangeShapes Go.WideShapes Go.ChangeAt Go.Deep
theorem dec_ent (cs : List Value) (h : cs.length = 5) (hc : ∀ (i : Nat) (c : Value), cs[i]? = some c → isI64 c) : ∃ t : Entry, cs = t.cs := by
  match cs, h with
  | [a, b, c, d, e], _ =>
    obtain ⟨a, rfl, _⟩ := hc 0 _ rfl
    obtain ⟨b, rfl, _⟩ := hc 1 _ rfl
    obtain ⟨c, rfl, _⟩ := hc 2 _ rfl
    obtain ⟨d, rfl, _⟩ := hc 3 _ rfl
    obtain ⟨e, rfl, _⟩ := hc 4 _ rfl
    exact ⟨⟨a, b, c, d, e⟩, rfl⟩
variable {H : Type} {enc : TypeId × Value → H} {w : World} {r : Reach} {b0 : Nat} {v : Value} {d : DataW H} {p : List MemPlace}
theorem arg_ent (hv : Value.okWide Try.prog w r b0 46 v) (h : DataW.Trod enc Try.prog w 0 (fun _ => true) true 46 v d p) : ∃ t : Entry, v = t.v := by
  obtain ⟨cs, rfl, hsz, hc⟩ := open_ints (n := 4) Try.underlying46 (by kernel_rfl) hv h
  obtain ⟨l⟩ := cs
  obtain ⟨t, ht⟩ := dec_ent l (hsz.trans (by kernel_rfl)) (fun i c hi => hc i c (by simpa using hi))
  exact ⟨t, by rw [ht]; rfl⟩
theorem arg_ents (hv : Value.okWide Try.prog w r b0 31 v) (h : DataW.Trod enc Try.prog w 0 (fun _ => true) true 31 v d p) : ∃ (A : Option Addr) (l : List Entry) (c : Nat), v = .slice A l.length c ∧ SlEnt w A l ∧ l.length ≤ maxLen :=
  open_slice_ints (n := 4) (size := 5) (code := Entry.cs) Try.underlying31 (by kernel_rfl) (by kernel_rfl) (by decide) dec_ent hv h
end
end Go.Proofs.Ytmlhoojcdidgkaa

/-
  The law 'LedgerMatchesReference': the walk.
-/
namespace Go.Proofs.Ytmlhoojcdidgkaa
set_option linter.unusedSimpArgs false
set_option linter.unusedVariables false
open Go.RowKit
open Go.Sort (grow size_grow)

set_option maxHeartbeats 4000000
set_option maxRecDepth 100000

theorem postR_len (l : List Entry) (x : Entry) : (postR l x).1.length ≤ l.length + 1 := by
  rcases postR_cases l x with ⟨_, h⟩ | ⟨_, _, _, h⟩ | ⟨_, _, _, _, h⟩ | ⟨_, _, _, _, h⟩ <;> rw [h] <;> simp
theorem undoR_len (l : List Entry) (ref day : Int) : (undoR l ref day).1.length ≤ l.length + l.length := by
  have := openE_le l ref
  rcases undoR_cases l ref day with ⟨_, h⟩ | ⟨_, _, _, ⟨_, h⟩ | ⟨_, _, h⟩ | ⟨_, _, _, h⟩ | ⟨_, _, _, h⟩⟩ <;> rw [h] <;> simp
  omega
end Go.Proofs.Ytmlhoojcdidgkaa

/-
  The law 'LedgerZero': the walk.
-/
namespace Go.Proofs.Ytmlhoojcdidgkaa
set_option linter.unusedSimpArgs false
set_option linter.unusedVariables false
open Go.RowKit
open Go.Sort (grow size_grow)

set_option maxHeartbeats 4000000
set_option maxRecDepth 100000

theorem bal_split {p q r : Int → Bool} (h : ∀ a, p a = (q a || r a)) (hd : ∀ a, (q a && r a) = false) (l : List Entry) (day : Int) : bal p l day = bal q l day + bal r l day := by
  unfold bal mvs
  generalize upto l day = es
  induction es with
  | nil => rfl
  | cons e es ih =>
    rw [List.map_cons, List.map_cons, List.map_cons, List.sum_cons, List.sum_cons, List.sum_cons, ih]
    have h1 : mv p e = mv q e + mv r e := by
      unfold mv
      rw [h e.debit, h e.credit]
      have d1 := hd e.debit
      have d2 := hd e.credit
      cases hq1 : q e.debit <;> cases hr1 : r e.debit <;> cases hq2 : q e.credit <;> cases hr2 : r e.credit <;> simp [hq1, hr1, hq2, hr2] at d1 d2 ⊢ <;> omega
    rw [h1]
    omega
theorem bal_none {p : Int → Bool} (h : ∀ a, p a = false) (l : List Entry) (day : Int) : bal p l day = 0 := by
  unfold bal mvs
  generalize upto l day = es
  induction es with
  | nil => rfl
  | cons e es ih =>
    rw [List.map_cons, List.sum_cons, ih]
    unfold mv
    rw [h, h]
    simp
theorem bal_all {p : Int → Bool} (h : ∀ a, 100 ≤ a → a ≤ 999 → p a = true) {l : List Entry} (hl : ∀ e ∈ l, e.ok = true) (day : Int) : bal p l day = 0 := by
  have hu : ∀ e ∈ upto l day, e.ok = true := fun e he => hl e (upto_mem he)
  unfold bal mvs
  generalize upto l day = es at *
  induction es with
  | nil => rfl
  | cons e es ih =>
    rw [List.map_cons, List.sum_cons, ih (fun x hx => hu x (by simp [hx]))]
    obtain ⟨_, h1, h2, _⟩ := Entry.ok_iff.1 (hu e (by simp))
    unfold mv
    rw [h _ h1.1 h1.2, h _ h2.1 h2.2]
    simp
theorem bal_next {lo hi mid : Int} (h1 : lo ≤ mid + 1) (h2 : mid ≤ hi) (l : List Entry) (day : Int) : bal (fun a => inB a lo hi) l day = bal (fun a => inB a lo mid) l day + bal (fun a => inB a (mid + 1) hi) l day := by
  refine bal_split (fun a => ?_) (fun a => ?_) l day
  · rw [Bool.eq_iff_iff, Bool.or_eq_true, inB_iff, inB_iff, inB_iff]; omega
  · rw [Bool.and_eq_false_iff]
    by_cases ha : a ≤ mid
    · exact .inr (inB_f (by omega))
    · exact .inl (inB_f (by omega))
theorem kindR_ok {l : List Entry} {k day : Int} (h : ledOk l = true) (hk : 1 ≤ k ∧ k ≤ 9) (hd : 0 ≤ day ∧ day ≤ 366) : kindR l k day = (bal (ofKind k) l day, 0) := by
  rcases kindR_cases l k day with ⟨h1, _⟩ | ⟨_, _, _, h1⟩
  · rw [h, inB_t hk.1 hk.2, inB_t hd.1 hd.2] at h1; simp at h1
  · exact h1
theorem balR_ok {l : List Entry} {a day : Int} (h : ledOk l = true) (hk : 100 ≤ a ∧ a ≤ 999) (hd : 0 ≤ day ∧ day ≤ 366) : balR l a day = (bal (fun x => x == a) l day, 0) := by
  rcases balR_cases l a day with ⟨h1, _⟩ | ⟨_, _, _, h1⟩
  · rw [h, inB_t hk.1 hk.2, inB_t hd.1 hd.2] at h1; simp at h1
  · exact h1

end Go.Proofs.Ytmlhoojcdidgkaa

/-
  The law 'LedgerPosts': the walk.
-/
namespace Go.Proofs.Ytmlhoojcdidgkaa
set_option linter.unusedSimpArgs false
set_option linter.unusedVariables false
open Go.RowKit
open Go.Sort (grow size_grow)

set_option maxHeartbeats 4000000
set_option maxRecDepth 100000
theorem begun_false {l : List Entry} {day : Int} (h : begun l day = false) (hr : Rises l) : ∀ e ∈ l, e.day ≤ day := by
  intro e he
  obtain ⟨j, hj, rfl⟩ := List.getElem_of_mem he
  rw [begun_at (by omega), decide_eq_false_iff_not] at h
  have h1 : l[j].day ≤ l[l.length - 1].day := by
    rcases Nat.lt_or_ge j (l.length - 1) with h2 | h2
    · exact (List.pairwise_iff_getElem.1 hr) j (l.length - 1) hj (by omega) h2
    · have : j = l.length - 1 := by omega
      subst this
      exact Int.le_refl _
  omega
theorem ledOk_snoc {l : List Entry} {x : Entry} (h : ledOk l = true) (hx : x.ok = true) (hb : begun l x.day = false) (hl : l.length < 5000) : ledOk (l ++ [x]) = true := by
  obtain ⟨h1, h2, h3⟩ := ledOk_iff.1 h
  refine ledOk_iff.2 ⟨by simp; omega, fun e he => ?_, ?_⟩
  · rcases List.mem_append.1 he with he | he
    · exact h2 e he
    · simp at he
      subst he
      exact hx
  · unfold Rises
    rw [List.pairwise_append]
    refine ⟨h3, by simp, fun a ha b hb' => ?_⟩
    simp at hb'
    subst hb'
    exact begun_false hb h3 a ha
theorem bal_one (p : Int → Bool) (l : List Entry) (x : Entry) (d : Int) : bal p (l ++ [x]) d = bal p l d + if x.day ≤ d then mv p x else 0 := by
  rw [bal_append]
  congr 1
  unfold bal upto mvs
  by_cases hd : x.day ≤ d
  · rw [List.filter_cons, if_pos (by simpa using hd), if_pos hd]; simp
  · rw [List.filter_cons, if_neg (by simpa using hd), if_neg hd]; simp
end Go.Proofs.Ytmlhoojcdidgkaa

/-
  The law 'LedgerDays': the walk.
-/
namespace Go.Proofs.Ytmlhoojcdidgkaa
set_option linter.unusedSimpArgs false
set_option linter.unusedVariables false
open Go.RowKit
open Go.Sort (grow size_grow)

set_option maxHeartbeats 4000000
set_option maxRecDepth 100000
theorem ledOk_sub {l m : List Entry} (h : ledOk l = true) (hm : m.Sublist l) : ledOk m = true := by
  obtain ⟨h1, h2, h3⟩ := ledOk_iff.1 h
  have := hm.length_le
  exact ledOk_iff.2 ⟨by omega, fun e he => h2 e (hm.subset he), h3.sublist hm⟩
theorem upto_sub (l : List Entry) (d : Int) : (upto l d).Sublist l := List.filter_sublist
theorem bal_upto {p : Int → Bool} {l : List Entry} {d : Int} (h : ledOk l = true) : bal p (upto l d) 366 = bal p l d := by
  unfold bal
  congr 1
  unfold upto
  rw [List.filter_filter]
  refine List.filter_congr fun e he => ?_
  have := (Entry.ok_iff.1 ((ledOk_iff.1 h).2.1 e he)).1
  have h2 : decide (e.day ≤ 366) = true := by simpa using this.2
  rw [h2, Bool.true_and]
theorem upto_step {l : List Entry} {d : Int} {j : Nat} (h : j < l.length) : upto (l.take (j + 1)) d = if l[j].day ≤ d then upto (l.take j) d ++ [l[j]] else upto (l.take j) d := by
  unfold upto
  rw [List.take_succ_eq_append_getElem h, List.filter_append]
  by_cases hd : l[j].day ≤ d
  · rw [if_pos hd]; simp [hd]
  · rw [if_neg hd]; simp [hd]
open Go.ChangeShapes Go.WideShapes Go.ChangeAt Go.Deep in
theorem slice_room {H : Type} {enc : TypeId × Value → H} {P : Program} {w : World} {spare : Nat → Bool} {held : Bool} {r : Reach} {b0 : Nat} {t e : TypeId} {v : Value} {d : DataW H} {p : List MemPlace} (hs : P.underlying t = some (.slice e)) (hv : Value.okWide P w r b0 t v) (h : DataW.Trod enc P w 0 spare held t v d p) :
    ∀ (A : Option Addr) (n c : Nat), v = .slice A n c → n ≤ c ∧ (A = none → c = 0) := by
  obtain ⟨a, len, cap, rfl⟩ := okWide_slice hs hv
  obtain ⟨fuel, hf⟩ := h
  intro A n c hA
  injection hA with e1 e2 e3
  subst e1 e2 e3
  rcases open_slice hs hf with ⟨h1, _⟩ | ⟨a', len', cap', m, n', D, Pl, h1, _, hlc, hcm, hm, _, hel⟩
  · simp [Value.cells] at h1
    obtain ⟨rfl, rfl, rfl⟩ := h1
    exact ⟨Nat.le_refl _, fun _ => rfl⟩
  · simp [Value.cells] at h1
    obtain ⟨rfl, rfl, rfl⟩ := h1
    exact ⟨hlc, fun h => by cases h⟩
theorem Sl.nil_' {α : Type} {w : World} {B size : Nat} {enc : α → List Value} {A : Option Addr} : Sl w B size enc A ([] : List α) := fun h => absurd rfl h
end Go.Proofs.Ytmlhoojcdidgkaa

/-
  What an undoing leaves, in plain Lean: no open entry; the balances of the entries of other refs.
-/
namespace Go.Proofs.Ytmlhoojcdidgkaa
set_option linter.unusedSimpArgs false
set_option linter.unusedVariables false
theorem mv_undone (p : Int → Bool) (day : Int) (e : Entry) : mv p (undone day e) = -mv p e := by
  show (if p e.credit then e.cents else 0) - (if p e.debit then e.cents else 0) = -((if p e.debit then e.cents else 0) - (if p e.credit then e.cents else 0))
  omega
theorem mvs_undone (p : Int → Bool) (day : Int) : ∀ l : List Entry, mvs p (l.map (undone day)) = -mvs p l
  | [] => rfl
  | e :: l => by rw [List.map_cons, mvs_cons, mvs_cons, mv_undone, mvs_undone p day l]; omega
theorem mv_against (p : Int → Bool) {e x : Entry} (h : against e x = true) : mv p x = -mv p e := by
  unfold against at h
  rw [decide_eq_true_eq] at h
  unfold mv
  rw [h.1, h.2.1, h.2.2.1]
  omega
theorem erase_perm {α : Type} : ∀ (l : List α) (i : Nat) (h : i < l.length), (l[i] :: l.eraseIdx i).Perm l
  | a :: l, 0, _ => List.Perm.refl _
  | a :: l, i + 1, h => by
    have h1 : i < l.length := by simpa using h
    exact (List.Perm.swap a l[i] (l.eraseIdx i)).trans ((erase_perm l i h1).cons a)
theorem mvs_erase (p : Int → Bool) : ∀ (l : List Entry) (i : Nat) (h : i < l.length), mvs p (l.eraseIdx i) = mvs p l - mv p l[i]
  | a :: l, 0, _ => by
    show mvs p l = mvs p (a :: l) - mv p a
    rw [mvs_cons]
    omega
  | a :: l, i + 1, h => by
    have h1 : i < l.length := by simpa using h
    show mvs p (a :: l.eraseIdx i) = mvs p (a :: l) - mv p l[i]
    rw [mvs_cons, mvs_cons, mvs_erase p l i h1]
    omega
theorem mvs_step (p : Int → Bool) (ref : Int) (out : List Entry) (e : Entry) : mvs p (openStep ref out e) = mvs p out + (if e.ref = ref then mv p e else 0) := by
  by_cases h : e.ref = ref
  · rw [if_pos h]
    cases hi : lastIx (against e) out with
    | none =>
      rw [openStep_none h hi, mvs_append, mvs_cons, mvs_nil]
      omega
    | some i =>
      obtain ⟨hlt, hag, _⟩ := lastIx_some hi
      rw [openStep_some h hi, mvs_erase p out i hlt, mv_against p hag]
      omega
  · rw [if_neg h, openStep_other h]
    omega
theorem mvs_fold (p : Int → Bool) (ref : Int) : ∀ (l out : List Entry), mvs p (l.foldl (openStep ref) out) = mvs p out + mvs p (l.filter fun e => decide (e.ref = ref))
  | [], out => by simp [mvs_nil]
  | e :: l, out => by
    rw [List.foldl_cons, mvs_fold p ref l, mvs_step, List.filter_cons]
    by_cases h : e.ref = ref
    · simp [h, mvs_cons]; omega
    · simp [h]
def key (e : Entry) : Int × Int × Int := (e.debit, e.credit, e.cents)
theorem undo_clears (ref day : Int) : ∀ (rem out : List Entry), (out.map key).Perm (rem.map key) → (∀ x ∈ out, x.ref = ref) → (∀ x ∈ rem, x.ref = ref) → (rem.map (undone day)).foldl (openStep ref) out = []
  | [], out, h, _, _ => by
    have : out.map key = [] := List.Perm.eq_nil h
    simpa using this
  | e :: r, out, h, ho, hr => by
    rw [List.map_cons, List.foldl_cons]
    have hk : key e ∈ out.map key := h.mem_iff.2 (by simp)
    obtain ⟨x, hx, hxe⟩ := List.mem_map.1 hk
    have her := hr e (by simp)
    have hag : ∀ y, y ∈ out → (against (undone day e) y = true ↔ key y = key e) := by
      intro y hy
      have hyr := ho y hy
      unfold against undone key
      rw [decide_eq_true_eq, Prod.mk.injEq, Prod.mk.injEq]
      constructor
      · rintro ⟨a, b, c, _⟩; exact ⟨b, a, c⟩
      · rintro ⟨a, b, c⟩; exact ⟨b, a, c, hyr.trans her.symm⟩
    have hst : ∃ j, ∃ hj : j < out.length, openStep ref out (undone day e) = out.eraseIdx j ∧ key out[j] = key e := by
      have h1 : (undone day e).ref = ref := her
      cases hl : lastIx (against (undone day e)) out with
      | none =>
        have := lastIx_none_iff.1 hl x hx
        rw [(hag x hx).2 hxe] at this
        cases this
      | some j =>
        obtain ⟨hj, ha, _⟩ := lastIx_some hl
        exact ⟨j, hj, openStep_some h1 hl, (hag _ (List.getElem_mem hj)).1 ha⟩
    obtain ⟨j, hj, he, hkj⟩ := hst
    rw [he]
    refine undo_clears ref day r _ ?_ (fun y hy => ho y (List.mem_of_mem_eraseIdx hy)) (fun y hy => hr y (by simp [hy]))
    have h2 := ((erase_perm out j hj).map key).trans h
    rw [List.map_cons, List.map_cons, hkj] at h2
    exact h2.cons_inv
theorem openE_undone (l : List Entry) (ref day : Int) : openE (l ++ (openE l ref).map (undone day)) ref = [] := by
  unfold openE
  rw [List.foldl_append]
  exact undo_clears ref day _ _ (List.Perm.refl _) (openE_ref l ref) (openE_ref l ref)
theorem upto_le {l : List Entry} {day : Int} (h : ∀ e ∈ l, e.day ≤ day) : upto l day = l := by
  unfold upto
  exact List.filter_eq_self.2 (fun e he => by simpa using h e he)
theorem bal_undone (p : Int → Bool) {l : List Entry} {ref day : Int} (h : ∀ e ∈ l, e.day ≤ day) :
    bal p (l ++ (openE l ref).map (undone day)) day = bal p (l.filter fun e => decide (e.ref ≠ ref)) day := by
  have h1 : ∀ e ∈ (openE l ref).map (undone day), e.day ≤ day := by
    intro e he
    obtain ⟨x, _, rfl⟩ := List.mem_map.1 he
    exact Int.le_refl _
  unfold bal
  rw [upto_append, upto_le h, upto_le h1, upto_le (fun e he => h e (List.mem_filter.1 he).1), mvs_append, mvs_undone]
  have h2 := mvs_fold p ref l []
  have h3 : mvs p l = mvs p (l.filter fun e => decide (e.ref = ref)) + mvs p (l.filter fun e => decide (e.ref ≠ ref)) := by
    clear h h1 h2
    induction l with
    | nil => rfl
    | cons e l ih =>
      rw [List.filter_cons, List.filter_cons, mvs_cons, ih]
      by_cases he : e.ref = ref <;> simp [he, mvs_cons] <;> omega
  unfold openE
  rw [mvs_nil] at h2
  omega
theorem begun_days {l : List Entry} {day : Int} (h : begun l day = false) (hr : Rises l) : ∀ e ∈ l, e.day ≤ day := by
  intro e he
  obtain ⟨j, hj, rfl⟩ := List.getElem_of_mem he
  rw [begun_at (by omega), decide_eq_false_iff_not] at h
  have h1 : l[j].day ≤ l[l.length - 1].day := by
    rcases Nat.lt_or_ge j (l.length - 1) with h2 | h2
    · exact (List.pairwise_iff_getElem.1 hr) j (l.length - 1) hj (by omega) h2
    · have : j = l.length - 1 := by omega
      subst this
      exact Int.le_refl _
  omega
theorem fold_mem {ref : Int} : ∀ (l out : List Entry), ∀ x ∈ l.foldl (openStep ref) out, x ∈ out ∨ x ∈ l
  | [], out, x, h => .inl h
  | e :: l, out, x, h => by
    rw [List.foldl_cons] at h
    rcases fold_mem l _ x h with h | h
    · unfold openStep at h
      split at h
      · exact .inl h
      · split at h
        · exact .inl (List.mem_of_mem_eraseIdx h)
        · rcases List.mem_append.1 h with h | h
          · exact .inl h
          · exact .inr (by simp at h; simp [h])
    · exact .inr (by simp [h])
theorem openE_mem {l : List Entry} {ref : Int} {x : Entry} (h : x ∈ openE l ref) : x ∈ l := by
  rcases fold_mem l [] x h with h | h
  · cases h
  · exact h
/-- What an undoing that went through leaves. -/
theorem undo_done {l : List Entry} {ref day : Int} (hk : ledOk l = true) (hr : inB ref 1 1000000 = true) (hd : inB day 0 366 = true) (hb : begun l day = false) (ho : openE l ref ≠ []) (hlen : l.length + (openE l ref).length ≤ 5000) :
    let m := l ++ (openE l ref).map (undone day)
    ledOk m = true ∧ undoR m ref day = ([], 4) ∧ (∀ e ∈ l, e.day ≤ day) ∧ (∀ p, bal p m day = bal p (l.filter fun e => decide (e.ref ≠ ref)) day) ∧ (∀ x ∈ (openE l ref).map (undone day), x.ref = ref ∧ x.day = day) := by
  intro m
  obtain ⟨h1, h2, h3⟩ := ledOk_iff.1 hk
  have hdays := begun_days hb h3
  have hnew : ∀ x ∈ (openE l ref).map (undone day), x.ref = ref ∧ x.day = day := by
    intro x hx
    obtain ⟨y, hy, rfl⟩ := List.mem_map.1 hx
    exact ⟨openE_ref l ref y hy, rfl⟩
  have hm : ledOk m = true := by
    refine ledOk_iff.2 ⟨by simp [m]; omega, fun e he => ?_, ?_⟩
    · rcases List.mem_append.1 he with he | he
      · exact h2 e he
      · obtain ⟨y, hy, rfl⟩ := List.mem_map.1 he
        obtain ⟨_, y2, y3, y4, y5, y6⟩ := Entry.ok_iff.1 (h2 y (openE_mem hy))
        exact Entry.ok_iff.2 ⟨inB_iff.1 hd, y3, y2, fun e => y4 e.symm, y5, y6⟩
    · unfold Rises
      refine List.pairwise_append.2 ⟨h3, ?_, fun a ha b hb' => ?_⟩
      · refine List.pairwise_iff_getElem.2 fun i j hi hj _ => ?_
        rw [(hnew _ (List.getElem_mem hi)).2, (hnew _ (List.getElem_mem hj)).2]
        exact Int.le_refl _
      · rw [(hnew b hb').2]
        exact hdays a ha
  have hlast : begun m day = false := by
    have hpos : 0 < m.length := by
      have : 0 < (openE l ref).length := List.length_pos_iff.2 ho
      simp [m]; omega
    rw [begun_at hpos, decide_eq_false_iff_not]
    have : m[m.length - 1] ∈ m := List.getElem_mem _
    rcases List.mem_append.1 this with h | h
    · have := hdays _ h; omega
    · have := (hnew _ h).2; omega
  refine ⟨hm, ?_, hdays, fun p => bal_undone p hdays, hnew⟩
  unfold undoR
  rw [hm, hr, hd, hlast, openE_undone]
  rfl
end Go.Proofs.Ytmlhoojcdidgkaa

/-
  The law 'LedgerUndoes': the walk.
-/
namespace Go.Proofs.Ytmlhoojcdidgkaa
set_option linter.unusedSimpArgs false
set_option linter.unusedVariables false
open Go.RowKit
open Go.Sort (grow size_grow)

set_option maxHeartbeats 4000000
set_option maxRecDepth 100000
def others (ref : Int) (l : List Entry) : List Entry := l.filter fun e => decide (e.ref ≠ ref)
theorem others_step {l : List Entry} {ref : Int} {j : Nat} (h : j < l.length) : others ref (l.take (j + 1)) = if l[j].ref = ref then others ref (l.take j) else others ref (l.take j) ++ [l[j]] := by
  unfold others
  rw [List.take_succ_eq_append_getElem h, List.filter_append]
  by_cases hd : l[j].ref = ref
  · rw [if_pos hd]; simp [hd]
  · rw [if_neg hd]; simp [hd]
end Go.Proofs.Ytmlhoojcdidgkaa

/-
  A deposit that is posted and settled, in plain Lean.
-/
namespace Go.Proofs.Ytmlhoojcdidgkaa
set_option linter.unusedSimpArgs false
set_option linter.unusedVariables false
theorem upto_day {ys : List Entry} {d : Int} (h : ∀ e ∈ ys, e.day = d) : upto ys d = ys := upto_le fun e he => Int.le_of_eq (h e he)
theorem bal_more (p : Int → Bool) {l ys : List Entry} {d : Int} (h : ∀ e ∈ ys, e.day = d) : bal p (l ++ ys) d = bal p l d + mvs p ys := by
  rw [bal_append]
  congr 1
  unfold bal
  rw [upto_day h]
theorem begun_more {l ys : List Entry} {d : Int} (hb : begun l d = false) (h : ∀ e ∈ ys, e.day = d) : begun (l ++ ys) d = false := by
  rcases List.eq_nil_or_concat ys with rfl | ⟨zs, z, rfl⟩
  · rw [List.append_nil]; exact hb
  · unfold begun
    have h1 : (l ++ zs.concat z).getLast? = some z := by simp
    rw [h1]
    have := h z (by simp)
    simp [this]
theorem ledOk_more {l ys : List Entry} {d : Int} (hk : ledOk l = true) (hb : begun l d = false) (h : ∀ e ∈ ys, e.day = d) (ho : ∀ e ∈ ys, e.ok = true) (hl : l.length + ys.length ≤ 5000) : ledOk (l ++ ys) = true := by
  obtain ⟨h1, h2, h3⟩ := ledOk_iff.1 hk
  have hdays := begun_days hb h3
  refine ledOk_iff.2 ⟨by rw [List.length_append]; exact hl, fun e he => ?_, ?_⟩
  · rcases List.mem_append.1 he with he | he
    · exact h2 e he
    · exact ho e he
  · unfold Rises
    refine List.pairwise_append.2 ⟨h3, ?_, fun a ha b hb' => ?_⟩
    · refine List.pairwise_iff_getElem.2 fun i j hi hj _ => ?_
      rw [h _ (List.getElem_mem hi), h _ (List.getElem_mem hj)]
      exact Int.le_refl _
    · rw [h b hb']
      exact hdays a ha
theorem postR_ok {l : List Entry} {x : Entry} (hk : ledOk l = true) (hx : x.ok = true) (hb : begun l x.day = false) (hl : l.length < 5000) : postR l x = (l ++ [x], 0) := by
  rcases postR_cases l x with ⟨h1, _⟩ | ⟨_, _, h3, _⟩ | ⟨_, _, _, h4, _⟩ | ⟨_, _, _, _, hr⟩
  · rw [hk, hx] at h1; simp at h1
  · rw [hb] at h3; cases h3
  · omega
  · exact hr
theorem postR_state {l : List Entry} {x : Entry} (hk : ledOk l = true) (hx : x.ok = true) (hb : begun l x.day = true) : postR l x = ([], 6) := by
  rcases postR_cases l x with ⟨h1, _⟩ | ⟨_, _, _, hr⟩ | ⟨_, _, h3, _⟩ | ⟨_, _, h3, _⟩
  · rw [hk, hx] at h1; simp at h1
  · exact hr
  · rw [hb] at h3; cases h3
  · rw [hb] at h3; cases h3
/-- The entry that posts a deposit, and all that settles it. -/
def paidE (b : Bill) (paid d : Int) : Entry := ⟨d, 900, 500 + b.stay % 100, paid, b.stay⟩
theorem entriesL_mem {b : Bill} {x y d : Int} {e : Entry} (h : e ∈ entriesL b x y d) : (0 < y ∧ e = keptE b y d) ∨ (0 < x ∧ e = backE b x d) := by
  unfold entriesL at h
  rcases List.mem_append.1 h with h | h
  · split at h
    · exact .inl ⟨by assumption, by simpa using h⟩
    · cases h
  · split at h
    · exact .inr ⟨by assumption, by simpa using h⟩
    · cases h
theorem entriesL_len (b : Bill) (x y d : Int) : (entriesL b x y d).length ≤ 2 := by
  unfold entriesL
  split <;> split <;> simp
theorem entriesL_pos {b : Bill} {x y d : Int} (h : 0 < x ∨ 0 < y) : 0 < (entriesL b x y d).length := by
  unfold entriesL
  split <;> split <;> simp <;> omega
theorem sets_all {b : Bill} {paid d : Int} (hb : b.ok = true) (hp : 1 ≤ paid) (ha : amt paid = true) (hd0 : 0 ≤ d) (hd1 : d ≤ 366) :
    ∀ e ∈ paidE b paid d :: entriesL b (paid - min paid b.keep) (min paid b.keep) d, e.day = d ∧ e.ok = true ∧ e.ref = b.stay := by
  obtain ⟨_, _, _, ⟨s0, s1⟩, _, ⟨p0, p1⟩, ⟨r0, r1⟩, k0, k1⟩ := Bill.ok_iff.1 hb
  have ga := inB_iff.1 ha
  intro e he
  rcases List.mem_cons.1 he with rfl | he
  · refine ⟨rfl, Entry.ok_iff.2 ?_, rfl⟩
    simp only [paidE]
    omega
  · rcases entriesL_mem he with ⟨h, rfl⟩ | ⟨h, rfl⟩
    · refine ⟨rfl, Entry.ok_iff.2 ?_, rfl⟩
      simp only [keptE]
      omega
    · refine ⟨rfl, Entry.ok_iff.2 ?_, rfl⟩
      simp only [backE]
      omega
theorem sets_moves {b : Bill} {paid d : Int} (hb : b.ok = true) (hp : 1 ≤ paid) (z : Int) (n : Int) (hz : (z = 500 + b.stay % 100 ∧ n = 0) ∨ (z = 900 ∧ n = min paid b.keep) ∨ (z = 300 + b.place ∧ n = -min paid b.keep)) :
    mvs (fun a => a == z) (paidE b paid d :: entriesL b (paid - min paid b.keep) (min paid b.keep) d) = n := by
  obtain ⟨_, _, _, ⟨s0, s1⟩, _, ⟨p0, p1⟩, ⟨r0, r1⟩, k0, k1⟩ := Bill.ok_iff.1 hb
  obtain ⟨st, hst⟩ : ∃ st, b.stay % 100 = st := ⟨_, rfl⟩
  have hs2 : 0 ≤ st ∧ st ≤ 99 := by omega
  unfold entriesL
  rw [mvs_cons, mvs_append]
  have e1 : ∀ (c : Prop) [Decidable c] (e : Entry), mvs (fun a => a == z) (if c then [e] else []) = if c then mv (fun a => a == z) e else 0 := by
    intro c _ e
    split
    · rw [mvs_cons, mvs_nil]; omega
    · rfl
  rw [e1, e1]
  simp only [mv, paidE, keptE, backE, hst, beq_iff_eq]
  rcases hz with ⟨rfl, rfl⟩ | ⟨rfl, rfl⟩ | ⟨rfl, rfl⟩
  all_goals
    repeat' split
    all_goals omega
theorem sets_undone {l ys : List Entry} {d ref : Int} (hk : ledOk (l ++ ys) = true) (hb : begun (l ++ ys) d = false) (hl : (l ++ ys).length ≤ 60) (hr : ∀ e ∈ ys, e.ref = ref) (h1 : inB ref 1 1000000 = true) (h2 : inB d 0 366 = true) :
    (undoR (l ++ ys) ref d = ([], 4) ∧ ∀ p, bal p (l ++ ys) d = bal p (others ref l) d) ∨
      ∃ m, undoR (l ++ ys) ref d = (m, 0) ∧ ledOk m = true ∧ ∀ p, bal p m d = bal p (others ref l) d := by
  have hf : (l ++ ys).filter (fun e => decide (e.ref ≠ ref)) = others ref l := by
    have h0 : ys.filter (fun e => decide (e.ref ≠ ref)) = [] := List.filter_eq_nil_iff.2 (fun e he => by simp [hr e he])
    rw [List.filter_append, h0, List.append_nil]
    rfl
  have hdays := begun_days hb (ledOk_iff.1 hk).2.2
  have hlen := openE_le (l ++ ys) ref
  rcases undoR_cases (l ++ ys) ref d with ⟨h, _⟩ | ⟨_, _, _, h⟩
  · rw [hk, h1, h2] at h; simp at h
  · rcases h with ⟨h, _⟩ | ⟨_, h, hu⟩ | ⟨_, _, h, _⟩ | ⟨_, h, h', hu⟩
    · rw [hb] at h; cases h
    · refine .inl ⟨hu, fun p => ?_⟩
      have := bal_undone p (ref := ref) hdays
      rw [h, hf] at this
      simpa using this
    · omega
    · obtain ⟨g1, _, _, g4, _⟩ := undo_done hk h1 h2 hb h h'
      refine .inr ⟨_, hu, g1, fun p => ?_⟩
      rw [g4 p, hf]
end Go.Proofs.Ytmlhoojcdidgkaa

/-
  Folio: deeds case by case, and what holds of a course (no Go in sight).
-/
namespace Go.Proofs.Ytmlhoojcdidgkaa
set_option linter.unusedSimpArgs false
set_option linter.unusedVariables false
set_option maxHeartbeats 1000000
def mvL (day frm tgt cents ref : Int) : List Entry := if 0 < cents then [⟨day, tgt, frm, cents, ref⟩] else []
theorem mvE_eq (day frm tgt cents ref : Int) (l : List Entry) : mvE day frm tgt cents ref l = l ++ mvL day frm tgt cents ref := by
  unfold mvE mvL
  split <;> simp
theorem mvL_mem {day frm tgt cents ref : Int} {e : Entry} (h : e ∈ mvL day frm tgt cents ref) : 0 < cents ∧ e = ⟨day, tgt, frm, cents, ref⟩ := by
  unfold mvL at h
  split at h
  · next h0 => exact ⟨h0, by simpa using h⟩
  · simp at h
theorem mvL_len (day frm tgt cents ref : Int) : (mvL day frm tgt cents ref).length ≤ 1 := by
  unfold mvL
  split <;> simp
theorem movedR_app (es fs : List Entry) (acc r : Int) : movedR (es ++ fs) acc r = movedR es acc r + movedR fs acc r := by
  unfold movedR
  rw [List.filter_append, mvs_append]
theorem movedR_nil (acc s : Int) : movedR [] acc s = 0 := rfl
theorem movedR_one (e : Entry) (acc s : Int) : movedR [e] acc s = if e.ref = s then (if e.debit = acc then e.cents else 0) - (if e.credit = acc then e.cents else 0) else 0 := by
  have := movedR_snoc [] e acc s
  rw [List.nil_append, movedR_nil, mv_acc] at this
  rw [this, Int.zero_add]
theorem movedR_mvL (day frm tgt cents ref acc s : Int) : movedR (mvL day frm tgt cents ref) acc s = if ref = s ∧ 0 < cents then (if tgt = acc then cents else 0) - (if frm = acc then cents else 0) else 0 := by
  unfold mvL
  by_cases h : 0 < cents
  · rw [if_pos h, movedR_one]
    simp only [h, and_true]
  · rw [if_neg h, movedR_nil, if_neg (by omega)]
theorem movedR_far {l : List Entry} {acc s : Int} (h : ∀ e ∈ l, e.ref ≠ s) : movedR l acc s = 0 := by
  unfold movedR
  have : l.filter (fun e => e.ref == s) = [] := by
    rw [List.filter_eq_nil_iff]
    intro e he
    simpa using h e he
  rw [this]
  rfl
/-- Sums as they are taken by the code and by the plain laws. -/
theorem sgn_mv {a : Int} {e : Entry} (h : e.debit ≠ e.credit) : sgn a e = mv (fun x => x == a) e := by
  rw [mv_acc]
  unfold sgn
  split <;> split <;> first | omega | (split <;> omega) | skip
theorem sumE_mvs {a : Int} {q : Entry → Bool} : ∀ {l : List Entry}, (∀ e ∈ l, e.ok = true) → sumE a q l = mvs (fun x => x == a) (l.filter q)
  | [], _ => rfl
  | e :: l, h => by
    have h1 := sumE_mvs (a := a) (q := q) (l := l) fun x hx => h x (by simp [hx])
    have h3 : sumE a q (e :: l) = (if q e = true then sgn a e else 0) + sumE a q l := by unfold sumE; simp
    have h4 := (Entry.ok_iff.1 (h e (by simp))).2.2.2.1
    rw [h3, h1, List.filter_cons]
    split
    · rw [mvs_cons, sgn_mv h4]
    · rw [Int.zero_add]
theorem sumE_ref {a s : Int} {l : List Entry} (h : ∀ e ∈ l, e.ok = true) : sumE a (fun e => e.ref == s) l = movedR l a s := sumE_mvs h
theorem sumE_congr {a : Int} {q r : Entry → Bool} {l : List Entry} (h : ∀ e ∈ l, q e = r e) : sumE a q l = sumE a r l := by
  unfold sumE
  congr 1
  refine List.map_congr_left fun e he => ?_
  rw [h e he]
/-! ### Deeds, case by case -/
inductive Deeds (V : Env) (es : List Entry) (a : Acc) (x : Deed) : List Entry → Acc → Prop
  | book (k : x.kind = 1) (s : a.st = 0) : Deeds V es a x [] { a with st := 1 }
  | pay (n c : Int) (k : x.kind = 2) (s : a.st = 1 ∨ a.st = 2) (d : a.b.direct = true) (h : comesR V.ts a.b = some (n, c)) (m : x.cents ≤ c - a.paid) : Deeds V es a x (mvL x.day (payerA a.b) 900 x.cents a.b.stay) { a with paid := a.paid + x.cents }
  | late (k : x.kind = 2) (s : a.st = 3) (m : x.cents ≤ sumE (payerA a.b) (ownE a.b) es) : Deeds V es a x (mvL x.day (payerA a.b) 900 x.cents a.b.stay) { a with paid := a.paid + x.cents }
  | gone (k : x.kind = 3) (s : a.st = 1) (d : a.b.direct = true) : Deeds V es a x (entriesR a.b a.paid x.day).1 { a with st := 4 }
  | keeps (k : x.kind = 3) (s : a.st = 1) (d : a.b.direct = false) : Deeds V es a x (mvL x.day (300 + a.b.place) (payerA a.b) a.b.keep a.b.stay) { a with st := 4 }
  | arrive (k : x.kind = 4) (s : a.st = 1) : Deeds V es a x [] { a with st := 2 }
  | leave (n c : Int) (k : x.kind = 5) (s : a.st = 2) (h : comesR V.ts a.b = some (n, c)) : Deeds V es a x (mvL x.day (300 + a.b.place) (payerA a.b) a.b.price a.b.stay ++ mvL x.day (400 + a.b.place) (payerA a.b) n a.b.stay ++ mvL x.day (300 + a.b.place) (700 + a.b.channel) (oneR V.p V.d a.b).1 a.b.stay) { a with st := 3 }
  | walk (k : x.kind = 6) (s : a.st = 1) (h : (payR V.k a.b.price).2 = 0) : Deeds V es a x (mvL x.day 900 (guestA a.b.stay) a.paid a.b.stay ++ mvL x.day 900 800 (payR V.k a.b.price).1 a.b.stay) { a with st := 5 }
  | back (k : x.kind = 7) (s : a.st = 1 ∨ a.st = 2 ∨ a.st = 3) (d : a.b.direct = true) (m : x.cents ≤ a.paid) : Deeds V es a x (mvL x.day 900 (guestA a.b.stay) x.cents a.b.stay) { a with paid := a.paid - x.cents }
  | voucher (n c : Int) (k : x.kind = 8) (s : a.st = 1 ∨ a.st = 2) (d : a.b.direct = true) (h : comesR V.ts a.b = some (n, c)) : Deeds V es a x (mvL x.day (guestA a.b.stay) 600 (min x.cents (c - a.paid)) a.b.stay) { a with paid := a.paid + min x.cents (c - a.paid) }
theorem stated_iff {a : Acc} {k : Int} : statedD a k = true ↔ a.st ∈ ruleS k ∧ ((k = 7 ∨ k = 8 ∨ (k = 2 ∧ a.st ≠ 3)) → a.b.direct = true) := by
  unfold statedD ruleD
  rw [Bool.and_eq_true, decide_eq_true_eq, Bool.not_eq_true']
  refine and_congr Iff.rfl ?_
  cases a.b.direct <;> simp [or_assoc, and_assoc]
theorem deed_of {V : Env} {es : List Entry} {a : Acc} {x : Deed} (k0 : 1 ≤ x.kind) (k1 : x.kind ≤ 8) (h1 : statedD a x.kind = true) {r : List Entry × Acc} (h2 : deedD V es a x = .ok r) : ∃ ys, r.1 = es ++ ys ∧ Deeds V es a x ys r.2 := by
  obtain ⟨g1, g2⟩ := stated_iff.1 h1
  have hk : x.kind = 1 ∨ x.kind = 2 ∨ x.kind = 3 ∨ x.kind = 4 ∨ x.kind = 5 ∨ x.kind = 6 ∨ x.kind = 7 ∨ x.kind = 8 := by omega
  unfold deedD at h2
  rcases hk with hk | hk | hk | hk | hk | hk | hk | hk
  all_goals rw [hk] at h2 g1 g2; simp only [ruleS, Int.reduceEq, if_true, if_false, List.mem_cons, List.not_mem_nil, or_false] at h2 g1
  · injection h2 with h2
    subst h2
    exact ⟨[], by simp, .book hk g1⟩
  · unfold payD mostR at h2
    by_cases h3 : a.st = 3
    · rw [if_pos h3] at h2
      simp only at h2
      split at h2
      · cases h2
      · injection h2 with h2
        subst h2
        exact ⟨_, mvE_eq _ _ _ _ _ _, .late hk h3 (by omega)⟩
    · rw [if_neg h3] at h2
      cases hc : comesR V.ts a.b with
      | none => rw [hc] at h2; cases h2
      | some q =>
        obtain ⟨n, c⟩ := q
        rw [hc] at h2
        simp only at h2
        split at h2
        · cases h2
        · injection h2 with h2
          subst h2
          exact ⟨_, mvE_eq _ _ _ _ _ _, .pay n c hk (by omega) (g2 (by omega)) hc (by omega)⟩
  · injection h2 with h2
    subst h2
    unfold cancelD
    cases hd : a.b.direct
    · exact ⟨_, by rw [if_neg (by simp)]; exact mvE_eq _ _ _ _ _ _, .keeps hk g1 hd⟩
    · exact ⟨_, by rw [if_pos rfl], .gone hk g1 hd⟩
  · injection h2 with h2
    subst h2
    exact ⟨[], by simp, .arrive hk g1⟩
  · unfold leaveD at h2
    cases hc : comesR V.ts a.b with
    | none => rw [hc] at h2; cases h2
    | some q =>
      obtain ⟨n, c⟩ := q
      rw [hc] at h2
      injection h2 with h2
      subst h2
      exact ⟨_, by simp only [mvE_eq, List.append_assoc], .leave n c hk g1 hc⟩
  · unfold walkD at h2
    split at h2
    · cases h2
    · injection h2 with h2
      subst h2
      exact ⟨_, by simp only [mvE_eq, List.append_assoc], .walk hk g1 (by omega)⟩
  · unfold backD at h2
    split at h2
    · cases h2
    · injection h2 with h2
      subst h2
      exact ⟨_, mvE_eq _ _ _ _ _ _, .back hk g1 (g2 (by omega)) (by omega)⟩
  · unfold voucherD at h2
    cases hc : comesR V.ts a.b with
    | none => rw [hc] at h2; cases h2
    | some q =>
      obtain ⟨n, c⟩ := q
      rw [hc] at h2
      injection h2 with h2
      subst h2
      exact ⟨_, mvE_eq _ _ _ _ _ _, .voucher n c hk g1 (g2 (by omega)) hc⟩
theorem Deeds.mk {V : Env} {es : List Entry} {a : Acc} {x : Deed} {ys : List Entry} {a' : Acc} (h : Deeds V es a x ys a') : statedD a x.kind = true ∧ deedD V es a x = .ok (es ++ ys, a') := by
  cases h
  case book k s => exact ⟨stated_iff.2 ⟨by simp [k, s, ruleS], by omega⟩, by unfold deedD; rw [if_pos k, List.append_nil]⟩
  case pay n c k s d h m =>
    refine ⟨stated_iff.2 ⟨by rcases s with s | s <;> simp [k, s, ruleS], fun _ => d⟩, ?_⟩
    unfold deedD payD mostR
    rw [if_neg (by omega), if_pos k, if_neg (by omega), h]
    simp only
    rw [if_neg (by omega), mvE_eq]
  case late k s m =>
    refine ⟨stated_iff.2 ⟨by simp [k, s, ruleS], by omega⟩, ?_⟩
    unfold deedD payD mostR
    rw [if_neg (by omega), if_pos k, if_pos s]
    simp only
    rw [if_neg (by omega), mvE_eq]
  case gone k s d =>
    refine ⟨stated_iff.2 ⟨by simp [k, s, ruleS], by omega⟩, ?_⟩
    unfold deedD cancelD
    rw [if_neg (by omega), if_neg (by omega), if_pos k, if_pos d]
  case keeps k s d =>
    refine ⟨stated_iff.2 ⟨by simp [k, s, ruleS], by omega⟩, ?_⟩
    unfold deedD cancelD
    rw [if_neg (by omega), if_neg (by omega), if_pos k, if_neg (by simp [d]), mvE_eq]
  case arrive k s =>
    refine ⟨stated_iff.2 ⟨by simp [k, s, ruleS], by omega⟩, ?_⟩
    unfold deedD
    rw [if_neg (by omega), if_neg (by omega), if_neg (by omega), if_pos k, List.append_nil]
  case leave n c k s h =>
    refine ⟨stated_iff.2 ⟨by simp [k, s, ruleS], by omega⟩, ?_⟩
    unfold deedD leaveD
    rw [if_neg (by omega), if_neg (by omega), if_neg (by omega), if_neg (by omega), if_pos k, h]
    simp only [mvE_eq, List.append_assoc]
  case walk k s h =>
    refine ⟨stated_iff.2 ⟨by simp [k, s, ruleS], by omega⟩, ?_⟩
    unfold deedD walkD
    rw [if_neg (by omega), if_neg (by omega), if_neg (by omega), if_neg (by omega), if_neg (by omega), if_pos k, if_neg (by omega)]
    simp only [mvE_eq, List.append_assoc]
  case back k s d m =>
    refine ⟨stated_iff.2 ⟨by rcases s with s | s | s <;> simp [k, s, ruleS], fun _ => d⟩, ?_⟩
    unfold deedD backD
    rw [if_neg (by omega), if_neg (by omega), if_neg (by omega), if_neg (by omega), if_neg (by omega), if_neg (by omega), if_pos k, if_neg (by omega), mvE_eq]
  case voucher n c k s d h =>
    refine ⟨stated_iff.2 ⟨by rcases s with s | s <;> simp [k, s, ruleS], fun _ => d⟩, ?_⟩
    unfold deedD voucherD
    rw [if_neg (by omega), if_neg (by omega), if_neg (by omega), if_neg (by omega), if_neg (by omega), if_neg (by omega), if_neg (by omega), h]
    simp only [mvE_eq]
/-- The entries of a deed. -/
theorem Deeds.es_ok {V : Env} {es : List Entry} {a : Acc} {x : Deed} {ys : List Entry} {a' : Acc} {n : Nat} (h : Deeds V es a x ys a') (ha : AccOk a n) (hk : conOk V.k = true) (hp : partOk V.p V.d = true) (d0 : 0 ≤ x.day) (d1 : x.day ≤ 366) (hc : x.kind = 2 ∨ x.kind = 7 ∨ x.kind = 8 → 1 ≤ x.cents ∧ x.cents ≤ 1000000000) :
    ∀ e ∈ ys, e.ok = true ∧ e.day = x.day ∧ e.ref = a.b.stay := by
  have hb := Bill.ok_iff.1 ha.b
  have hpy := payer_bd ha.b
  have hg := guest_bd a.b.stay
  have hone := oneR_ok hp ha.b
  have hcm := comm_bd hp hb.2.2.2.2.2.2.1.1
  have hmk : ∀ (frm tgt cents : Int) (e : Entry), e ∈ mvL x.day frm tgt cents a.b.stay → 100 ≤ frm ∧ frm ≤ 999 → 100 ≤ tgt ∧ tgt ≤ 999 → tgt ≠ frm → cents ≤ 1000000000 → e.ok = true ∧ e.day = x.day ∧ e.ref = a.b.stay := by
    intro frm tgt cents e he h1 h2 h3 h4
    obtain ⟨h0, rfl⟩ := mvL_mem he
    exact ⟨Entry.ok_iff.2 ⟨⟨d0, d1⟩, h2, h1, h3, ⟨by simp only; omega, h4⟩, by simp only; omega⟩, rfl, rfl⟩
  intro e he
  cases h
  case book => simp at he
  case pay n c k s d h m => exact hmk _ _ _ e he (by omega) (by omega) (by omega) (hc (.inl k)).2
  case late k s m => exact hmk _ _ _ e he (by omega) (by omega) (by omega) (hc (.inl k)).2
  case gone k s d =>
    by_cases h3 : (!a.b.ok || !amt a.paid || !inB x.day 0 366) = true
    · rw [entriesR_no h3] at he; simp at he
    · have h4 : (a.b.ok = true ∧ amt a.paid = true) ∧ inB x.day 0 366 = true := by simpa using h3
      rw [entriesR_ok h4.1.1 h4.1.2 h4.2] at he
      have hp2 := inB_iff.1 h4.1.2
      rcases entriesL_mem he with ⟨h5, rfl⟩ | ⟨h5, rfl⟩
      · unfold keptE
        exact ⟨Entry.ok_iff.2 ⟨⟨d0, d1⟩, by simp only; omega, by simp only; omega, by simp only; omega, by simp only; omega, by simp only; omega⟩, rfl, rfl⟩
      · unfold backE
        exact ⟨Entry.ok_iff.2 ⟨⟨d0, d1⟩, by simp only; omega, by simp only; omega, by simp only; omega, by simp only; omega, by simp only; omega⟩, rfl, rfl⟩
  case keeps k s d => exact hmk _ _ _ e he (by omega) (by omega) (by omega) (by omega)
  case arrive => simp at he
  case leave n c k s h =>
    have := comes_bd ha.b h
    rw [hone] at he
    rcases List.mem_append.1 he with he | he
    · rcases List.mem_append.1 he with he | he
      · exact hmk _ _ _ e he (by omega) (by omega) (by omega) (by omega)
      · exact hmk _ _ _ e he (by omega) (by omega) (by omega) (by omega)
    · exact hmk _ _ _ e he (by omega) (by omega) (by omega) (by simp only; omega)
  case walk k s h =>
    have hpr : (payR V.k a.b.price).1 ≤ 1000000000 := by
      unfold payR at h ⊢
      split
      · split
        · simp
        · simp only; omega
      · simp
    have := ha.early (by omega)
    rcases List.mem_append.1 he with he | he
    · exact hmk _ _ _ e he (by omega) (by omega) (by omega) (by omega)
    · exact hmk _ _ _ e he (by omega) (by omega) (by omega) hpr
  case back k s d m => exact hmk _ _ _ e he (by omega) (by omega) (by omega) (hc (.inr (.inl k))).2
  case voucher n c k s d h =>
    have := (hc (.inr (.inr k))).2
    exact hmk _ _ _ e he (by omega) (by omega) (by omega) (by omega)
theorem Deeds.len {V : Env} {es : List Entry} {a : Acc} {x : Deed} {ys : List Entry} {a' : Acc} (h : Deeds V es a x ys a') : ys.length ≤ 3 := by
  have hm := fun f t c => mvL_len x.day f t c a.b.stay
  cases h
  case book => simp
  case pay => exact Nat.le_trans (hm _ _ _) (by decide)
  case late => exact Nat.le_trans (hm _ _ _) (by decide)
  case gone k s d =>
    unfold entriesR
    split
    · simp
    · have := entriesL_len a.b (a.paid - min a.paid a.b.keep) (min a.paid a.b.keep) x.day
      simp only
      omega
  case keeps => exact Nat.le_trans (hm _ _ _) (by decide)
  case arrive => simp
  case leave n c k s h =>
    have h1 := hm (300 + a.b.place) (payerA a.b) a.b.price
    have h2 := hm (400 + a.b.place) (payerA a.b) n
    have h3 := hm (300 + a.b.place) (700 + a.b.channel) (oneR V.p V.d a.b).1
    rw [List.length_append, List.length_append]
    omega
  case walk k s h =>
    have h1 := hm 900 (guestA a.b.stay) a.paid
    have h2 := hm 900 800 (payR V.k a.b.price).1
    rw [List.length_append]
    omega
  case back => exact Nat.le_trans (hm _ _ _) (by decide)
  case voucher => exact Nat.le_trans (hm _ _ _) (by decide)
theorem Deeds.acc {V : Env} {es : List Entry} {a : Acc} {x : Deed} {ys : List Entry} {a' : Acc} {n : Nat} (h : Deeds V es a x ys a') (ha : AccOk a n) (hc : x.kind = 2 ∨ x.kind = 7 ∨ x.kind = 8 → 1 ≤ x.cents ∧ x.cents ≤ 1000000000) : AccOk a' (n + 1) ∧ a'.b = a.b := by
  obtain ⟨b, st, paid, early⟩ := ha
  cases h
  case book => exact ⟨⟨b, by simp, by simp only; omega, fun _ => early (by omega)⟩, rfl⟩
  case pay n c k s d h m =>
    have := comes_bd b h
    have := hc (.inl k)
    exact ⟨⟨b, st, by simp only; omega, fun _ => by simp only; omega⟩, rfl⟩
  case late k s m =>
    have := hc (.inl k)
    exact ⟨⟨b, st, by simp only; omega, fun h => absurd s h⟩, rfl⟩
  case gone k s d => exact ⟨⟨b, by simp, by simp only; omega, fun _ => early (by omega)⟩, rfl⟩
  case keeps k s d => exact ⟨⟨b, by simp, by simp only; omega, fun _ => early (by omega)⟩, rfl⟩
  case arrive k s => exact ⟨⟨b, by simp, by simp only; omega, fun _ => early (by omega)⟩, rfl⟩
  case leave n c k s h => exact ⟨⟨b, by simp, by simp only; omega, fun h => by simp at h⟩, rfl⟩
  case walk k s h => exact ⟨⟨b, by simp, by simp only; omega, fun _ => early (by omega)⟩, rfl⟩
  case back k s d m =>
    have := hc (.inr (.inl k))
    exact ⟨⟨b, st, by simp only; omega, fun h => by have := early h; simp only; omega⟩, rfl⟩
  case voucher n c k s d h =>
    have := comes_bd b h
    have := hc (.inr (.inr k))
    have := early (by omega)
    exact ⟨⟨b, st, by simp only; omega, fun _ => by simp only; omega⟩, rfl⟩
end Go.Proofs.Ytmlhoojcdidgkaa
