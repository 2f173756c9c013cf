/-
  Texts, one behind the other: Head30, FoRefused, FoDid.
-/
import Derived.Test.YtmlhoojcdidgkaaGreatM27
import Derived.Deep.RegionLawGrows
import Derived.Test.YtmlhoojcdidgkaaGreatM25
import Derived.Test.YtmlhoojcdidgkaaGreatM08
/-
  The laws of package commission: the head that each of them calls.
-/
namespace Go.Proofs.YtmlhoojcdidgkaaGreat
set_option linter.unusedSimpArgs false
set_option linter.unusedVariables false
open Go.RowKit Go.Maps
open Go.Sort (grow size_grow)

set_option maxHeartbeats 4000000
set_option maxRecDepth 100000
theorem cagrees_any (p d : Int) (l : List Bill) (A : Option Addr) (c : Nat) (ch : Int) (st : List Int) (B : Option Addr) (cB : Nat) (es : List Entry) (E : Option Addr) (cE : Nat) (w : World)
    (hs : SlBill w A l) (hl0 : l.length ≤ maxLen) (hst : SlInt w B st) (hst0 : st.length ≤ maxLen) (hse : SlEnt w E es) (hse0 : es.length ≤ 140737488355328) :
    Calls Tryz.prog 42 #[.agg #[.int .i64 p, .int .i64 d], .slice A l.length c, .int .i64 ch, .slice B st.length cB, .slice E es.length cE] w fun e w' => RetBE (agreesR p d l ch st es) e ∧ Below w.heap.size w w' := by
  rcases stmtR_cases p d l ch with ⟨er, hr, her⟩ | ⟨h0, h1, h2, h3, h4, hr⟩
  · exact cagrees_err p d l A c ch st B cB es E cE w er hs hl0 hr her
  · cases hk : ledOk es
    · exact cagrees_bad p d l A c ch st B cB es E cE w hs hl0 hse hse0 _ _ hr hk
    · obtain ⟨g0, g1⟩ := inB_iff.1 h3
      obtain ⟨L, hL⟩ := bok_of (billsOk_iff.1 h2).1
      have e1 : (ofB L ch).map (·.1) = ofCh l ch := by rw [ofB_map, hL]
      refine cagrees_ok p d l L hL A c ch st B cB es E cE w hs hl0 hst hst0 hse h0 h2 g0 g1 hk _ _ hr ?_ _ rfl ?_
      · rw [← e1]; unfold comms; simp
      · unfold agreesR
        rw [hr, hk, e1]
        simp
theorem cagrees_lit {p d ch er : Int} {l : List Bill} {st : List Int} {es : List Entry} {x : Bool} (h : agreesR p d l ch st es = (x, er)) (A : Option Addr) (c : Nat) (B : Option Addr) (cB : Nat) (E : Option Addr) (cE : Nat) (w : World)
    (hs : SlBill w A l) (hl0 : l.length ≤ maxLen) (hst : SlInt w B st) (hst0 : st.length ≤ maxLen) (hse : SlEnt w E es) (hse0 : es.length ≤ 140737488355328) :
    Calls Tryz.prog 42 #[.agg #[.int .i64 p, .int .i64 d], .slice A l.length c, .int .i64 ch, .slice B st.length cB, .slice E es.length cE] w fun e w' => e = .returned (.tuple #[.bool x, .int .i64 er]) ∧ Below w.heap.size w w' := by
  have := cagrees_any p d l A c ch st B cB es E cE w hs hl0 hst hst0 hse hse0
  rw [h] at this
  exact this
def mkB (s ch n : Int) : Bill := ⟨s, ch, 1, 1, 3, 5, 2, n, 0⟩
def lB : List Bill := [mkB 7 4 1050, mkB 8 5 990, mkB 9 4 1010]
def eL1 : Entry := ⟨1, 704, 301, 158, 7⟩
def eL2 : Entry := ⟨2, 704, 301, 152, 9⟩
def zeroE : Entry := ⟨0, 0, 0, 0, 0⟩
theorem h30_1 : oneR 3 20 (mkB 7 4 1050) = (158, 0) := by decide +kernel
theorem h30_2 : stmtR 3 20 lB 4 = ([158, 152], 310, 0) := by decide +kernel
theorem h30_3 : agreesR 3 20 lB 4 [158, 152] [eL1, eL2] = (true, 0) := by decide +kernel
theorem h30_4 : agreesR 3 20 lB 4 [158, 152] [eL1] = (false, 0) := by decide +kernel
theorem h30_5 : agreesR 3 20 lB 5 [148] [eL1, eL2] = (false, 0) := by decide +kernel
theorem h30_6 : oneR 3 2 (mkB 7 4 1050) = (0, 1) := by decide +kernel
theorem h30_7 : stmtR 3 20 (lB ++ [mkB 7 4 1050]) 4 = ([], 0, 1) := by decide +kernel
theorem h30_8 : agreesR 3 20 lB 4 [158, 152] [zeroE] = (false, 1) := by decide +kernel
def lCells : Array Value := #[.int .i64 7, .int .i64 4, .int .i64 1, .int .i64 1, .int .i64 3, .int .i64 5, .int .i64 2, .int .i64 1050, .int .i64 0, .int .i64 8, .int .i64 5, .int .i64 1, .int .i64 1, .int .i64 3, .int .i64 5, .int .i64 2, .int .i64 990, .int .i64 0, .int .i64 9, .int .i64 4, .int .i64 1, .int .i64 1, .int .i64 3, .int .i64 5, .int .i64 2, .int .i64 1010, .int .i64 0]
def eCells : Array Value := #[.int .i64 1, .int .i64 704, .int .i64 301, .int .i64 158, .int .i64 7, .int .i64 2, .int .i64 704, .int .i64 301, .int .i64 152, .int .i64 9]
theorem lSl (W : World) : SlBill (W.alloc (.cells lCells 31)) (some ⟨W.heap.size, 0, none⟩) lB :=
  sl_of_box (cs := lCells) (fun _ => rfl) (fun o => World.cell?_alloc_new W lCells 31 o) (by simp) rfl
theorem eSl (W : World) : SlEnt (W.alloc (.cells eCells 60)) (some ⟨W.heap.size, 0, none⟩) [eL1, eL2] :=
  sl_of_box (cs := eCells) (fun _ => rfl) (fun o => World.cell?_alloc_new W eCells 60 o) (by simp) rfl
/-- append of one element to a slice that is full, as one step of a region that draws. -/
theorem step_full {α : Type} {P : Program} {w : World} {t e : TypeId} {size bytes : Nat} {enc : α → List Value} {L : List α} {ops : Array Oper} {o : Oper} {a : Act} {K : Act → World → Prop} {Q : Exit → Act → World → Prop} {E0 : Prop} (hgd : o.guard = none) (s x : Operand)
    (ho : o.op = .call { callee := .builtin .append, args := #[s, x], argTypes := #[t, t] }) (E : Elem P t e size bytes) (he : ∀ y, (enc y).length = size) (hone : ∀ y, ∀ u ∈ enc y, u.oneCell' = true) (b off cap Bd : Nat) (hs : a.eval s = .slice (some ⟨b, off, none⟩) L.length cap) (hL : Sl w Bd size enc (some ⟨b, off, none⟩) L)
    (g c : Nat) (y : α) (hx : a.eval x = .slice (some ⟨g, 0, none⟩) 1 c) (hc : ∀ j u, (enc y)[j]? = some u → w.cell? ⟨g, j, none⟩ = some u) (hfull : cap < L.length + 1) (hn : L.length ≤ 100000000) (hby : bytes ≤ 1000)
    (h : ∀ v' w', OwnL w' w.heap.size e size enc v' (L ++ [y]) → w.grownBy w' none → K (a.put o.dst v') w') : if Region.wanted o (yielded ops a.tmps) = true then Oper.wp P o a w K Q else E0 := by
  obtain ⟨ht, i, z, hi, hz, h1, h2, h3, h4⟩ := E
  refine step_append_grows hgd s x t ho e i z size bytes ht hi hz h1 h2 h3 h4 (some ⟨b, off, none⟩) L.length cap (L.flatMap enc) hs (fun e => by cases e) (flat_len he L) (fun ad e j u hu => ?_) ⟨g, 0, none⟩ 1 c (enc y) hx (by rw [he, Nat.one_mul]) (fun j u hu => ?_) (hone y) hfull (by unfold maxLen; omega) ?_ (fun v' w' h1 h2 => h v' w' ?_ h2)
  · injection e with e
    subst e
    obtain ⟨k, hk, r, rfl, hr, hu'⟩ := flat_at he hu
    have e1 : (⟨b, off, none⟩ : Addr).add (k * size + r) = ⟨b, off + k * size + r, none⟩ := by unfold Addr.add; split <;> simp_all; omega
    rw [e1]
    exact (hL.cells hk).2 r u hu'
  · have e1 : (⟨g, 0, none⟩ : Addr).add j = ⟨g, j, none⟩ := by unfold Addr.add; split <;> simp_all
    rw [e1]
    exact hc j u hu
  · have := Nat.mul_le_mul (show L.length + 1 ≤ 100000001 by omega) hby
    omega
  · unfold OwnL
    rw [List.length_append, List.flatMap_append, List.flatMap_singleton]
    exact h1
end Go.Proofs.YtmlhoojcdidgkaaGreat

/-
  The law 'FolioRefused': the walk.
-/
namespace Go.Proofs.YtmlhoojcdidgkaaGreat
set_option linter.unusedSimpArgs false
set_option linter.unusedVariables false
open Go.RowKit
open Go.Sort (grow size_grow)


set_option maxHeartbeats 4000000
set_option maxRecDepth 100000
theorem fewB_iff {a b c : Nat} : fewB a b c = true ↔ a ≤ 40 ∧ b ≤ 60 ∧ c ≤ 40 := by unfold fewB; simp [and_assoc]
/-- The deeds that have no error. -/
def keptD (l : List Deed) (errs : List Int) : List Deed := ((l.zip errs).filter fun p => p.2 == 0).map (·.1)
theorem keptD_snoc {l : List Deed} {errs : List Int} (h : errs.length = l.length) (x : Deed) (e : Int) : keptD (l ++ [x]) (errs ++ [e]) = if e = 0 then keptD l errs ++ [x] else keptD l errs := by
  unfold keptD
  rw [List.zip_append h.symm, List.filter_append, List.map_append]
  by_cases he : e = 0
  · rw [if_pos he]; simp [he]
  · rw [if_neg he]; simp [he]
theorem keptD_len (l : List Deed) (errs : List Int) : (keptD l errs).length ≤ l.length := by
  unfold keptD
  rw [List.length_map]
  exact Nat.le_trans (List.length_filter_le _ _) (by rw [List.length_zip]; omega)
theorem keptD_mem {l : List Deed} {errs : List Int} {x : Deed} (h : x ∈ keptD l errs) : x ∈ l := by
  obtain ⟨p, hp, rfl⟩ := List.mem_map.1 h
  exact (List.of_mem_zip (List.mem_filter.1 hp).1).1
theorem keptD_step {l : List Deed} {errs : List Int} {m : Nat} (h1 : m < l.length) (h2 : m < errs.length) : keptD (l.take (m + 1)) (errs.take (m + 1)) = if errs[m] = 0 then keptD (l.take m) (errs.take m) ++ [l[m]] else keptD (l.take m) (errs.take m) := by
  rw [List.take_succ_eq_append_getElem h1, List.take_succ_eq_append_getElem h2, keptD_snoc (by rw [List.length_take, List.length_take]; omega)]
theorem kept_run {V : Env} {bills : List Bill} (l : List Deed) : runAll V bills (keptD l (runAll V bills l).2) = ((runAll V bills l).1, List.replicate (keptD l (runAll V bills l).2).length 0) := by
  have key := run_ind (V := V) (bills := bills) (fun l c er => er.length = l.length ∧ runAll V bills (keptD l er) = (c, List.replicate (keptD l er).length 0)) ⟨rfl, rfl⟩ ?_ ?_ l
  · exact key.2
  · rintro l x c c' er ⟨h1, h2⟩ hf hs
    refine ⟨by simp [h1], ?_⟩
    rw [keptD_snoc h1, if_pos rfl, runAll_snoc, h2]
    unfold runD
    simp only
    rw [if_pos hf, hs.mk]
    simp only [List.length_append, List.length_singleton, List.replicate_succ', Nat.add_eq]
  · rintro l x c er e ⟨h1, h2⟩ he
    refine ⟨by simp [h1], ?_⟩
    rw [keptD_snoc h1, if_neg he, h2]
theorem elemDeed : Elem Tryz.prog 43 51 4 32 := elem_mk Tryz.underlying43 (by kernel_rfl)
theorem deed_one (x : Deed) : ∀ u ∈ x.cs, u.oneCell' = true := by simp [Deed.cs, Value.oneCell']
theorem err_info : ∃ i, Tryz.prog.info? 33 = some i ∧ i.zero = some (.int .i64 0) ∧ i.size = 1 ∧ i.bytes = 8 := by
  have h : (match Tryz.prog.info? 33 with | some i => (match i.zero with | some (.int .i64 n) => decide (n = 0) | _ => false) && decide (i.size = 1) && decide (i.bytes = 8) | none => false) = true := by kernel_rfl
  cases hi : Tryz.prog.info? 33 with
  | none => rw [hi] at h; cases h
  | some i =>
    rw [hi] at h
    simp only [Bool.and_eq_true, decide_eq_true_eq] at h
    refine ⟨i, rfl, ?_, h.1.2, h.2⟩
    have h1 := h.1.1
    split at h1
    · next n hn => rw [hn]; congr 2; simpa using h1
    · cases h1
theorem make_err (W : World) (n : Nat) (hn : n ≤ 1000) : (Instr.makeSlice 52 (.int .i64 n) (.int .i64 n)).run Tryz.prog W = .ok (.slice (some ⟨W.heap.size, 0, none⟩) n n) (W.alloc (.cells (madeCells #[.int .i64 0] n) 33)) := by
  obtain ⟨i, hi, hz, h1, h2⟩ := err_info
  have := run_makeSlice (P := Tryz.prog) W 52 33 i (.int .i64 0) Tryz.underlying52 hi hz .i64 .i64 n n (by omega) (by omega) (by rw [h1]; omega) (by rw [h2]; omega) (by omega)
  rw [this, h1]
  simp [Value.cells]
end Go.Proofs.YtmlhoojcdidgkaaGreat

/-
  Folio: deeds that were done, and states (no Go in sight).
-/
namespace Go.Proofs.YtmlhoojcdidgkaaGreat
set_option linter.unusedSimpArgs false
set_option linter.unusedVariables false
set_option maxHeartbeats 1000000
theorem didR_snoc {l : List Deed} {errs : List Int} (h : errs.length = l.length) (x : Deed) (e : Int) (k s : Int) : didR (l ++ [x]) (errs ++ [e]) k s = (didR l errs k s || ((e == 0) && (x.kind == k) && (x.stay == s))) := by
  unfold didR
  rw [List.zip_append h.symm, List.any_append]
  simp
structure DidOk (l : List Deed) (errs : List Int) (a : Acc) : Prop where
  left : didR l errs 5 a.b.stay = decide (a.st = 3)
  canc : didR l errs 3 a.b.stay = decide (a.st = 4)
  walk : didR l errs 6 a.b.stay = decide (a.st = 5)
theorem DidOk.no {l : List Deed} {errs : List Int} {a : Acc} (h : DidOk l errs a) (hl : errs.length = l.length) {x : Deed} {e : Int} (hx : e ≠ 0 ∨ x.kind = 9 ∨ x.stay ≠ a.b.stay) : DidOk (l ++ [x]) (errs ++ [e]) a := by
  obtain ⟨h1, h2, h3⟩ := h
  have key : ∀ k, (k = 5 ∨ k = 3 ∨ k = 6) → ((e == 0) && (x.kind == k) && (x.stay == a.b.stay)) = false := by
    intro k hk
    rcases hx with hx | hx | hx
    · simp [hx]
    · have : (x.kind == k) = false := by rw [beq_eq_false_iff_ne]; omega
      simp [this]
    · simp [hx]
  exact ⟨by rw [didR_snoc hl, key 5 (by simp), Bool.or_false]; exact h1, by rw [didR_snoc hl, key 3 (by simp), Bool.or_false]; exact h2, by rw [didR_snoc hl, key 6 (by simp), Bool.or_false]; exact h3⟩
theorem Deeds.did {V : Env} {es : List Entry} {a : Acc} {x : Deed} {ys : List Entry} {a' : Acc} (h : Deeds V es a x ys a') {l : List Deed} {errs : List Int} (hl : errs.length = l.length) (hs : x.stay = a.b.stay) (hd : DidOk l errs a) : DidOk (l ++ [x]) (errs ++ [0]) a' := by
  obtain ⟨h1, h2, h3⟩ := hd
  have e0 : ∀ k, ((0 : Int) == 0 && (x.kind == k) && (x.stay == a.b.stay)) = decide (x.kind = k) := fun k => by rw [hs]; simp; rfl
  cases h
  all_goals
    refine ⟨?_, ?_, ?_⟩
    all_goals
      rw [didR_snoc hl]
      first | rw [h1] | rw [h2] | rw [h3]
      rw [e0]
      rw [Bool.eq_iff_iff]
      simp only [Bool.or_eq_true, decide_eq_true_eq]
      first | omega | (rw [iff_true]; omega)
/-- All that holds behind a run. -/
structure RunOk (V : Env) (bills : List Bill) (l : List Deed) (c : Crs) (errs : List Int) : Prop where
  len : errs.length = l.length
  ok : CrsOk c l.length
  bills : (c.ac.map fun a => a.b) = bills
  acct : ∀ a ∈ c.ac, Acct V c.es a
  did : ∀ a ∈ c.ac, DidOk l errs a
theorem CrsOk.more {c : Crs} {n : Nat} (h : CrsOk c n) : CrsOk c (n + 1) := ⟨h.day, h.es, h.rises, by have := h.len; omega, fun a ha => ⟨(h.ac a ha).b, (h.ac a ha).st, by have := (h.ac a ha).paid; omega, (h.ac a ha).early⟩, h.stays⟩
theorem run_all {V : Env} {bills : List Bill} (hV : EnvOk V) (hb : billsOk bills = true) (l : List Deed) : RunOk V bills l (runAll V bills l).1 (runAll V bills l).2 := by
  have hbk := (billsOk_iff.1 hb).1
  refine run_ind (V := V) (bills := bills) (RunOk V bills) ⟨rfl, crs0_ok hb, by simp [crs0, Function.comp_def], crs0_acct V hbk, fun a ha => ?_⟩ ?_ ?_ l
  · obtain ⟨b, hb, rfl⟩ := List.mem_map.1 ha
    exact ⟨rfl, rfl, rfl⟩
  · rintro l x c c' er ⟨h1, h2, h3, h4, h5⟩ hf hs
    obtain ⟨g1, g2, g3⟩ := hs.ok hV hf h2
    refine ⟨by simp [h1], by rw [List.length_append]; exact g1, g3.trans h3, hs.acct hV hf h2 h4, ?_⟩
    cases hs
    case broke k m => exact fun a ha => (h5 a ha).no h1 (.inr (.inl k))
    case deed k i a hi ha ys a' hd =>
      obtain ⟨hlt, hat⟩ := List.getElem?_eq_some_iff.1 ha
      obtain ⟨_, hst⟩ := idx_at hi
      rw [hat] at hst
      have ham := List.mem_of_getElem? ha
      intro b hb
      obtain ⟨j, hj, rfl⟩ := List.getElem_of_mem hb
      have hj' : j < c.ac.length := by simpa using hj
      show DidOk (l ++ [x]) (er ++ [0]) (c.ac.set i a')[j]
      rw [List.getElem_set]
      split
      · exact hd.did h1 hst.symm (h5 a ham)
      · next hne =>
        refine (h5 _ (List.getElem_mem hj')).no h1 (.inr (.inr ?_))
        rw [← hst, ← hat]
        intro heq
        have hn := List.pairwise_iff_getElem.1 h2.stays
        rcases Nat.lt_or_gt_of_ne hne with hlt' | hlt'
        · have := hn i j (by simpa using hlt) (by simpa using hj') hlt'
          simp at this
          exact this heq
        · have := hn j i (by simpa using hj') (by simpa using hlt) hlt'
          simp at this
          exact this heq.symm
  · rintro l x c er e ⟨h1, h2, h3, h4, h5⟩ he
    exact ⟨by simp [h1], by rw [List.length_append]; exact h2.more, h3, h4, fun a ha => (h5 a ha).no h1 (.inl he)⟩
theorem RunOk.at_ {V : Env} {bills : List Bill} {l : List Deed} {c : Crs} {errs : List Int} (h : RunOk V bills l c errs) {m : Nat} (hm : m < bills.length) : ∃ a ∈ c.ac, a.b = bills[m] := by
  have hlen : c.ac.length = bills.length := by rw [← h.bills]; simp
  refine ⟨c.ac[m]'(by omega), List.getElem_mem _, ?_⟩
  have := h.bills
  have h2 : (c.ac.map fun a => a.b)[m]'(by simp; omega) = bills[m] := List.getElem_of_eq this _
  rw [List.getElem_map] at h2
  exact h2
theorem comes_all {ts : List Tax} {b : Bill} {n c : Int} (h : comesR ts b = some (n, c)) : ∃ r, allT ts b = (r, n, 0) := by
  unfold comesR at h
  split at h
  · next h0 =>
    injection h with h
    injection h with h1 h2
    exact ⟨(allT ts b).1, by rw [← h1, ← h0]⟩
  · cases h
end Go.Proofs.YtmlhoojcdidgkaaGreat
