/-
  Package commission: whether a statement and a ledger agree: plain words on the map of moved sums; the ways out ahead of the loops.
-/
import Derived.Test.YtmlhoojcdidgkaaM12
namespace Go.Proofs.Ytmlhoojcdidgkaa
set_option linter.unusedSimpArgs false
set_option linter.unusedVariables false
open Go.RowKit Go.Maps Go.Shelf
open Go.Sort (grow size_grow)

set_option maxHeartbeats 4000000
set_option maxRecDepth 100000
/-- A region that draws its order and only reads, inside a round: the walk in text order serves. -/
theorem region_round_quiet {F : Fence} {n l id : Nat} {P : Program} {ops : List Oper} {Q : Exit → Act → World → Prop} {a : Act} {w : World} (hro : F.round = none) (hm : P.follows .mixedOrders = true) (hd : noDefer ops.toArray = true) (hs : Region.noSelect ops.toArray = true)
    (hB : Region.lexFrom .any ops.toArray ops.length 0 (Array.replicate ops.length false) = true)
    (h : wpQuietIn F n P ops.toArray (fun w' => w' = w.drew) (fun a' => Q .normal a' w.drew) ops a) : (Code.region id ops.toArray true).wpIn (F.inRound l) n P Q a w := by
  refine region_round hm hd ?_
  have h1 := wpAnyQIn_lex (md := .any) hs ops 0 (Array.replicate ops.length false) a (fun j => by simp) hB h
  have h2 := wpAnyIn_of_quiet (C := fun w' => w' = w.drew) (Q' := Q) hro (fun a' w' hw' hq => by subst hw'; exact hq) ops.length (Array.replicate ops.length false) a w.drew (show w.drew = w.drew from rfl) h1
  simpa using h2
/-- One operation of it. -/
theorem quiet_one {F : Fence} {n : Nat} {P : Program} {ops : Array Oper} {R : Act → Prop} {o : Oper} {rest : List Oper} {a : Act} {W : World} (v : Value) (hab : o.about P W a.eval = none) (hg : o.guard = none)
    (hrun : (execOp a.eval o).run P W = .ok (.value v) W) (h : wpQuietIn F n P ops (fun w' => w' = W) R rest (a.put o.dst v)) : wpQuietIn F n P ops (fun w' => w' = W) R (o :: rest) a := by
  have hw : Region.wanted o (yielded ops a.tmps) = true := by simp [Region.wanted, hg]
  refine ⟨fun w hw f hf => (by subst hw; rw [hab] at hf; cases hf), ?_⟩
  rw [if_pos hw]
  refine ⟨v, fun w hw => ?_, h⟩
  subst hw
  unfold Oper.quietAtIn
  rw [hrun]
  exact ⟨rfl, rfl⟩
/-- What the map of moved sums holds: those of references that are gone are struck. -/
structure MovOf (D : DM) (es : List Entry) (acc : Int) (gone : List Int) : Prop where
  tidy : Tidy D
  at_ : ∀ a, getI D a = if a ∈ gone then 0 else movedR es acc a
theorem movOf_empty (acc : Int) : MovOf (.map []) [] acc [] := ⟨tidy_empty, fun a => by rw [if_neg (by simp)]; rfl⟩
theorem MovOf.plus {D : DM} {es : List Entry} {acc c : Int} {e : Entry} (h : MovOf D es acc []) (he : e.debit = acc) (hc : e.credit ≠ acc) (hg : getI D e.ref = c) : MovOf (putI D e.ref (c + e.cents)) (es ++ [e]) acc [] := by
  refine ⟨putI_tidy h.tidy _ _, fun a => ?_⟩
  rw [if_neg (by simp), movedR_snoc, mv_acc, if_pos he, if_neg hc]
  by_cases ha : a = e.ref
  · subst ha
    rw [getI_same h.tidy, if_pos rfl, ← hg, h.at_, if_neg (by simp)]
    omega
  · rw [getI_other ha, if_neg (fun e' => ha e'.symm), h.at_, if_neg (by simp)]
    omega
theorem MovOf.minus {D : DM} {es : List Entry} {acc c : Int} {e : Entry} (h : MovOf D es acc []) (he : e.debit ≠ acc) (hc : e.credit = acc) (hg : getI D e.ref = c) : MovOf (putI D e.ref (c - e.cents)) (es ++ [e]) acc [] := by
  refine ⟨putI_tidy h.tidy _ _, fun a => ?_⟩
  rw [if_neg (by simp), movedR_snoc, mv_acc, if_neg he, if_pos hc]
  by_cases ha : a = e.ref
  · subst ha
    rw [getI_same h.tidy, if_pos rfl, ← hg, h.at_, if_neg (by simp)]
    omega
  · rw [getI_other ha, if_neg (fun e' => ha e'.symm), h.at_, if_neg (by simp)]
    omega
theorem MovOf.same {D : DM} {es : List Entry} {acc : Int} {e : Entry} (h : MovOf D es acc []) (he : e.debit ≠ acc) (hc : e.credit ≠ acc) : MovOf D (es ++ [e]) acc [] := by
  refine ⟨h.tidy, fun a => ?_⟩
  rw [if_neg (by simp), movedR_snoc, mv_acc, if_neg he, if_neg hc, h.at_, if_neg (by simp)]
  split <;> omega
theorem MovOf.del {D : DM} {es : List Entry} {acc : Int} {gone : List Int} (h : MovOf D es acc gone) (r : Int) : MovOf (delI D r) es acc (gone ++ [r]) := by
  refine ⟨delI_tidy h.tidy r, fun a => ?_⟩
  by_cases ha : a = r
  · subst ha
    rw [getI_del_same, if_pos (by simp)]
  · rw [getI_del_other ha, h.at_]
    by_cases hg : a ∈ gone
    · rw [if_pos hg, if_pos (by simp [hg])]
    · rw [if_neg hg, if_neg (by simp [hg, ha])]
theorem movedR_touch : ∀ {es : List Entry} {acc r : Int}, movedR es acc r ≠ 0 → ∃ e ∈ es, e.ref = r ∧ (e.debit = acc ∨ e.credit = acc)
  | [], _, _, h => absurd rfl h
  | e :: es, acc, r, h => by
    have h1 : movedR (e :: es) acc r = (if e.ref = r then mv (fun a => a == acc) e else 0) + movedR es acc r := by
      unfold movedR
      rw [List.filter_cons]
      by_cases he : e.ref = r
      · rw [if_pos he]; simp [he, mvs_cons]
      · rw [if_neg he]; simp [he]
    by_cases h2 : movedR es acc r = 0
    · by_cases he : e.ref = r
      · refine ⟨e, by simp, he, ?_⟩
        rw [h1, if_pos he, mv_acc] at h
        by_cases hd : e.debit = acc
        · exact .inl hd
        · by_cases hc : e.credit = acc
          · exact .inr hc
          · rw [if_neg hd, if_neg hc] at h
            omega
      · rw [h1, if_neg he] at h
        omega
    · obtain ⟨x, hx, hr, ht⟩ := movedR_touch h2
      exact ⟨x, by simp [hx], hr, ht⟩
/-- What is looked up at a bill, in order. -/
def valAt (es : List Entry) (acc : Int) (pre : List BOk) (x : BOk) : Int := if x.1.stay ∈ stays (pre.map (·.1)) then 0 else movedR es acc x.1.stay
def valsOk (es : List Entry) (acc : Int) (want : List Int) (pre : List BOk) : Prop := ∀ i (h : i < pre.length) (h' : i < want.length), valAt es acc (pre.take i) pre[i] = want[i]
theorem valsOk_nil (es : List Entry) (acc : Int) (want : List Int) : valsOk es acc want [] := fun i h => absurd h (by simp)
theorem valsOk_snoc {es : List Entry} {acc : Int} {want : List Int} {pre : List BOk} {x : BOk} (h : valsOk es acc want pre) (hl : pre.length < want.length) (hx : valAt es acc pre x = want[pre.length]) : valsOk es acc want (pre ++ [x]) := by
  intro i hi hi'
  by_cases e : i < pre.length
  · rw [List.getElem_append_left e, List.take_append_of_le_length (by omega)]
    exact h i e hi'
  · have : i = pre.length := by simp at hi; omega
    subst this
    rw [List.getElem_append_right (Nat.le_refl _), List.take_append_of_le_length (Nat.le_refl _), List.take_of_length_le (Nat.le_refl _)]
    simpa using hx
theorem valAt_prefix {es : List Entry} {acc : Int} {own : List BOk} (hn : (stays (own.map (·.1))).Nodup) {i : Nat} (hi : i < own.length) : valAt es acc (own.take i) own[i] = movedR es acc own[i].1.stay := by
  unfold valAt
  rw [if_neg]
  intro hm
  have h1 : stays ((own.take (i + 1)).map (·.1)) = stays ((own.take i).map (·.1)) ++ [own[i].1.stay] := by
    rw [List.take_succ_eq_append_getElem hi, List.map_append]
    unfold stays
    rw [List.map_append]
    rfl
  have h2 : (stays ((own.take (i + 1)).map (·.1))).Sublist (stays (own.map (·.1))) := ((List.take_sublist _ _).map _).map _
  have h3 := hn.sublist h2
  rw [h1] at h3
  exact absurd rfl ((List.nodup_append.1 h3).2.2 _ hm _ (by simp))
theorem stays_ofCh {l : List Bill} {ch : Int} (h : (stays l).Nodup) : (stays (ofCh l ch)).Nodup := h.sublist (List.filter_sublist.map _)
theorem agrees_mismatch {want st : List Int} {own pre : List BOk} {x : BOk} {es : List Entry} {acc : Int} (hn : (stays (own.map (·.1))).Nodup) (hp : pre ++ [x] <+: own) (hl : pre.length < want.length) (hx : valAt es acc pre x ≠ want[pre.length]) : agrees want st (own.map (·.1)) es acc = false := by
  obtain ⟨t, rfl⟩ := hp
  refine agrees_no fun h => hx ?_
  have hi : pre.length < (pre ++ [x] ++ t).length := by first | (simp; done) | (simp; omega)
  have h1 := valAt_prefix (es := es) (acc := acc) hn hi
  have e1 : (pre ++ [x] ++ t).take pre.length = pre := by simp
  have e2 : (pre ++ [x] ++ t)[pre.length] = x := by simp
  rw [e1, e2] at h1
  rw [h1]
  have h2 := List.getElem_of_eq h.2.1 (i := pre.length) (by unfold movedL; first | (simp; done) | (simp; omega))
  rw [← h2, movedL_at (by first | (simp; done) | (simp; omega))]
  simp
theorem movedL_ok {want : List Int} {own : List BOk} {es : List Entry} {acc : Int} (hn : (stays (own.map (·.1))).Nodup) (hl : want.length = own.length) (h : valsOk es acc want own) : movedL (own.map (·.1)) es acc = want := by
  refine List.ext_getElem (by unfold movedL; simp [hl]) fun i h1 h2 => ?_
  have hi : i < own.length := by omega
  rw [movedL_at (by simpa using hi), List.getElem_map, ← h i hi h2, valAt_prefix hn hi]
theorem agrees_left {want st : List Int} {own : List Bill} {es : List Entry} {acc r : Int} (h1 : r ∉ stays own) (h2 : movedR es acc r ≠ 0) : agrees want st own es acc = false := by
  obtain ⟨e, he, hr, ht⟩ := movedR_touch h2
  refine agrees_no fun h => ?_
  subst hr
  rcases h.2.2 e he with h | h | h
  · rcases ht with t | t
    · exact h.1 t
    · exact h.2 t
  · exact h1 h
  · exact h2 h
theorem agrees_done {want st : List Int} {own : List Bill} {es : List Entry} {acc : Int} (h1 : movedL own es acc = want) (h2 : ∀ r, r ∉ stays own → movedR es acc r = 0) : agrees want st own es acc = decide (want = st) := by
  unfold agrees
  rw [Bool.eq_iff_iff, decide_eq_true_eq, decide_eq_true_eq]
  refine ⟨fun h => h.1, fun h => ⟨h, h1, fun e _ => ?_⟩⟩
  by_cases hs : e.ref ∈ stays own
  · exact .inr (.inl hs)
  · exact .inr (.inr (h2 _ hs))
end Go.Proofs.Ytmlhoojcdidgkaa
