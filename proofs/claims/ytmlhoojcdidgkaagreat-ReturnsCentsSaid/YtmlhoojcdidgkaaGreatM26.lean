/-
  Texts, one behind the other: Two, FoArgs, Com10, Com11.
-/
import Derived.Test.YtmlhoojcdidgkaaGreatM01
import Derived.Test.YtmlhoojcdidgkaaGreatM25
import Derived.Test.YtmlhoojcdidgkaaGreatM24
import Derived.Test.YtmlhoojcdidgkaaGreatM15
/-
  Two copies of a struct, made by one statement whose order is open.
-/
namespace Go.Proofs.YtmlhoojcdidgkaaGreat
set_option linter.unusedSimpArgs false
set_option linter.unusedVariables false
open Go.RowKit

/-- Two new blocks p and q, in either order, that hold cs and ds; nothing else has turned. -/
structure Two (w1 W : World) (p q : Nat) (cs ds : Array Value) : Prop where
  below : Below w1.heap.size w1 W
  size : W.heap.size = w1.heap.size + 1 + 1
  p1 : w1.heap.size ≤ p
  p2 : p < w1.heap.size + 1 + 1
  q1 : w1.heap.size ≤ q
  q2 : q < w1.heap.size + 1 + 1
  ne : p ≠ q
  cp : ∀ o, W.cell? ⟨p, o, none⟩ = cs[o]?
  cq : ∀ o, W.cell? ⟨q, o, none⟩ = ds[o]?
  fp : ∀ o, W.frozen? ⟨p, o, none⟩ = false
  fq : ∀ o, W.frozen? ⟨q, o, none⟩ = false
theorem Two.drew {w1 W : World} {p q : Nat} {cs ds : Array Value} (h : Two w1 W p q cs ds) : Two w1 W.drew p q cs ds :=
  ⟨Below.drew h.below, h.size, h.p1, h.p2, h.q1, h.q2, h.ne, h.cp, h.cq, h.fp, h.fq⟩
theorem two_pq (w1 : World) (cs ds : Array Value) (t t' : TypeId) : Two w1 ((w1.alloc (.cells cs t)).alloc (.cells ds t')).drew w1.heap.size (w1.heap.size + 1) cs ds := by
  refine Two.drew ⟨((Below.refl _ _).alloc (Nat.le_refl _) _).alloc (by simp) _, by simp, by omega, by omega, by omega, by omega, by omega, box_old (box_new w1 cs t) (by simp) _, ?_, ?_, ?_⟩
  · have h := box_new (w1.alloc (.cells cs t)) ds t'
    rw [World.size_alloc] at h
    exact h
  · intro o
    exact (World.frozen?_alloc_old _ _ ⟨w1.heap.size, o, none⟩ (by simp)).trans (World.frozen?_alloc_new w1 cs t o)
  · intro o
    have h := World.frozen?_alloc_new (w1.alloc (.cells cs t)) ds t' o
    rw [World.size_alloc] at h
    exact h
theorem two_qp (w1 : World) (cs ds : Array Value) (t t' : TypeId) : Two w1 ((w1.alloc (.cells ds t')).alloc (.cells cs t)).drew (w1.heap.size + 1) w1.heap.size cs ds := by
  have h := two_pq w1 ds cs t' t
  exact ⟨h.below, h.size, h.q1, h.q2, h.p1, h.p2, Ne.symm h.ne, h.cq, h.cp, h.fq, h.fp⟩
/-- A store into the first one, into the second one. -/
theorem Two.setP {w1 W : World} {p q : Nat} {cs ds : Array Value} (h : Two w1 W p q cs ds) {i : Nat} (hi : i < cs.size) (v : Value) : Two w1 (W.setCell ⟨p, i, none⟩ v) p q (cs.setIfInBounds i v) ds :=
  ⟨h.below.setCell h.p1 _, by simpa using h.size, h.p1, h.p2, h.q1, h.q2, h.ne, box_set h.cp hi v, box_far h.cq (p := ⟨p, i, none⟩) h.ne v, fun o => by rw [World.frozen?_setCell]; exact h.fp o, fun o => by rw [World.frozen?_setCell]; exact h.fq o⟩
theorem Two.setQ {w1 W : World} {p q : Nat} {cs ds : Array Value} (h : Two w1 W p q cs ds) {i : Nat} (hi : i < ds.size) (v : Value) : Two w1 (W.setCell ⟨q, i, none⟩ v) p q cs (ds.setIfInBounds i v) :=
  ⟨h.below.setCell h.q1 _, by simpa using h.size, h.p1, h.p2, h.q1, h.q2, h.ne, box_far h.cp (p := ⟨q, i, none⟩) (Ne.symm h.ne) v, box_set h.cq hi v, fun o => by rw [World.frozen?_setCell]; exact h.fp o, fun o => by rw [World.frozen?_setCell]; exact h.fq o⟩
theorem wf_int_iff (k : IntKind) (n : Int) : (Lit.int k n).wf = true ↔ k.min ≤ n ∧ n ≤ k.max := by simp [Lit.wf]
end Go.Proofs.YtmlhoojcdidgkaaGreat

/-
  The laws of package folio: their arguments.
-/
namespace Go.Proofs.YtmlhoojcdidgkaaGreat
set_option linter.unusedSimpArgs false
set_option linter.unusedVariables false
open Go.ChangeShapes Go.WideShapes Go.ChangeAt Go.RowKit Go.Deep
set_option maxRecDepth 100000
def DeedB : Type := { x : Deed // -9223372036854775808 ≤ x.stay ∧ x.stay ≤ 9223372036854775807 }
theorem dec_deed (cs : List Value) (h : cs.length = 4) (hc : ∀ (i : Nat) (c : Value), cs[i]? = some c → isI64 c) : ∃ x : DeedB, cs = x.1.cs := by
  match cs, h with
  | [a, b, c, d], _ =>
    obtain ⟨a, rfl, _⟩ := hc 0 _ rfl
    obtain ⟨b, rfl, _⟩ := hc 1 _ rfl
    obtain ⟨c, rfl, wc⟩ := hc 2 _ rfl
    obtain ⟨d, rfl, _⟩ := hc 3 _ rfl
    have := (wf_int_iff .i64 c).1 wc
    exact ⟨⟨⟨a, b, c, d⟩, this⟩, rfl⟩
theorem dec_con (cs : List Value) (h : cs.length = 4) (hc : ∀ (i : Nat) (c : Value), cs[i]? = some c → isI64 c) : ∃ k : Con, Value.agg cs.toArray = k.v := by
  match cs, h with
  | [a, b, c, d], _ =>
    obtain ⟨a, rfl, _⟩ := hc 0 _ rfl
    obtain ⟨b, rfl, _⟩ := hc 1 _ rfl
    obtain ⟨c, rfl, _⟩ := hc 2 _ rfl
    obtain ⟨d, rfl, _⟩ := hc 3 _ rfl
    exact ⟨⟨a, b, c, d⟩, rfl⟩
section
variable {H : Type} {enc : TypeId × Value → H} {w : World} {r : Reach} {b0 : Nat} {v : Value} {d : DataW H} {p : List MemPlace}
theorem arg_con (hv : Value.okWide Tryz.prog w r b0 42 v) (h : DataW.Trod enc Tryz.prog w 0 (fun _ => true) true 42 v d p) : ∃ k : Con, v = k.v := by
  obtain ⟨cs, rfl, hsz, hc⟩ := open_ints (n := 6) Tryz.underlying42 (by kernel_rfl) hv h
  obtain ⟨l⟩ := cs
  exact dec_con l (hsz.trans (by kernel_rfl)) (fun i c hi => hc i c (by simpa using hi))
theorem arg_deeds (hv : Value.okWide Tryz.prog w r b0 43 v) (h : DataW.Trod enc Tryz.prog w 0 (fun _ => true) true 43 v d p) : ∃ (A : Option Addr) (l : List Deed) (c : Nat), v = .slice A l.length c ∧ SlDeed w A l ∧ ∀ x ∈ l, -9223372036854775808 ≤ x.stay ∧ x.stay ≤ 9223372036854775807 := by
  obtain ⟨A, l, c, rfl, hs, _⟩ := open_slice_ints (n := 4) (size := 4) (code := fun x : DeedB => x.1.cs) Tryz.underlying43 (by kernel_rfl) (by kernel_rfl) (by decide) dec_deed hv h
  refine ⟨A, l.map (·.1), c, by simp, fun hne => ?_, fun x hx => ?_⟩
  · obtain ⟨b, off, e, hb, hc⟩ := hs (by rintro rfl; simp at hne)
    refine ⟨b, off, e, hb, fun k hk j v hv => hc k (by simpa using hk) j v (by simpa using hv)⟩
  · obtain ⟨y, _, rfl⟩ := List.mem_map.1 hx
    exact y.2
end
end Go.Proofs.YtmlhoojcdidgkaaGreat

/-
  Package commission: whether a statement and a ledger agree: plain words on the map of moved sums; the ways out ahead of the loops.
-/
namespace Go.Proofs.YtmlhoojcdidgkaaGreat
set_option linter.unusedSimpArgs false
set_option linter.unusedVariables false
open Go.RowKit Go.Maps Go.Shelf
open Go.Sort (grow size_grow)

set_option maxHeartbeats 4000000
set_option maxRecDepth 100000
/-- A region that draws its order and only reads, inside a round: the walk in text order serves. -/
theorem region_round_quiet {F : Fence} {n l id : Nat} {P : Program} {ops : List Oper} {Q : Exit → Act → World → Prop} {a : Act} {w : World} (hro : F.round = none) (hm : P.follows .mixedOrders = true) (hd : noDefer ops.toArray = true) (hs : Region.noSelect ops.toArray = true)
    (hB : Region.lexFrom .any ops.toArray ops.length 0 (Array.replicate ops.length false) = true)
    (h : wpQuietIn F n P ops.toArray (fun w' => w' = w.drew) (fun a' => Q .normal a' w.drew) ops a) : (Code.region id ops.toArray true).wpIn (F.inRound l) n P Q a w := by
  refine region_round hm hd ?_
  have h1 := wpAnyQIn_lex (md := .any) hs ops 0 (Array.replicate ops.length false) a (fun j => by simp) hB h
  have h2 := wpAnyIn_of_quiet (C := fun w' => w' = w.drew) (Q' := Q) hro (fun a' w' hw' hq => by subst hw'; exact hq) ops.length (Array.replicate ops.length false) a w.drew (show w.drew = w.drew from rfl) h1
  simpa using h2
/-- One operation of it. -/
theorem quiet_one {F : Fence} {n : Nat} {P : Program} {ops : Array Oper} {R : Act → Prop} {o : Oper} {rest : List Oper} {a : Act} {W : World} (v : Value) (hab : o.about P W a.eval = none) (hg : o.guard = none)
    (hrun : (execOp a.eval o).run P W = .ok (.value v) W) (h : wpQuietIn F n P ops (fun w' => w' = W) R rest (a.put o.dst v)) : wpQuietIn F n P ops (fun w' => w' = W) R (o :: rest) a := by
  have hw : Region.wanted o (yielded ops a.tmps) = true := by simp [Region.wanted, hg]
  refine ⟨fun w hw f hf => (by subst hw; rw [hab] at hf; cases hf), ?_⟩
  rw [if_pos hw]
  refine ⟨v, fun w hw => ?_, h⟩
  subst hw
  unfold Oper.quietAtIn
  rw [hrun]
  exact ⟨rfl, rfl⟩
/-- What the map of moved sums holds: those of references that are gone are struck. -/
structure MovOf (D : DM) (es : List Entry) (acc : Int) (gone : List Int) : Prop where
  tidy : Tidy D
  at_ : ∀ a, getI D a = if a ∈ gone then 0 else movedR es acc a
theorem movOf_empty (acc : Int) : MovOf (.map []) [] acc [] := ⟨tidy_empty, fun a => by rw [if_neg (by simp)]; rfl⟩
theorem MovOf.plus {D : DM} {es : List Entry} {acc c : Int} {e : Entry} (h : MovOf D es acc []) (he : e.debit = acc) (hc : e.credit ≠ acc) (hg : getI D e.ref = c) : MovOf (putI D e.ref (c + e.cents)) (es ++ [e]) acc [] := by
  refine ⟨putI_tidy h.tidy _ _, fun a => ?_⟩
  rw [if_neg (by simp), movedR_snoc, mv_acc, if_pos he, if_neg hc]
  by_cases ha : a = e.ref
  · subst ha
    rw [getI_same h.tidy, if_pos rfl, ← hg, h.at_, if_neg (by simp)]
    omega
  · rw [getI_other ha, if_neg (fun e' => ha e'.symm), h.at_, if_neg (by simp)]
    omega
theorem MovOf.minus {D : DM} {es : List Entry} {acc c : Int} {e : Entry} (h : MovOf D es acc []) (he : e.debit ≠ acc) (hc : e.credit = acc) (hg : getI D e.ref = c) : MovOf (putI D e.ref (c - e.cents)) (es ++ [e]) acc [] := by
  refine ⟨putI_tidy h.tidy _ _, fun a => ?_⟩
  rw [if_neg (by simp), movedR_snoc, mv_acc, if_neg he, if_pos hc]
  by_cases ha : a = e.ref
  · subst ha
    rw [getI_same h.tidy, if_pos rfl, ← hg, h.at_, if_neg (by simp)]
    omega
  · rw [getI_other ha, if_neg (fun e' => ha e'.symm), h.at_, if_neg (by simp)]
    omega
theorem MovOf.same {D : DM} {es : List Entry} {acc : Int} {e : Entry} (h : MovOf D es acc []) (he : e.debit ≠ acc) (hc : e.credit ≠ acc) : MovOf D (es ++ [e]) acc [] := by
  refine ⟨h.tidy, fun a => ?_⟩
  rw [if_neg (by simp), movedR_snoc, mv_acc, if_neg he, if_neg hc, h.at_, if_neg (by simp)]
  split <;> omega
theorem MovOf.del {D : DM} {es : List Entry} {acc : Int} {gone : List Int} (h : MovOf D es acc gone) (r : Int) : MovOf (delI D r) es acc (gone ++ [r]) := by
  refine ⟨delI_tidy h.tidy r, fun a => ?_⟩
  by_cases ha : a = r
  · subst ha
    rw [getI_del_same, if_pos (by simp)]
  · rw [getI_del_other ha, h.at_]
    by_cases hg : a ∈ gone
    · rw [if_pos hg, if_pos (by simp [hg])]
    · rw [if_neg hg, if_neg (by simp [hg, ha])]
theorem movedR_touch : ∀ {es : List Entry} {acc r : Int}, movedR es acc r ≠ 0 → ∃ e ∈ es, e.ref = r ∧ (e.debit = acc ∨ e.credit = acc)
  | [], _, _, h => absurd rfl h
  | e :: es, acc, r, h => by
    have h1 : movedR (e :: es) acc r = (if e.ref = r then mv (fun a => a == acc) e else 0) + movedR es acc r := by
      unfold movedR
      rw [List.filter_cons]
      by_cases he : e.ref = r
      · rw [if_pos he]; simp [he, mvs_cons]
      · rw [if_neg he]; simp [he]
    by_cases h2 : movedR es acc r = 0
    · by_cases he : e.ref = r
      · refine ⟨e, by simp, he, ?_⟩
        rw [h1, if_pos he, mv_acc] at h
        by_cases hd : e.debit = acc
        · exact .inl hd
        · by_cases hc : e.credit = acc
          · exact .inr hc
          · rw [if_neg hd, if_neg hc] at h
            omega
      · rw [h1, if_neg he] at h
        omega
    · obtain ⟨x, hx, hr, ht⟩ := movedR_touch h2
      exact ⟨x, by simp [hx], hr, ht⟩
/-- What is looked up at a bill, in order. -/
def valAt (es : List Entry) (acc : Int) (pre : List BOk) (x : BOk) : Int := if x.1.stay ∈ stays (pre.map (·.1)) then 0 else movedR es acc x.1.stay
def valsOk (es : List Entry) (acc : Int) (want : List Int) (pre : List BOk) : Prop := ∀ i (h : i < pre.length) (h' : i < want.length), valAt es acc (pre.take i) pre[i] = want[i]
theorem valsOk_nil (es : List Entry) (acc : Int) (want : List Int) : valsOk es acc want [] := fun i h => absurd h (by simp)
theorem valsOk_snoc {es : List Entry} {acc : Int} {want : List Int} {pre : List BOk} {x : BOk} (h : valsOk es acc want pre) (hl : pre.length < want.length) (hx : valAt es acc pre x = want[pre.length]) : valsOk es acc want (pre ++ [x]) := by
  intro i hi hi'
  by_cases e : i < pre.length
  · rw [List.getElem_append_left e, List.take_append_of_le_length (by omega)]
    exact h i e hi'
  · have : i = pre.length := by simp at hi; omega
    subst this
    rw [List.getElem_append_right (Nat.le_refl _), List.take_append_of_le_length (Nat.le_refl _), List.take_of_length_le (Nat.le_refl _)]
    simpa using hx
theorem valAt_prefix {es : List Entry} {acc : Int} {own : List BOk} (hn : (stays (own.map (·.1))).Nodup) {i : Nat} (hi : i < own.length) : valAt es acc (own.take i) own[i] = movedR es acc own[i].1.stay := by
  unfold valAt
  rw [if_neg]
  intro hm
  have h1 : stays ((own.take (i + 1)).map (·.1)) = stays ((own.take i).map (·.1)) ++ [own[i].1.stay] := by
    rw [List.take_succ_eq_append_getElem hi, List.map_append]
    unfold stays
    rw [List.map_append]
    rfl
  have h2 : (stays ((own.take (i + 1)).map (·.1))).Sublist (stays (own.map (·.1))) := ((List.take_sublist _ _).map _).map _
  have h3 := hn.sublist h2
  rw [h1] at h3
  exact absurd rfl ((List.nodup_append.1 h3).2.2 _ hm _ (by simp))
theorem stays_ofCh {l : List Bill} {ch : Int} (h : (stays l).Nodup) : (stays (ofCh l ch)).Nodup := h.sublist (List.filter_sublist.map _)
theorem agrees_mismatch {want st : List Int} {own pre : List BOk} {x : BOk} {es : List Entry} {acc : Int} (hn : (stays (own.map (·.1))).Nodup) (hp : pre ++ [x] <+: own) (hl : pre.length < want.length) (hx : valAt es acc pre x ≠ want[pre.length]) : agrees want st (own.map (·.1)) es acc = false := by
  obtain ⟨t, rfl⟩ := hp
  refine agrees_no fun h => hx ?_
  have hi : pre.length < (pre ++ [x] ++ t).length := by first | (simp; done) | (simp; omega)
  have h1 := valAt_prefix (es := es) (acc := acc) hn hi
  have e1 : (pre ++ [x] ++ t).take pre.length = pre := by simp
  have e2 : (pre ++ [x] ++ t)[pre.length] = x := by simp
  rw [e1, e2] at h1
  rw [h1]
  have h2 := List.getElem_of_eq h.2.1 (i := pre.length) (by unfold movedL; first | (simp; done) | (simp; omega))
  rw [← h2, movedL_at (by first | (simp; done) | (simp; omega))]
  simp
theorem movedL_ok {want : List Int} {own : List BOk} {es : List Entry} {acc : Int} (hn : (stays (own.map (·.1))).Nodup) (hl : want.length = own.length) (h : valsOk es acc want own) : movedL (own.map (·.1)) es acc = want := by
  refine List.ext_getElem (by unfold movedL; simp [hl]) fun i h1 h2 => ?_
  have hi : i < own.length := by omega
  rw [movedL_at (by simpa using hi), List.getElem_map, ← h i hi h2, valAt_prefix hn hi]
theorem agrees_left {want st : List Int} {own : List Bill} {es : List Entry} {acc r : Int} (h1 : r ∉ stays own) (h2 : movedR es acc r ≠ 0) : agrees want st own es acc = false := by
  obtain ⟨e, he, hr, ht⟩ := movedR_touch h2
  refine agrees_no fun h => ?_
  subst hr
  rcases h.2.2 e he with h | h | h
  · rcases ht with t | t
    · exact h.1 t
    · exact h.2 t
  · exact h1 h
  · exact h2 h
theorem agrees_done {want st : List Int} {own : List Bill} {es : List Entry} {acc : Int} (h1 : movedL own es acc = want) (h2 : ∀ r, r ∉ stays own → movedR es acc r = 0) : agrees want st own es acc = decide (want = st) := by
  unfold agrees
  rw [Bool.eq_iff_iff, decide_eq_true_eq, decide_eq_true_eq]
  refine ⟨fun h => h.1, fun h => ⟨h, h1, fun e _ => ?_⟩⟩
  by_cases hs : e.ref ∈ stays own
  · exact .inr (.inl hs)
  · exact .inr (.inr (h2 _ hs))
end Go.Proofs.YtmlhoojcdidgkaaGreat

/-
  Package commission: whether a statement and a ledger agree: the ways out ahead of the loops.
-/
namespace Go.Proofs.YtmlhoojcdidgkaaGreat
set_option linter.unusedSimpArgs false
set_option linter.unusedVariables false
open Go.RowKit Go.Maps Go.Shelf
open Go.Sort (grow size_grow)

set_option maxHeartbeats 4000000
set_option maxRecDepth 100000
theorem cagrees_err (p d : Int) (l : List Bill) (A : Option Addr) (c : Nat) (ch : Int) (st : List Int) (B : Option Addr) (cB : Nat) (es : List Entry) (E : Option Addr) (cE : Nat) (w : World) (er : Int)
    (hs : SlBill w A l) (hl0 : l.length ≤ maxLen) (hr : stmtR p d l ch = ([], 0, er)) (her : er = 1 ∨ er = 2 ∨ er = 3) :
    Calls Tryz.prog 42 #[.agg #[.int .i64 p, .int .i64 d], .slice A l.length c, .int .i64 ch, .slice B st.length cB, .slice E es.length cE] w fun e w' => RetBE (agreesR p d l ch st es) e ∧ Below w.heap.size w w' := by
  have hne : (er != 0) = true := by rw [bne_iff_ne]; omega
  have hR : agreesR p d l ch st es = (false, er) := by unfold agreesR; rw [hr, if_pos (by simp only; omega)]
  have HR := Lib.hid hr
  have HA := Lib.hid hR
  clear hr hR her
  go_enter Tryz.func42, Tryz.ntmps42
  go_wp2_with fail
  refine (cstmt_lit HR.out A c _ (hs.up (by repeat' (first | (with_reducible exact Below.refl _ _) | (with_reducible assumption) | (with_reducible refine below_drewN ?_ _) | (with_reducible refine Below.drew ?_) | (with_reducible refine below_regrown_up _ _ ?_ ?_) | (with_reducible refine Below.alloc ?_ ?_ _) | (with_reducible refine Below.setCell ?_ ?_ _) | (with_reducible refine below_up ?_ ?_ (by assumption)) | (with_reducible exact Nat.le_refl _) | omega | (simp; done) | (simp; omega)))) hl0).mono ?_
  rintro e w1 ⟨⟨A1, c1', rfl, hs1⟩, hb1⟩
  have hz1 := hb1.size
  simp only [World.size_alloc] at hz1
  obtain ⟨hc1, hf1⟩ := bcellB (B := w.heap.size + 1 + 1 + 1) hb1 (by simp)
  have hlt1 : w.heap.size + 1 < w1.heap.size := by omega
  have hlt2 : w.heap.size + 1 + 1 < w1.heap.size := by omega
  go_wp2_with fail
  refine bodyPost_ret (v := .tuple #[.bool false, .int .i64 er]) ?_ rfl ⟨?_, ?_⟩
  · have d0 : (((w1.setCell ⟨w.heap.size + 1, 0, none⟩ (.bool false)).setCell ⟨w.heap.size + 1 + 1, 0, none⟩ (.int .i64 er)).alloc (.cells #[.slice A1 0 c1'] 32)).cell? ⟨w.heap.size + 1, 0, none⟩ = some (.bool false) := by go_simp
    have d1 : (((w1.setCell ⟨w.heap.size + 1, 0, none⟩ (.bool false)).setCell ⟨w.heap.size + 1 + 1, 0, none⟩ (.int .i64 er)).alloc (.cells #[.slice A1 0 c1'] 32)).cell? ⟨w.heap.size + 1 + 1, 0, none⟩ = some (.int .i64 er) := by go_simp
    simp [results, Tryz.results42, go_sem, d0, d1]
  · rw [HA.out]; rfl
  · repeat' (first
      | (with_reducible exact Below.refl _ _)
      | (with_reducible assumption)
      | (with_reducible refine below_drewN ?_ _)
      | (with_reducible refine Below.drew ?_)
      | (with_reducible refine below_regrown_up _ _ ?_ ?_)
      | (with_reducible refine Below.alloc ?_ ?_ _)
      | (with_reducible refine Below.setCell ?_ ?_ _)
      | (with_reducible refine below_up ?_ ?_ (by assumption))
      | (with_reducible exact Nat.le_refl _)
      | omega
      | (simp; done)
      | (simp; omega))
theorem cagrees_bad (p d : Int) (l : List Bill) (A : Option Addr) (c : Nat) (ch : Int) (st : List Int) (B : Option Addr) (cB : Nat) (es : List Entry) (E : Option Addr) (cE : Nat) (w : World)
    (hs : SlBill w A l) (hl0 : l.length ≤ maxLen) (hse : SlEnt w E es) (hse0 : es.length ≤ 140737488355328) (R : List Int) (s : Int) (hr : stmtR p d l ch = (R, s, 0)) (hk : ledOk es = false) :
    Calls Tryz.prog 42 #[.agg #[.int .i64 p, .int .i64 d], .slice A l.length c, .int .i64 ch, .slice B st.length cB, .slice E es.length cE] w fun e w' => RetBE (agreesR p d l ch st es) e ∧ Below w.heap.size w w' := by
  have hR : agreesR p d l ch st es = (false, 1) := by unfold agreesR; rw [hr, hk]; simp
  have HR := Lib.hid hr
  have HA := Lib.hid hR
  clear hr hR
  go_enter Tryz.func42, Tryz.ntmps42
  go_wp2_with fail
  refine (cstmt_lit HR.out A c _ (hs.up (by repeat' (first | (with_reducible exact Below.refl _ _) | (with_reducible assumption) | (with_reducible refine below_drewN ?_ _) | (with_reducible refine Below.drew ?_) | (with_reducible refine below_regrown_up _ _ ?_ ?_) | (with_reducible refine Below.alloc ?_ ?_ _) | (with_reducible refine Below.setCell ?_ ?_ _) | (with_reducible refine below_up ?_ ?_ (by assumption)) | (with_reducible exact Nat.le_refl _) | omega | (simp; done) | (simp; omega)))) hl0).mono ?_
  rintro e w1 ⟨⟨A1, c1', rfl, hs1⟩, hb1⟩
  have hz1 := hb1.size
  simp only [World.size_alloc] at hz1
  obtain ⟨hc1, hf1⟩ := bcellB (B := w.heap.size + 1 + 1 + 1) hb1 (by simp)
  have hlt1 : w.heap.size + 1 < w1.heap.size := by omega
  have hlt2 : w.heap.size + 1 + 1 < w1.heap.size := by omega
  have hB1 : Below w.heap.size w w1 := (by repeat' (first | (with_reducible exact Below.refl _ _) | (with_reducible assumption) | (with_reducible refine below_drewN ?_ _) | (with_reducible refine Below.drew ?_) | (with_reducible refine below_regrown_up _ _ ?_ ?_) | (with_reducible refine Below.alloc ?_ ?_ _) | (with_reducible refine Below.setCell ?_ ?_ _) | (with_reducible refine below_up ?_ ?_ (by assumption)) | (with_reducible exact Nat.le_refl _) | omega | (simp; done) | (simp; omega)))
  go_wp2_with fail
  refine (lvalid_any es E cE _ (hse.up (hB1.alloc (by omega) _)) hse0).mono ?_
  rintro e w2 ⟨rfl, hb2⟩; have hz2 := hb2.size; (try simp only [World.size_alloc, World.size_setCell, World.size_drew, size_drewN', size_grow, size_redrawn] at hz2); obtain ⟨hc2, hf2⟩ := bcellB (B := w.heap.size + 1 + 1 + 1) hb2 (by first | omega | (simp only [World.size_alloc, World.size_setCell, World.size_drew, size_drewN', size_grow, size_redrawn]; omega))
  rw [hk]
  go_wp2_with fail
  refine bodyPost_ret (v := .tuple #[.bool false, .int .i64 1]) ?_ rfl ⟨?_, ?_⟩
  · have d0 : ((w2.setCell ⟨w.heap.size + 1, 0, none⟩ (.bool false)).setCell ⟨w.heap.size + 1 + 1, 0, none⟩ (.int .i64 1)).cell? ⟨w.heap.size + 1, 0, none⟩ = some (.bool false) := by go_simp
    have d1 : ((w2.setCell ⟨w.heap.size + 1, 0, none⟩ (.bool false)).setCell ⟨w.heap.size + 1 + 1, 0, none⟩ (.int .i64 1)).cell? ⟨w.heap.size + 1 + 1, 0, none⟩ = some (.int .i64 1) := by go_simp
    simp [results, Tryz.results42, go_sem, d0, d1]
  · rw [HA.out]; rfl
  · repeat' (first
      | (with_reducible exact Below.refl _ _)
      | (with_reducible assumption)
      | (with_reducible refine below_drewN ?_ _)
      | (with_reducible refine Below.drew ?_)
      | (with_reducible refine below_regrown_up _ _ ?_ ?_)
      | (with_reducible refine Below.alloc ?_ ?_ _)
      | (with_reducible refine Below.setCell ?_ ?_ _)
      | (with_reducible refine below_up ?_ ?_ (by assumption))
      | (with_reducible exact Nat.le_refl _)
      | omega
      | (simp; done)
      | (simp; omega))
end Go.Proofs.YtmlhoojcdidgkaaGreat
