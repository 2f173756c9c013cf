/-
  Texts, one behind the other: FoP, Com4, Com5, Round, Com6.
-/
import Derived.Test.YtmlhoojcdidgkaaM05
import Derived.Test.YtmlhoojcdidgkaaM08
import Derived.Test.YtmlhoojcdidgkaaM03
import Derived.Test.YtmlhoojcdidgkaaM06
import Derived.OrdersIn
/-
  Folio: what deeds do, in plain Lean (no Go in sight).
-/
namespace Go.Proofs.Ytmlhoojcdidgkaa
set_option linter.unusedSimpArgs false
set_option linter.unusedVariables false
set_option maxHeartbeats 1000000
structure Deed where
  kind : Int
  day : Int
  stay : Int
  cents : Int
deriving DecidableEq
def Deed.cs (x : Deed) : List Value := [.int .i64 x.kind, .int .i64 x.day, .int .i64 x.stay, .int .i64 x.cents]
abbrev Deed.v (x : Deed) : Value := .agg #[.int .i64 x.kind, .int .i64 x.day, .int .i64 x.stay, .int .i64 x.cents]
/-- A bill with its state, and what was paid. -/
structure Acc where
  b : Bill
  st : Int
  paid : Int
structure Crs where
  day : Int
  es : List Entry
  ac : List Acc
structure Env where
  ts : List Tax
  p : Int
  d : Int
  k : Con
def sgn (a : Int) (e : Entry) : Int := if e.debit = a then e.cents else if e.credit = a then -e.cents else 0
def sumE (a : Int) (q : Entry → Bool) (l : List Entry) : Int := (l.map fun e => if q e = true then sgn a e else 0).sum
theorem sumE_nil (a : Int) (q : Entry → Bool) : sumE a q [] = 0 := rfl
theorem sumE_snoc (a : Int) (q : Entry → Bool) (l : List Entry) (e : Entry) : sumE a q (l ++ [e]) = sumE a q l + if q e = true then sgn a e else 0 := by
  unfold sumE
  rw [List.map_append, List.sum_append]
  simp
theorem sumE_append (a : Int) (q : Entry → Bool) (l m : List Entry) : sumE a q (l ++ m) = sumE a q l + sumE a q m := by
  unfold sumE
  rw [List.map_append, List.sum_append]
def CentsOk (l : List Entry) : Prop := ∀ e ∈ l, 1 ≤ e.cents ∧ e.cents ≤ 1000000000
theorem sgn_bd {a : Int} {e : Entry} (h : 1 ≤ e.cents ∧ e.cents ≤ 1000000000) : -1000000000 ≤ sgn a e ∧ sgn a e ≤ 1000000000 := by
  unfold sgn
  split
  · omega
  · split <;> omega
theorem sumE_bd {a : Int} {q : Entry → Bool} : ∀ {l : List Entry}, CentsOk l → -(1000000000 * (l.length : Int)) ≤ sumE a q l ∧ sumE a q l ≤ 1000000000 * (l.length : Int)
  | [], _ => by simp [sumE]
  | e :: l, h => by
    have h1 := sumE_bd (a := a) (q := q) (l := l) fun x hx => h x (by simp [hx])
    have h2 := sgn_bd (a := a) (h e (by simp))
    have h3 : sumE a q (e :: l) = (if q e = true then sgn a e else 0) + sumE a q l := by unfold sumE; simp
    rw [h3, List.length_cons]
    split <;> omega
def guestA (s : Int) : Int := 500 + s % 100
def Bill.direct (b : Bill) : Bool := b.channel == 0
def payerA (b : Bill) : Int := if b.direct = true then guestA b.stay else 200 + b.channel
def comesR (ts : List Tax) (b : Bill) : Option (Int × Int) := if (allT ts b).2.2 = 0 then some ((allT ts b).2.1, min (b.price + (allT ts b).2.1) 1000000000) else none
def mvE (day frm tgt cents ref : Int) (l : List Entry) : List Entry := if 0 < cents then l ++ [⟨day, tgt, frm, cents, ref⟩] else l
def ownE (b : Bill) (e : Entry) : Bool := !b.direct || (e.ref == b.stay)
/-- What is left to be paid, or an error. -/
def mostR (V : Env) (es : List Entry) (a : Acc) : Except Int Int :=
  if a.st = 3 then .ok (sumE (payerA a.b) (ownE a.b) es) else match comesR V.ts a.b with | none => .error 3 | some (_, c) => .ok (c - a.paid)
def payD (V : Env) (es : List Entry) (a : Acc) (x : Deed) : Except Int (List Entry × Acc) :=
  match mostR V es a with
  | .error e => .error e
  | .ok m => if m < x.cents then .error 41 else .ok (mvE x.day (payerA a.b) 900 x.cents a.b.stay es, { a with paid := a.paid + x.cents })
def voucherD (V : Env) (es : List Entry) (a : Acc) (x : Deed) : Except Int (List Entry × Acc) :=
  match comesR V.ts a.b with
  | none => .error 3
  | some (_, c) => .ok (mvE x.day (guestA a.b.stay) 600 (min x.cents (c - a.paid)) a.b.stay es, { a with paid := a.paid + min x.cents (c - a.paid) })
def cancelD (es : List Entry) (a : Acc) (x : Deed) : List Entry × Acc :=
  (if a.b.direct = true then es ++ (entriesR a.b a.paid x.day).1 else mvE x.day (300 + a.b.place) (payerA a.b) a.b.keep a.b.stay es, { a with st := 4 })
def leaveD (V : Env) (es : List Entry) (a : Acc) (x : Deed) : Except Int (List Entry × Acc) :=
  match comesR V.ts a.b with
  | none => .error 3
  | some (n, _) => .ok (mvE x.day (300 + a.b.place) (700 + a.b.channel) (oneR V.p V.d a.b).1 a.b.stay (mvE x.day (400 + a.b.place) (payerA a.b) n a.b.stay (mvE x.day (300 + a.b.place) (payerA a.b) a.b.price a.b.stay es)), { a with st := 3 })
def walkD (V : Env) (es : List Entry) (a : Acc) (x : Deed) : Except Int (List Entry × Acc) :=
  if (payR V.k a.b.price).2 ≠ 0 then .error 3 else .ok (mvE x.day 900 800 (payR V.k a.b.price).1 a.b.stay (mvE x.day 900 (guestA a.b.stay) a.paid a.b.stay es), { a with st := 5 })
def backD (es : List Entry) (a : Acc) (x : Deed) : Except Int (List Entry × Acc) :=
  if a.paid < x.cents then .error 41 else .ok (mvE x.day 900 (guestA a.b.stay) x.cents a.b.stay es, { a with paid := a.paid - x.cents })
def ruleS (k : Int) : List Int := if k = 1 then [0] else if k = 2 then [1, 2, 3] else if k = 3 then [1] else if k = 4 then [1] else if k = 5 then [2] else if k = 6 then [1] else if k = 7 then [1, 2, 3] else [1, 2]
def ruleD (k : Int) : Bool := (k == 7) || (k == 8)
def statedD (a : Acc) (k : Int) : Bool := decide (a.st ∈ ruleS k) && !((ruleD k || ((k == 2) && (a.st != 3))) && !a.b.direct)
def deedD (V : Env) (es : List Entry) (a : Acc) (x : Deed) : Except Int (List Entry × Acc) :=
  if x.kind = 1 then .ok (es, { a with st := 1 }) else if x.kind = 2 then payD V es a x else if x.kind = 3 then .ok (cancelD es a x) else if x.kind = 4 then .ok (es, { a with st := 2 })
  else if x.kind = 5 then leaveD V es a x else if x.kind = 6 then walkD V es a x else if x.kind = 7 then backD es a x else voucherD V es a x
def idxA (l : List Acc) (s : Int) : Option Nat := l.findIdx? fun a => a.b.stay == s
def brokeD (c : Crs) (x : Deed) : Except Int Crs :=
  if 1000000000 < sumE (200 + x.stay) (fun _ => true) c.es then .error 3 else .ok { c with es := mvE c.day (200 + x.stay) (800 + x.stay) (sumE (200 + x.stay) (fun _ => true) c.es) 0 c.es }
def stepD (V : Env) (c : Crs) (x : Deed) : Except Int Crs :=
  if x.kind = 9 then brokeD c x else
  match idxA c.ac x.stay with
  | none => .error 4
  | some i => match c.ac[i]? with
    | none => .error 4
    | some a => if statedD a x.kind = true then (match deedD V c.es a x with | .error e => .error e | .ok r => .ok { c with es := r.1, ac := c.ac.set i r.2 }) else .error 6
def formedD (day : Int) (x : Deed) : Bool :=
  inB x.kind 1 9 && inB x.day day 366 && (if x.kind = 2 ∨ x.kind = 8 ∨ x.kind = 7 then inB x.cents 1 1000000000 else if x.kind = 9 then inB x.stay 1 29 else true)
def runD (V : Env) (s : Crs × List Int) (x : Deed) : Crs × List Int :=
  if formedD s.1.day x = true then (match stepD V { s.1 with day := x.day } x with | .error e => (s.1, s.2 ++ [e]) | .ok c => (c, s.2 ++ [0])) else (s.1, s.2 ++ [1])
def crs0 (bills : List Bill) : Crs := ⟨0, [], bills.map fun b => ⟨b, 0, 0⟩⟩
def runAll (V : Env) (bills : List Bill) (l : List Deed) : Crs × List Int := l.foldl (runD V) (crs0 bills, [])
def runOk (V : Env) (bills : List Bill) : Bool := partOk V.p V.d && billsOk bills && decide (bills.length ≤ 3000) && conOk V.k && taxesOk V.ts
def runR (V : Env) (bills : List Bill) (l : List Deed) : List Entry × List Int × Int :=
  if 500 < l.length then ([], [], 2) else if runOk V bills = true then ((runAll V bills l).1.es, (runAll V bills l).2, 0) else ([], [], 1)
/-! ### What holds of a course -/
structure AccOk (a : Acc) (n : Nat) : Prop where
  b : a.b.ok = true
  st : 0 ≤ a.st ∧ a.st ≤ 5
  paid : 0 ≤ a.paid ∧ a.paid ≤ 1000000000 * (n : Int)
  early : a.st ≠ 3 → a.paid ≤ 1000000000
structure CrsOk (c : Crs) (n : Nat) : Prop where
  day : 0 ≤ c.day ∧ c.day ≤ 366
  es : ∀ e ∈ c.es, e.ok = true ∧ e.day ≤ c.day
  rises : Rises c.es
  len : c.es.length ≤ 3 * n
  ac : ∀ a ∈ c.ac, AccOk a n
  stays : (c.ac.map fun a => a.b.stay).Nodup
theorem CrsOk.cents {c : Crs} {n : Nat} (h : CrsOk c n) : CentsOk c.es := fun e he => (Entry.ok_iff.1 (h.es e he).1).2.2.2.2.1
/-- Entries of a day, behind those of before. -/
structure EsOk (day : Int) (l : List Entry) : Prop where
  es : ∀ e ∈ l, e.ok = true ∧ e.day ≤ day
  rises : Rises l
theorem EsOk.snoc {day : Int} {l : List Entry} (h : EsOk day l) {e : Entry} (he : e.ok = true) (hd : e.day = day) : EsOk day (l ++ [e]) := by
  refine ⟨fun x hx => ?_, ?_⟩
  · rcases List.mem_append.1 hx with hx | hx
    · exact h.es x hx
    · obtain rfl : x = e := by simpa using hx
      exact ⟨he, by omega⟩
  · refine List.pairwise_append.2 ⟨h.rises, by simp, fun x hx y hy => ?_⟩
    obtain rfl : y = e := by simpa using hy
    have := (h.es x hx).2
    omega
theorem EsOk.mv {day frm tgt cents ref : Int} {l : List Entry} (h : EsOk day l) (d0 : 0 ≤ day ∧ day ≤ 366) (h1 : 100 ≤ frm ∧ frm ≤ 999) (h2 : 100 ≤ tgt ∧ tgt ≤ 999) (hne : tgt ≠ frm) (hc : cents ≤ 1000000000) (hr : 0 ≤ ref ∧ ref ≤ 1000000) : EsOk day (mvE day frm tgt cents ref l) := by
  unfold mvE
  split
  · next h0 => exact h.snoc (Entry.ok_iff.2 ⟨d0, h2, h1, hne, ⟨(by show 1 ≤ cents; omega), hc⟩, hr⟩) rfl
  · exact h
theorem mvE_len (day frm tgt cents ref : Int) (l : List Entry) : (mvE day frm tgt cents ref l).length ≤ l.length + 1 := by
  unfold mvE
  split
  · simp
  · omega
theorem payer_bd {b : Bill} (h : b.ok = true) : (200 ≤ payerA b ∧ payerA b ≤ 229) ∨ (500 ≤ payerA b ∧ payerA b ≤ 599) := by
  have := Bill.ok_iff.1 h
  unfold payerA guestA
  split <;> omega
theorem guest_bd (s : Int) : 500 ≤ guestA s ∧ guestA s ≤ 599 := by unfold guestA; omega
theorem ones_nn (ts : List Tax) (b : Bill) : 0 ≤ (ts.map fun t => (one t b).1).sum := by
  induction ts with
  | nil => simp
  | cons t ts ih =>
    rw [List.map_cons, List.sum_cons]
    have := (one_bd t b).1
    omega
theorem comes_bd {ts : List Tax} {b : Bill} {n c : Int} (hb : b.ok = true) (h : comesR ts b = some (n, c)) : 0 ≤ n ∧ n ≤ 1000000000 ∧ 0 ≤ c ∧ c ≤ 1000000000 := by
  have hb2 := (Bill.ok_iff.1 hb).2.2.2.2.2.2.1
  unfold comesR at h
  split at h
  · next h0 =>
    injection h with h
    injection h with h1 h2
    have hn : 0 ≤ (allT ts b).2.1 ∧ (allT ts b).2.1 ≤ 1000000000 := by
      unfold allT at h0 ⊢
      split
      · simp
      · split
        · simp
        · split
          · simp
          · next hs =>
            refine ⟨?_, by simp only; omega⟩
            exact ones_nn ts b
    omega
  · cases h
end Go.Proofs.Ytmlhoojcdidgkaa

/-
  Package commission: the reference's statement.
-/
namespace Go.Proofs.Ytmlhoojcdidgkaa
set_option linter.unusedSimpArgs false
set_option linter.unusedVariables false
open Go.RowKit Go.Maps
open Go.Sort (grow size_grow)

set_option maxHeartbeats 4000000
set_option maxRecDepth 100000
end Go.Proofs.Ytmlhoojcdidgkaa

/-
  Package commission: the iterator over the bills of a channel.
-/
namespace Go.Proofs.Ytmlhoojcdidgkaa
set_option linter.unusedSimpArgs false
set_option linter.unusedVariables false
open Go.RowKit Go.Maps Go.Shelf
open Go.Sort (grow size_grow)

set_option maxHeartbeats 4000000
set_option maxRecDepth 100000
attribute [local go_sem] Oper.semAt_some
abbrev BOk := { b : Bill // b.ok = true }
theorem bok_of : ∀ {l : List Bill}, (∀ b ∈ l, b.ok = true) → ∃ L : List BOk, L.map (·.1) = l
  | [], _ => ⟨[], rfl⟩
  | b :: l, h => by
    obtain ⟨L, hL⟩ := bok_of (l := l) (fun x hx => h x (by simp [hx]))
    exact ⟨⟨b, h b (by simp)⟩ :: L, by rw [List.map_cons, hL]⟩
def ofB (L : List BOk) (ch : Int) : List BOk := L.filter fun b => b.1.channel == ch
theorem ofB_step {L : List BOk} {ch : Int} {j : Nat} (h : j < L.length) : ofB (L.take (j + 1)) ch = if L[j].1.channel = ch then ofB (L.take j) ch ++ [L[j]] else ofB (L.take j) ch := by
  unfold ofB
  rw [List.take_succ_eq_append_getElem h, List.filter_append]
  by_cases hd : L[j].1.channel = ch
  · rw [if_pos hd]; simp [hd]
  · rw [if_neg hd]; simp [hd]
theorem ofB_map (L : List BOk) (ch : Int) : (ofB L ch).map (·.1) = ofCh (L.map (·.1)) ch := by
  unfold ofB ofCh
  rw [List.filter_map]
  rfl
theorem ofB_prefix (L : List BOk) (ch : Int) (k : Nat) : ofB (L.take k) ch <+: ofB L ch := (List.take_prefix k L).filter _
theorem of1_in (n : Nat) (hn : 1 ≤ n) (l B1 B2 : Nat) (X : Nat → Prop) (L : List BOk) (D : Int) (A : Option Addr) (c : Nat) (J Jx : List BOk → World → Prop) (W : World)
    (hX1 : X B1) (hX2 : X B2) (hXA : L ≠ [] → ∀ bk off, A = some ⟨bk, off, none⟩ → X bk) (hXs : ∀ k, X k → k < W.heap.size) (hJ : AbidesFrom W.heap.size J)
    (hY : ∀ pre x W1, J pre W1 → pre.length < (ofB L D).length → YieldAt Fence.wide (n - 1) Try.prog l #[x.1.v] W1 fun e W' =>
      (e = .returned (.bool true) ∧ J (pre ++ [x]) W' ∧ KeepOn X W1 W' ∧ W1.heap.size ≤ W'.heap.size) ∨ (e = .returned (.bool false) ∧ Jx (pre ++ [x]) W'))
    (c1 : W.cell? ⟨B1, 0, none⟩ = some (.slice A L.length c)) (c2 : W.cell? ⟨B2, 0, none⟩ = some (.int .i64 D))
    (hs : Sl W W.heap.size 9 Bill.cs A (L.map (·.1))) (hl : L.length ≤ 140737488355328) (h0 : J [] W) :
    CallsIn Fence.wide n Try.prog 77 #[.func (.yield l) #[] #[], .pointer (some ⟨B1, 0, none⟩), .pointer (some ⟨B2, 0, none⟩)] W fun e W' => (∃ v, e = .returned v) ∧
      ((∃ xs, xs = ofB L D ∧ J xs W') ∨ (∃ pre, pre <+: ofB L D ∧ Jx pre W')) := by
  have HY := Lib.hid hY
  have HXA := Lib.hid hXA
  have HXs := Lib.hid hXs
  have HC2 := Lib.hid c2
  clear hY hXA hXs c2
  refine callsIn_of_wp Try.func77 rfl trivial ?_ rfl
  simp only [Try.ntmps77, List.size_toArray, List.length_cons, List.length_nil, Nat.reduceAdd, Nat.reduceSub, Array.replicate_succ, Array.replicate_zero, List.push_toArray, List.append_toArray, List.nil_append, List.cons_append]
  gi_wp2
  gi_loopw [8] (fun i wr => ∃ k : Nat, k ≤ L.length ∧ i = .int .i64 k ∧ J (ofB (L.take k) D) wr ∧ KeepOn X W wr ∧ W.heap.size ≤ wr.heap.size) (fun i _ => L.length - (intOf i).toNat)
  case atStart => exact ⟨0, Nat.zero_le _, rfl, h0, KeepOn.refl _ _, Nat.le_refl _⟩
  case round =>
    obtain ⟨k, hk, rfl, hJs, hnx, hsz⟩ := hrel
    by_cases hlt : k < L.length
    · have hne : L ≠ [] := by rintro rfl; simp at hlt
      obtain ⟨bk, off, rfl, hbl, hcell⟩ := (hs.keepOn hnx (fun _ => HXA.out hne)).at_ (k := k) (by simpa using hlt)
      rw [List.getElem_map] at hcell
      have q0 := hcell 0 _ rfl
      have q1 := hcell 1 _ rfl
      have q2 := hcell 2 _ rfl
      have q3 := hcell 3 _ rfl
      have q4 := hcell 4 _ rfl
      have q5 := hcell 5 _ rfl
      have q6 := hcell 6 _ rfl
      have q7 := hcell 7 _ rfl
      have q8 := hcell 8 _ rfl
      rw [Nat.add_zero] at q0
      have HNE := Lib.hid hne
      clear hcell hne
      have hc2 : wr.cell? ⟨B2, 0, none⟩ = some (.int .i64 D) := (hnx.cell (p := ⟨B2, 0, none⟩) hX2).trans HC2.out
      have hB2 : B2 < wr.heap.size := by have := HXs.out _ hX2; omega
      have hbw : bk < wr.heap.size := by omega
      have hx1 : (k : Int) < (L.length : Int) := by omega
      have hx4 : (0 : Int) ≤ (k : Int) := by omega
      have hJa : J (ofB (L.take k) D) (wr.alloc (.cells #[.int .i64 L[k].1.stay, .int .i64 L[k].1.channel, .int .i64 L[k].1.place, .int .i64 L[k].1.kind, .int .i64 L[k].1.frm, .int .i64 L[k].1.til, .int .i64 L[k].1.persons, .int .i64 L[k].1.price, .int .i64 L[k].1.keep] 44)) := abides_alloc hJ hJs _
      have hk1 : KeepOn X W (wr.alloc (.cells #[.int .i64 L[k].1.stay, .int .i64 L[k].1.channel, .int .i64 L[k].1.place, .int .i64 L[k].1.kind, .int .i64 L[k].1.frm, .int .i64 L[k].1.til, .int .i64 L[k].1.persons, .int .i64 L[k].1.price, .int .i64 L[k].1.keep] 44)) := hnx.alloc (fun i hi => by have := HXs.out i hi; omega) _
      have HK1 := Lib.hid hk1
      have hst := ofB_step (ch := D) hlt
      clear hk1
      by_cases hd : L[k].1.channel = D
      · have hb : (L[k].1.channel == D) = true := by simpa using hd
        rw [if_pos hd] at hst
        have hln : (ofB (L.take k) D).length < (ofB L D).length := by
          have := (ofB_prefix L D (k + 1)).length_le
          rw [hst, List.length_append] at this
          simp at this
          omega
        obtain ⟨fn, tmps, assign, body, hy, hR⟩ := HY.out _ L[k] _ hJa (by omega)
        have HSN := Lib.hid hst
        clear hst hd hln
        dsimp only [Bill.v] at hy
        gi_wp2
        refine hR.mono ?_
        rintro e W3 (⟨rfl, hJ3, hk3, hz3⟩ | ⟨rfl, hJx3⟩)
        · rw [World.size_alloc] at hz3
          gi_wp2
          go_roundw
          case rel => exact ⟨k + 1, by omega, by simp, by rw [HSN.out]; exact hJ3, HK1.out.trans hk3, by omega⟩
          case measure => simp [intOf]; omega
        · gi_wp2
          refine bodyPost_ret (results_none rfl _ _ _) rfl ?_
          exact ⟨⟨_, rfl⟩, .inr ⟨_, by rw [← HSN.out]; exact ofB_prefix L D _, hJx3⟩⟩
      · have hb : (L[k].1.channel == D) = false := by simpa using hd
        rw [if_neg hd] at hst
        have HSN := Lib.hid hst
        clear hst hd
        gi_wp2
        refine ⟨fun _ h => (by cases h), ?_⟩
        gi_wp2
        go_roundw
        case rel => exact ⟨k + 1, by omega, by simp, by rw [HSN.out]; exact hJa, HK1.out, by simp; omega⟩
        case measure => simp [intOf]; omega
    · obtain rfl : k = L.length := by omega
      gi_wp2
      go_end0
      refine ⟨⟨_, rfl⟩, .inl ⟨_, ?_, hJs⟩⟩
      rw [List.take_of_length_le (Nat.le_refl _)]
theorem of_any (A : Option Addr) (n c : Nat) (D : Int) (w : World) :
    Calls Try.prog 54 #[.slice A n c, .int .i64 D] w fun e w' => e = .returned (.func (.func 77) #[] #[.pointer (some ⟨w.heap.size, 0, none⟩), .pointer (some ⟨w.heap.size + 1, 0, none⟩)]) ∧ w' = (w.alloc (.cells #[.slice A n c] 22)).alloc (.cells #[.int .i64 D] 3) := by
  go_enter Try.func54, Try.ntmps54
  go_wp2
  go_ret
  exact ⟨rfl, rfl⟩
theorem of_stops (n : Nat) (hn : 1 ≤ n) (B1 B2 : Nat) (X : Nat → Prop) (L : List BOk) (D : Int) (A : Option Addr) (c : Nat) (w0 : World)
    (hX1 : X B1) (hX2 : X B2) (hXA : L ≠ [] → ∀ bk off, A = some ⟨bk, off, none⟩ → X bk) (hXs : ∀ k, X k → k < w0.heap.size)
    (c1 : w0.cell? ⟨B1, 0, none⟩ = some (.slice A L.length c)) (c2 : w0.cell? ⟨B2, 0, none⟩ = some (.int .i64 D))
    (hs : Sl w0 w0.heap.size 9 Bill.cs A (L.map (·.1))) (hl : L.length ≤ 140737488355328) :
    SeqStopsK Fence.wide n Try.prog 77 #[.pointer (some ⟨B1, 0, none⟩), .pointer (some ⟨B2, 0, none⟩)] (fun x : BOk => #[x.1.v]) (fun P Q => KeepOn X P Q ∧ P.heap.size ≤ Q.heap.size)
      (fun xs => xs = ofB L D) (fun pre => pre <+: ofB L D) (ofB L D).length w0 := fun l J Jx W hW hJ _ hY h0 =>
  of1_in n hn l B1 B2 X L D A c J Jx W hX1 hX2 hXA (fun k hk => Nat.lt_of_lt_of_le (hXs k hk) hW.size) hJ
    (fun pre x W1 h1 h2 => (hY pre x W1 h1 h2).mono fun e W' h => h)
    ((hW.cell (p := ⟨B1, 0, none⟩) (hXs _ hX1)).trans c1) ((hW.cell (p := ⟨B2, 0, none⟩) (hXs _ hX2)).trans c2)
    ((hs.below hW).more hW.size) hl h0
end Go.Proofs.Ytmlhoojcdidgkaa

/-
  A region that draws its order, inside a round of a range over a function: as outside of it, where no operation defers.
-/
namespace Go.Proofs.Ytmlhoojcdidgkaa
set_option linter.unusedSimpArgs false
set_option linter.unusedVariables false
open Go.RowKit
def noDefer (ops : Array Oper) : Bool := ops.toList.all fun o => match o.op with | .defer _ => false | _ => true
theorem noDefer_at {ops : Array Oper} (h : noDefer ops = true) {i : Nat} {o : Oper} (ho : ops[i]? = some o) : ∀ c, o.op ≠ .defer c := by
  intro c e
  have hm : o ∈ ops.toList := by
    rw [← Array.getElem?_toList] at ho
    exact List.mem_of_getElem? ho
  have := List.all_eq_true.1 h o hm
  rw [e] at this
  cases this
theorem wpIn_round {F : Fence} {n l : Nat} {P : Program} {o : Oper} {a : Act} {w : World} {K : Act → World → Prop} {Q : Exit → Act → World → Prop} (hd : ∀ c, o.op ≠ .defer c) (h : o.wpIn F n P a w K Q) : o.wpIn (F.inRound l) n P a w K Q := by
  unfold Oper.wpIn at *
  refine ⟨h.1, ?_⟩
  have h2 := h.2
  rw [Oper.semAt_eq _ _ _ hd] at h2 ⊢
  generalize (execOp a.eval o).run P w = r at *
  cases r with
  | ok x w' => cases x <;> exact h2
  | halt x w' => cases x <;> exact h2
theorem wpAnyIn_round {F : Fence} {n l : Nat} {P : Program} {md : Region.Mode} {ops : Array Oper} {Q : Exit → Act → World → Prop} (hd : noDefer ops = true) : ∀ (fuel : Nat) (listed : Array Bool) (a : Act) (w : World),
    wpAnyIn F n P md ops Q fuel listed a w → wpAnyIn (F.inRound l) n P md ops Q fuel listed a w
  | 0, _, _, _, h => h
  | fuel + 1, listed, a, w, h => by
    refine ⟨h.1, fun i hi => ?_⟩
    have h2 := h.2 i hi
    unfold wpOpIn at *
    split
    · rename_i hn
      rw [hn] at h2
      exact wpAnyIn_round hd fuel _ _ _ h2
    · rename_i o ho
      rw [ho] at h2
      simp only at h2
      split
      · rename_i hw
        rw [if_pos hw] at h2
        exact wpIn_round (noDefer_at hd ho) (Oper.wpIn_mono (fun a w h => wpAnyIn_round hd fuel _ a w h) h2)
      · rename_i hw
        rw [if_neg hw] at h2
        exact ⟨h2.1, wpAnyIn_round hd fuel _ _ _ h2.2⟩
theorem region_round {F : Fence} {n l id : Nat} {P : Program} {ops : Array Oper} {Q : Exit → Act → World → Prop} {a : Act} {w : World} (hm : P.follows .mixedOrders = true) (hd : noDefer ops = true)
    (h : wpAnyIn F n P .any ops Q ops.size (Array.replicate ops.size false) a w.drew) : (Code.region id ops true).wpIn (F.inRound l) n P Q a w :=
  wpIn_region_any hm (wpAnyIn_round hd _ _ _ _ h)
/-- append, run ahead, as one step of a region that draws. -/
theorem stepIn_run {F : Fence} {n : Nat} {P : Program} {ops : Array Oper} {o : Oper} {a : Act} {w : World} {K : Act → World → Prop} {Q : Exit → Act → World → Prop} {E0 : Prop} (hg : o.guard = none) (s x : Operand) (t : TypeId)
    (ho : o.op = .call { callee := .builtin .append, args := #[s, x], argTypes := #[t, t] }) (v1 v2 v' : Value) (w' : World) (h1 : a.eval s = v1) (h2 : a.eval x = v2) (hrun : (Builtin.append_ #[t, t] o.type #[v1, v2]).run P w = .ok v' w') (hK : K (a.put o.dst v') w') :
    if Region.wanted o (yielded ops a.tmps) = true then Oper.wpIn F n P o a w K Q else E0 := by
  have hw : Region.wanted o (yielded ops a.tmps) = true := by simp [Region.wanted, hg]
  rw [if_pos hw]
  unfold Oper.wpIn
  refine ⟨by simp [Oper.about, ho, resolve, builtin, Target.leads], ?_⟩
  rw [Oper.semAt_eq _ _ _ (by rw [ho]; intro c e; cases e)]
  subst h1
  subst h2
  simp [execOp, ho, resolve, invoke, builtin, hrun, Result.andThen]
  exact hK
end Go.Proofs.Ytmlhoojcdidgkaa

/-
  Package commission: the statement of a channel: the ways out ahead of the loop.
-/
namespace Go.Proofs.Ytmlhoojcdidgkaa
set_option linter.unusedSimpArgs false
set_option linter.unusedVariables false
open Go.RowKit Go.Maps Go.Shelf
open Go.Sort (grow size_grow)

set_option maxHeartbeats 4000000
set_option maxRecDepth 100000
abbrev stW0 (w : World) (p d : Int) : World := (((w.alloc (.cells #[.int .i64 p, .int .i64 d] 25)).alloc (.cells #[.slice none 0 0] 51)).alloc (.cells #[.int .i64 0] 3)).alloc (.cells #[.int .i64 0] 33)
theorem cstmt_no (p d : Int) (l : List Bill) (A : Option Addr) (c : Nat) (ch : Int) (w : World) (hs : SlBill w A l) (hl0 : l.length ≤ maxLen)
    (h : ¬ (l.length ≤ 3000 ∧ partOk p d = true ∧ billsOk l = true ∧ inB ch 0 29 = true)) :
    Calls Try.prog 26 #[.agg #[.int .i64 p, .int .i64 d], .slice A l.length c, .int .i64 ch] w fun e w' => OutI3 (stmtR p d l ch) e w' ∧ Below w.heap.size w w' := by
  by_cases h0 : 3000 < l.length
  · have h0' : (3000 : Int) < (l.length : Int) := by omega
    rw [stmtR_many h0]
    go_enter Try.func26, Try.ntmps26
    go_wp2_with fail
    refine bodyPost_ret (v := .tuple #[.slice none 0 0, .int .i64 0, .int .i64 2]) ?_ rfl ⟨outI3_nil, ?_⟩
    · have d0 : (((((((w.alloc (.cells #[.int .i64 p, .int .i64 d] 25)).alloc (.cells #[.slice none 0 0] 51)).alloc (.cells #[.int .i64 0] 3)).alloc (.cells #[.int .i64 0] 33)).setCell ⟨w.heap.size + 1, 0, none⟩ (.slice none 0 0)).setCell ⟨w.heap.size + 1 + 1, 0, none⟩ (.int .i64 0)).setCell ⟨w.heap.size + 1 + 1 + 1, 0, none⟩ (.int .i64 2)).cell? ⟨w.heap.size + 1, 0, none⟩ = some (.slice none 0 0) := by go_simp
      have d1 : (((((((w.alloc (.cells #[.int .i64 p, .int .i64 d] 25)).alloc (.cells #[.slice none 0 0] 51)).alloc (.cells #[.int .i64 0] 3)).alloc (.cells #[.int .i64 0] 33)).setCell ⟨w.heap.size + 1, 0, none⟩ (.slice none 0 0)).setCell ⟨w.heap.size + 1 + 1, 0, none⟩ (.int .i64 0)).setCell ⟨w.heap.size + 1 + 1 + 1, 0, none⟩ (.int .i64 2)).cell? ⟨w.heap.size + 1 + 1, 0, none⟩ = some (.int .i64 0) := by go_simp
      have d2 : (((((((w.alloc (.cells #[.int .i64 p, .int .i64 d] 25)).alloc (.cells #[.slice none 0 0] 51)).alloc (.cells #[.int .i64 0] 3)).alloc (.cells #[.int .i64 0] 33)).setCell ⟨w.heap.size + 1, 0, none⟩ (.slice none 0 0)).setCell ⟨w.heap.size + 1 + 1, 0, none⟩ (.int .i64 0)).setCell ⟨w.heap.size + 1 + 1 + 1, 0, none⟩ (.int .i64 2)).cell? ⟨w.heap.size + 1 + 1 + 1, 0, none⟩ = some (.int .i64 2) := by go_simp
      simp [results, Try.results26, go_sem, d0, d1, d2]
    · repeat' (first
        | (with_reducible exact Below.refl _ _)
        | (with_reducible assumption)
        | (with_reducible refine below_drewN ?_ _)
        | (with_reducible refine Below.drew ?_)
        | (with_reducible refine below_regrown_up _ _ ?_ ?_)
        | (with_reducible refine Below.alloc ?_ ?_ _)
        | (with_reducible refine Below.setCell ?_ ?_ _)
        | (with_reducible refine below_up ?_ ?_ (by assumption))
        | (with_reducible exact Nat.le_refl _)
        | omega
        | (simp; done)
        | (simp; omega))
  · have h0' : ¬ (3000 : Int) < (l.length : Int) := by omega
    cases h1 : partOk p d
    · rw [stmtR_no (by omega) (by rw [h1]; rfl)]
      go_enter Try.func26, Try.ntmps26
      go_wp2_with (first | (go_at_call 37; refine (isPart_any p d _).mono ?_; rintro e w1 ⟨rfl, hb1⟩; have hz1 := hb1.size; (try simp only [World.size_alloc, World.size_setCell, World.size_drew, size_drewN', size_grow, size_redrawn] at hz1); obtain ⟨hc1, hf1⟩ := bcellB (B := w.heap.size + 4) hb1 (by first | omega | (simp only [World.size_alloc, World.size_setCell, World.size_drew, size_drewN', size_grow, size_redrawn]; omega)); rw [h1]) | (go_at_call 53; refine (areBills_any l A c _ (hs.up (by repeat' (first | (with_reducible exact Below.refl _ _) | (with_reducible assumption) | (with_reducible refine below_drewN ?_ _) | (with_reducible refine Below.drew ?_) | (with_reducible refine below_regrown_up _ _ ?_ ?_) | (with_reducible refine Below.alloc ?_ ?_ _) | (with_reducible refine Below.setCell ?_ ?_ _) | (with_reducible refine below_up ?_ ?_ (by assumption)) | (with_reducible exact Nat.le_refl _) | omega | (simp; done) | (simp; omega)))) (by omega)).mono ?_; rintro e w2 ⟨rfl, hb2⟩; have hz2 := hb2.size; (try simp only [World.size_alloc, World.size_setCell, World.size_drew, size_drewN', size_grow, size_redrawn] at hz2); obtain ⟨hc2, hf2⟩ := bcellB (B := w.heap.size + 4) hb2 (by first | omega | (simp only [World.size_alloc, World.size_setCell, World.size_drew, size_drewN', size_grow, size_redrawn]; omega)); rw [h2]))
      refine bodyPost_ret (v := .tuple #[.slice none 0 0, .int .i64 0, .int .i64 1]) ?_ rfl ⟨outI3_nil, ?_⟩
      · have d0 : (((w1.setCell ⟨w.heap.size + 1, 0, none⟩ (.slice none 0 0)).setCell ⟨w.heap.size + 1 + 1, 0, none⟩ (.int .i64 0)).setCell ⟨w.heap.size + 1 + 1 + 1, 0, none⟩ (.int .i64 1)).cell? ⟨w.heap.size + 1, 0, none⟩ = some (.slice none 0 0) := by go_simp
        have d1 : (((w1.setCell ⟨w.heap.size + 1, 0, none⟩ (.slice none 0 0)).setCell ⟨w.heap.size + 1 + 1, 0, none⟩ (.int .i64 0)).setCell ⟨w.heap.size + 1 + 1 + 1, 0, none⟩ (.int .i64 1)).cell? ⟨w.heap.size + 1 + 1, 0, none⟩ = some (.int .i64 0) := by go_simp
        have d2 : (((w1.setCell ⟨w.heap.size + 1, 0, none⟩ (.slice none 0 0)).setCell ⟨w.heap.size + 1 + 1, 0, none⟩ (.int .i64 0)).setCell ⟨w.heap.size + 1 + 1 + 1, 0, none⟩ (.int .i64 1)).cell? ⟨w.heap.size + 1 + 1 + 1, 0, none⟩ = some (.int .i64 1) := by go_simp
        simp [results, Try.results26, go_sem, d0, d1, d2]
      · repeat' (first
          | (with_reducible exact Below.refl _ _)
          | (with_reducible assumption)
          | (with_reducible refine below_drewN ?_ _)
          | (with_reducible refine Below.drew ?_)
          | (with_reducible refine below_regrown_up _ _ ?_ ?_)
          | (with_reducible refine Below.alloc ?_ ?_ _)
          | (with_reducible refine Below.setCell ?_ ?_ _)
          | (with_reducible refine below_up ?_ ?_ (by assumption))
          | (with_reducible exact Nat.le_refl _)
          | omega
          | (simp; done)
          | (simp; omega))
    · cases h3 : inB ch 0 29
      · rw [stmtR_no (by omega) (by rw [h1, h3]; simp)]
        have h4 : ch < 0 ∨ 30 ≤ ch := by
          have := mt inB_iff.2 (by rw [h3]; simp)
          omega
        rcases h4 with h4 | h4
        all_goals
          go_enter Try.func26, Try.ntmps26
          go_wp2_with (first | (go_at_call 37; refine (isPart_any p d _).mono ?_; rintro e w1 ⟨rfl, hb1⟩; have hz1 := hb1.size; (try simp only [World.size_alloc, World.size_setCell, World.size_drew, size_drewN', size_grow, size_redrawn] at hz1); obtain ⟨hc1, hf1⟩ := bcellB (B := w.heap.size + 4) hb1 (by first | omega | (simp only [World.size_alloc, World.size_setCell, World.size_drew, size_drewN', size_grow, size_redrawn]; omega)); rw [h1]) | (go_at_call 53; refine (areBills_any l A c _ (hs.up (by repeat' (first | (with_reducible exact Below.refl _ _) | (with_reducible assumption) | (with_reducible refine below_drewN ?_ _) | (with_reducible refine Below.drew ?_) | (with_reducible refine below_regrown_up _ _ ?_ ?_) | (with_reducible refine Below.alloc ?_ ?_ _) | (with_reducible refine Below.setCell ?_ ?_ _) | (with_reducible refine below_up ?_ ?_ (by assumption)) | (with_reducible exact Nat.le_refl _) | omega | (simp; done) | (simp; omega)))) (by omega)).mono ?_; rintro e w2 ⟨rfl, hb2⟩; have hz2 := hb2.size; (try simp only [World.size_alloc, World.size_setCell, World.size_drew, size_drewN', size_grow, size_redrawn] at hz2); obtain ⟨hc2, hf2⟩ := bcellB (B := w.heap.size + 4) hb2 (by first | omega | (simp only [World.size_alloc, World.size_setCell, World.size_drew, size_drewN', size_grow, size_redrawn]; omega)); rw [h2]))
          refine bodyPost_ret (v := .tuple #[.slice none 0 0, .int .i64 0, .int .i64 1]) ?_ rfl ⟨outI3_nil, ?_⟩
          · have d0 : (((w1.setCell ⟨w.heap.size + 1, 0, none⟩ (.slice none 0 0)).setCell ⟨w.heap.size + 1 + 1, 0, none⟩ (.int .i64 0)).setCell ⟨w.heap.size + 1 + 1 + 1, 0, none⟩ (.int .i64 1)).cell? ⟨w.heap.size + 1, 0, none⟩ = some (.slice none 0 0) := by go_simp
            have d1 : (((w1.setCell ⟨w.heap.size + 1, 0, none⟩ (.slice none 0 0)).setCell ⟨w.heap.size + 1 + 1, 0, none⟩ (.int .i64 0)).setCell ⟨w.heap.size + 1 + 1 + 1, 0, none⟩ (.int .i64 1)).cell? ⟨w.heap.size + 1 + 1, 0, none⟩ = some (.int .i64 0) := by go_simp
            have d2 : (((w1.setCell ⟨w.heap.size + 1, 0, none⟩ (.slice none 0 0)).setCell ⟨w.heap.size + 1 + 1, 0, none⟩ (.int .i64 0)).setCell ⟨w.heap.size + 1 + 1 + 1, 0, none⟩ (.int .i64 1)).cell? ⟨w.heap.size + 1 + 1 + 1, 0, none⟩ = some (.int .i64 1) := by go_simp
            simp [results, Try.results26, go_sem, d0, d1, d2]
          · repeat' (first
              | (with_reducible exact Below.refl _ _)
              | (with_reducible assumption)
              | (with_reducible refine below_drewN ?_ _)
              | (with_reducible refine Below.drew ?_)
              | (with_reducible refine below_regrown_up _ _ ?_ ?_)
              | (with_reducible refine Below.alloc ?_ ?_ _)
              | (with_reducible refine Below.setCell ?_ ?_ _)
              | (with_reducible refine below_up ?_ ?_ (by assumption))
              | (with_reducible exact Nat.le_refl _)
              | omega
              | (simp; done)
              | (simp; omega))
      · obtain ⟨g0, g1⟩ := inB_iff.1 h3
        cases h2 : billsOk l
        · rw [stmtR_no (by omega) (by rw [h1, h2]; rfl)]
          go_enter Try.func26, Try.ntmps26
          go_wp2_with (first | (go_at_call 37; refine (isPart_any p d _).mono ?_; rintro e w1 ⟨rfl, hb1⟩; have hz1 := hb1.size; (try simp only [World.size_alloc, World.size_setCell, World.size_drew, size_drewN', size_grow, size_redrawn] at hz1); obtain ⟨hc1, hf1⟩ := bcellB (B := w.heap.size + 4) hb1 (by first | omega | (simp only [World.size_alloc, World.size_setCell, World.size_drew, size_drewN', size_grow, size_redrawn]; omega)); rw [h1]) | (go_at_call 53; refine (areBills_any l A c _ (hs.up (by repeat' (first | (with_reducible exact Below.refl _ _) | (with_reducible assumption) | (with_reducible refine below_drewN ?_ _) | (with_reducible refine Below.drew ?_) | (with_reducible refine below_regrown_up _ _ ?_ ?_) | (with_reducible refine Below.alloc ?_ ?_ _) | (with_reducible refine Below.setCell ?_ ?_ _) | (with_reducible refine below_up ?_ ?_ (by assumption)) | (with_reducible exact Nat.le_refl _) | omega | (simp; done) | (simp; omega)))) (by omega)).mono ?_; rintro e w2 ⟨rfl, hb2⟩; have hz2 := hb2.size; (try simp only [World.size_alloc, World.size_setCell, World.size_drew, size_drewN', size_grow, size_redrawn] at hz2); obtain ⟨hc2, hf2⟩ := bcellB (B := w.heap.size + 4) hb2 (by first | omega | (simp only [World.size_alloc, World.size_setCell, World.size_drew, size_drewN', size_grow, size_redrawn]; omega)); rw [h2]))
          refine bodyPost_ret (v := .tuple #[.slice none 0 0, .int .i64 0, .int .i64 1]) ?_ rfl ⟨outI3_nil, ?_⟩
          · have d0 : (((w2.setCell ⟨w.heap.size + 1, 0, none⟩ (.slice none 0 0)).setCell ⟨w.heap.size + 1 + 1, 0, none⟩ (.int .i64 0)).setCell ⟨w.heap.size + 1 + 1 + 1, 0, none⟩ (.int .i64 1)).cell? ⟨w.heap.size + 1, 0, none⟩ = some (.slice none 0 0) := by go_simp
            have d1 : (((w2.setCell ⟨w.heap.size + 1, 0, none⟩ (.slice none 0 0)).setCell ⟨w.heap.size + 1 + 1, 0, none⟩ (.int .i64 0)).setCell ⟨w.heap.size + 1 + 1 + 1, 0, none⟩ (.int .i64 1)).cell? ⟨w.heap.size + 1 + 1, 0, none⟩ = some (.int .i64 0) := by go_simp
            have d2 : (((w2.setCell ⟨w.heap.size + 1, 0, none⟩ (.slice none 0 0)).setCell ⟨w.heap.size + 1 + 1, 0, none⟩ (.int .i64 0)).setCell ⟨w.heap.size + 1 + 1 + 1, 0, none⟩ (.int .i64 1)).cell? ⟨w.heap.size + 1 + 1 + 1, 0, none⟩ = some (.int .i64 1) := by go_simp
            simp [results, Try.results26, go_sem, d0, d1, d2]
          · repeat' (first
              | (with_reducible exact Below.refl _ _)
              | (with_reducible assumption)
              | (with_reducible refine below_drewN ?_ _)
              | (with_reducible refine Below.drew ?_)
              | (with_reducible refine below_regrown_up _ _ ?_ ?_)
              | (with_reducible refine Below.alloc ?_ ?_ _)
              | (with_reducible refine Below.setCell ?_ ?_ _)
              | (with_reducible refine below_up ?_ ?_ (by assumption))
              | (with_reducible exact Nat.le_refl _)
              | omega
              | (simp; done)
              | (simp; omega))
        · exact absurd ⟨by omega, h1, h2, h3⟩ h
end Go.Proofs.Ytmlhoojcdidgkaa
