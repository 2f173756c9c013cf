/-
  Texts, one behind the other: Led5, Led6, Led7, Com2, IntEl.
-/
import Derived.Test.YtmlhoojcdidgkaaGreatM08
import Derived.Test.YtmlhoojcdidgkaaGreatM04
import Derived.Test.YtmlhoojcdidgkaaGreatM02
import Derived.Test.YtmlhoojcdidgkaaGreatM06
import Derived.Test.YtmlhoojcdidgkaaGreatM07
import Derived.Test.YtmlhoojcdidgkaaGreatM01
/-
  Contracts of the reference of package ledger: balances.
-/
namespace Go.Proofs.YtmlhoojcdidgkaaGreat
set_option linter.unusedSimpArgs false
set_option linter.unusedVariables false
open Go.RowKit
open Go.Sort (grow size_grow)

set_option maxHeartbeats 2000000
set_option maxRecDepth 100000
theorem bal_snoc {p : Int → Bool} {l : List Entry} {m : Nat} {day : Int} (h : m < l.length) : bal p (l.take (m + 1)) day = bal p (l.take m) day + (if l[m].day ≤ day then mv p l[m] else 0) := by
  rw [List.take_succ_eq_append_getElem h, bal_append]
  congr 1
  unfold bal upto mvs
  by_cases hd : l[m].day ≤ day
  · rw [List.filter_cons, if_pos (by simpa using hd), if_pos hd]
    simp
  · rw [List.filter_cons, if_neg (by simpa using hd), if_neg hd]
    simp
theorem bal_take_bd (p : Int → Bool) {l : List Entry} {m : Nat} {day : Int} (h : ∀ e ∈ l, e.ok = true) (hm : m ≤ l.length) : -(1000000000 * (m : Int)) ≤ bal p (l.take m) day ∧ bal p (l.take m) day ≤ 1000000000 * (m : Int) := by
  have h1 := mvs_bd p (l := upto (l.take m) day) (fun e he => h e (List.mem_of_mem_take (upto_mem he)))
  have h2 := upto_len (l.take m) day
  rw [List.length_take] at h2
  unfold bal
  omega
theorem bal_congr {p q : Int → Bool} (h : ∀ a, p a = q a) (l : List Entry) (day : Int) : bal p l day = bal q l day := by
  have : p = q := funext h
  rw [this]
theorem inB_self (a x : Int) : inB a x x = (a == x) := by
  rw [Bool.eq_iff_iff, inB_iff, beq_iff_eq]
  omega

theorem balR_cases (l : List Entry) (a day : Int) : ((!ledOk l || !inB a 100 999 || !inB day 0 366) = true ∧ balR l a day = (0, 1)) ∨ (ledOk l = true ∧ inB a 100 999 = true ∧ inB day 0 366 = true ∧ balR l a day = (bal (fun x => x == a) l day, 0)) := by
  unfold balR
  by_cases h1 : (!ledOk l || !inB a 100 999 || !inB day 0 366) = true
  · rw [if_pos h1]; exact .inl ⟨h1, rfl⟩
  · rw [if_neg h1]
    have h2 : (ledOk l = true ∧ inB a 100 999 = true) ∧ inB day 0 366 = true := by simpa using h1
    exact .inr ⟨h2.1.1, h2.1.2, h2.2, rfl⟩
theorem kindR_cases (l : List Entry) (a day : Int) : ((!ledOk l || !inB a 1 9 || !inB day 0 366) = true ∧ kindR l a day = (0, 1)) ∨ (ledOk l = true ∧ inB a 1 9 = true ∧ inB day 0 366 = true ∧ kindR l a day = (bal (ofKind a) l day, 0)) := by
  unfold kindR
  by_cases h1 : (!ledOk l || !inB a 1 9 || !inB day 0 366) = true
  · rw [if_pos h1]; exact .inl ⟨h1, rfl⟩
  · rw [if_neg h1]
    have h2 : (ledOk l = true ∧ inB a 1 9 = true) ∧ inB day 0 366 = true := by simpa using h1
    exact .inr ⟨h2.1.1, h2.1.2, h2.2, rfl⟩
end Go.Proofs.YtmlhoojcdidgkaaGreat

/-
  Contracts of package ledger: the iterator over the entries up to a day; the sums of all accounts.
-/
namespace Go.Proofs.YtmlhoojcdidgkaaGreat
set_option linter.unusedSimpArgs false
set_option linter.unusedVariables false
open Go.RowKit Go.Maps Go.Shelf
open Go.Sort (grow size_grow)

set_option maxHeartbeats 2000000
set_option maxRecDepth 100000
attribute [local go_sem] Oper.semAt_some
abbrev EOk := { e : Entry // e.ok = true }
theorem eok_of : ∀ {l : List Entry}, (∀ e ∈ l, e.ok = true) → ∃ L : List EOk, L.map (·.1) = l
  | [], _ => ⟨[], rfl⟩
  | e :: l, h => by
    obtain ⟨L, hL⟩ := eok_of (l := l) (fun x hx => h x (by simp [hx]))
    exact ⟨⟨e, h e (by simp)⟩ :: L, by rw [List.map_cons, hL]⟩
theorem takeWhile_cut {α : Type} {p : α → Bool} {l : List α} {k : Nat} (hk : k < l.length) (h1 : ∀ i (hi : i < l.length), i < k → p l[i] = true) (h2 : p l[k] = false) : l.takeWhile p = l.take k := by
  induction l generalizing k with
  | nil => simp at hk
  | cons x l ih =>
    cases k with
    | zero =>
      have : p x = false := h2
      rw [List.takeWhile_cons, this]
      rfl
    | succ k =>
      have : p x = true := h1 0 (by simp) (by omega)
      rw [List.takeWhile_cons, this, if_pos rfl, List.take_succ_cons]
      congr 1
      exact ih (by simpa using hk) (fun i hi hik => h1 (i + 1) (by simpa using hi) (by omega)) h2
theorem takeWhile_all {α : Type} {p : α → Bool} {l : List α} (h1 : ∀ i (hi : i < l.length), p l[i] = true) : l.takeWhile p = l := by
  induction l with
  | nil => rfl
  | cons x l ih =>
    have : p x = true := h1 0 (by simp)
    rw [List.takeWhile_cons, this, if_pos rfl]
    congr 1
    exact ih (fun i hi => h1 (i + 1) (by simpa using hi))

theorem until1_in (n : Nat) (hn : 1 ≤ n) (l B1 B2 : Nat) (X : Nat → Prop) (L : List EOk) (D : Int) (A : Option Addr) (c : Nat) (J Jx : List EOk → World → Prop) (W : World)
    (hX1 : X B1) (hX2 : X B2) (hXA : L ≠ [] → ∀ bk off, A = some ⟨bk, off, none⟩ → X bk) (hXs : ∀ k, X k → k < W.heap.size) (hJ : AbidesFrom W.heap.size J)
    (hY : ∀ pre x W1, J pre W1 → pre.length < L.length → YieldAt Fence.wide (n - 1) Tryz.prog l #[x.1.v] W1 fun e W' =>
      (e = .returned (.bool true) ∧ J (pre ++ [x]) W' ∧ KeepOn X W1 W' ∧ W1.heap.size ≤ W'.heap.size) ∨ (e = .returned (.bool false) ∧ Jx (pre ++ [x]) W'))
    (c1 : W.cell? ⟨B1, 0, none⟩ = some (.slice A L.length c)) (c2 : W.cell? ⟨B2, 0, none⟩ = some (.int .i64 D))
    (hs : Sl W W.heap.size 5 Entry.cs A (L.map (·.1))) (hl : L.length ≤ 140737488355328) (h0 : J [] W) :
    CallsIn Fence.wide n Tryz.prog 116 #[.func (.yield l) #[] #[], .pointer (some ⟨B1, 0, none⟩), .pointer (some ⟨B2, 0, none⟩)] W fun e W' => (∃ v, e = .returned v) ∧
      ((∃ xs, xs = L.takeWhile (fun e => decide (e.1.day ≤ D)) ∧ J xs W') ∨ (∃ pre, pre <+: L ∧ Jx pre W')) := by
  have HY := Lib.hid hY
  have HXA := Lib.hid hXA
  have HXs := Lib.hid hXs
  have HC2 := Lib.hid c2
  clear hY hXA hXs c2
  refine callsIn_of_wp Tryz.func116 rfl trivial ?_ rfl
  simp only [Tryz.ntmps116, List.size_toArray, List.length_cons, List.length_nil, Nat.reduceAdd, Nat.reduceSub, Array.replicate_succ, Array.replicate_zero, List.push_toArray, List.append_toArray, List.nil_append, List.cons_append]
  gi_wp2
  gi_loopw [8] (fun i wr => ∃ k : Nat, k ≤ L.length ∧ i = .int .i64 k ∧ Hid (∀ j (h : j < L.length), j < k → decide (L[j].1.day ≤ D) = true) ∧ J (L.take k) wr ∧ KeepOn X W wr ∧ W.heap.size ≤ wr.heap.size) (fun i _ => L.length - (intOf i).toNat)
  case atStart => exact ⟨0, Nat.zero_le _, rfl, Lib.hid (fun j _ h => absurd h (by omega)), h0, KeepOn.refl _ _, Nat.le_refl _⟩
  case round =>
    obtain ⟨k, hk, rfl, hn1, hJs, hnx, hsz⟩ := hrel
    by_cases hlt : k < L.length
    · have hne : L ≠ [] := by rintro rfl; simp at hlt
      obtain ⟨bk, off, rfl, hbl, hcell⟩ := (hs.keepOn hnx (fun _ => HXA.out hne)).at_ (k := k) (by simpa using hlt)
      rw [List.getElem_map] at hcell
      have q0 := hcell 0 _ rfl
      have q1 := hcell 1 _ rfl
      have q2 := hcell 2 _ rfl
      have q3 := hcell 3 _ rfl
      have q4 := hcell 4 _ rfl
      rw [Nat.add_zero] at q0
      have HC := Lib.hid hcell
      have HNE := Lib.hid hne
      clear hcell hne
      have hc2 : wr.cell? ⟨B2, 0, none⟩ = some (.int .i64 D) := (hnx.cell (p := ⟨B2, 0, none⟩) hX2).trans HC2.out
      have hB2 : B2 < wr.heap.size := by have := HXs.out _ hX2; omega
      have hbw : bk < wr.heap.size := by omega
      have hx1 : (k : Int) < (L.length : Int) := by omega
      have hx4 : (0 : Int) ≤ (k : Int) := by omega
      have hJa : J (L.take k) (wr.alloc (.cells #[.int .i64 L[k].1.day, .int .i64 L[k].1.debit, .int .i64 L[k].1.credit, .int .i64 L[k].1.cents, .int .i64 L[k].1.ref] 60)) := abides_alloc hJ hJs _
      by_cases hd : D < L[k].1.day
      · gi_wp2
        refine ⟨fun _ h => (by cases h), ?_⟩
        gi_wp2
        refine bodyPost_ret (results_none rfl _ _ _) rfl ?_
        exact ⟨⟨_, rfl⟩, .inl ⟨_, (takeWhile_cut hlt hn1.out (by simpa using hd)).symm, hJa⟩⟩
      · have hd' : L[k].1.day ≤ D := by omega
        clear hd
        obtain ⟨fn, tmps, assign, body, hy, hR⟩ := HY.out _ L[k] _ hJa (by rw [List.length_take]; omega)
        have hk1 : KeepOn X W (wr.alloc (.cells #[.int .i64 L[k].1.day, .int .i64 L[k].1.debit, .int .i64 L[k].1.credit, .int .i64 L[k].1.cents, .int .i64 L[k].1.ref] 60)) := hnx.alloc (fun i hi => by have := HXs.out i hi; omega) _
        have hsn : L.take (k + 1) = L.take k ++ [L[k]] := List.take_succ_eq_append_getElem hlt
        have HSN := Lib.hid hsn
        have HK1 := Lib.hid hk1
        clear hsn hk1
        dsimp only [Entry.v] at hy
        gi_wp2
        refine hR.mono ?_
        rintro e W3 (⟨rfl, hJ3, hk3, hz3⟩ | ⟨rfl, hJx3⟩)
        · rw [World.size_alloc] at hz3
          gi_wp2
          go_roundw
          case rel =>
            refine ⟨k + 1, by omega, by simp, Lib.hid (fun j h hj => ?_), by rw [HSN.out]; exact hJ3, HK1.out.trans hk3, by omega⟩
            by_cases e : j = k
            · subst e; simpa using hd'
            · exact hn1.out j h (by omega)
          case measure => simp [intOf]; omega
        · gi_wp2
          refine bodyPost_ret (results_none rfl _ _ _) rfl ?_
          exact ⟨⟨_, rfl⟩, .inr ⟨_, by rw [← HSN.out]; exact List.take_prefix _ _, hJx3⟩⟩
    · obtain rfl : k = L.length := by omega
      gi_wp2
      go_end0
      refine ⟨⟨_, rfl⟩, .inl ⟨_, ?_, hJs⟩⟩
      rw [List.take_of_length_le (Nat.le_refl _)]
      exact (takeWhile_all (fun i hi => hn1.out i hi hi)).symm
theorem until_any (A : Option Addr) (n c : Nat) (D : Int) (w : World) :
    Calls Tryz.prog 85 #[.slice A n c, .int .i64 D] w fun e w' => e = .returned (.func (.func 116) #[] #[.pointer (some ⟨w.heap.size, 0, none⟩), .pointer (some ⟨w.heap.size + 1, 0, none⟩)]) ∧ w' = (w.alloc (.cells #[.slice A n c] 45)).alloc (.cells #[.int .i64 D] 3) := by
  go_enter Tryz.func85, Tryz.ntmps85
  go_wp2
  go_ret
  exact ⟨rfl, rfl⟩
end Go.Proofs.YtmlhoojcdidgkaaGreat

/-
  Contract of package ledger: the sums of all accounts up to a day.
-/
namespace Go.Proofs.YtmlhoojcdidgkaaGreat
set_option linter.unusedSimpArgs false
set_option linter.unusedVariables false
open Go.RowKit Go.Maps Go.Shelf
open Go.Sort (grow size_grow)

set_option maxHeartbeats 4000000
set_option maxRecDepth 100000
attribute [local go_sem] Oper.semAt_some

/-- What the map of all sums holds. -/
structure SumOf (D : DM) (es : List Entry) : Prop where
  tidy : Tidy D
  ints : Ints D
  all : ∀ q : Int → Bool, msum (onI q) D = mvs q es
  at_ : ∀ a, getI D a = mvs (fun x => x == a) es
  keys : ∀ a, Maps.has D (kI a) = true → 100 ≤ a ∧ a ≤ 999
theorem sumOf_empty : SumOf (.map []) [] := ⟨tidy_empty, ints_empty, fun _ => rfl, fun _ => rfl, fun a h => by cases h⟩
theorem mvs_snoc (p : Int → Bool) (es : List Entry) (e : Entry) : mvs p (es ++ [e]) = mvs p es + mv p e := by rw [mvs_append, mvs_cons, mvs_nil]; omega
theorem SumOf.step {D : DM} {es : List Entry} {e : Entry} (h : SumOf D es) (he : e.ok = true) {c1 c2 : Int} (h1 : getI D e.debit = c1) (h2 : getI (putI D e.debit (c1 + e.cents)) e.credit = c2) :
    SumOf (putI (putI D e.debit (c1 + e.cents)) e.credit (c2 - e.cents)) (es ++ [e]) := by
  have ht := putI_tidy h.tidy e.debit (c1 + e.cents)
  obtain ⟨_, k1, k2, hne, _⟩ := Entry.ok_iff.1 he
  refine ⟨putI_tidy ht _ _, (h.ints.put _ _).put _ _, fun q => ?_, fun a => ?_, fun a ha => ?_⟩
  · rw [msum_put ht, msum_put h.tidy, h.all, mvs_snoc, h1, h2]
    unfold mv
    have e1 : onI q (kI e.debit) = q e.debit := rfl
    have e2 : onI q (kI e.credit) = q e.credit := rfl
    rw [e1, e2]
    split <;> split <;> omega
  · rw [mvs_snoc]
    unfold mv
    by_cases ha : a = e.credit
    · subst ha
      rw [getI_same ht, if_neg (by simpa using hne), if_pos (by simp)]
      rw [getI_other (Ne.symm hne), h.at_] at h2
      omega
    · rw [getI_other ha]
      have hc : (e.credit == a) = false := by rw [beq_eq_false_iff_ne]; exact fun e' => ha e'.symm
      simp only [hc]
      by_cases hb : a = e.debit
      · subst hb
        rw [getI_same h.tidy, ← h1, h.at_]
        first | (simp; done) | (simp; omega)
      · have hd : (e.debit == a) = false := by rw [beq_eq_false_iff_ne]; exact fun e' => hb e'.symm
        rw [getI_other hb, h.at_]
        simp only [hd]
        first | (simp; done) | (simp; omega)
  · by_cases hb : a = e.credit
    · subst hb; exact k2
    · by_cases hc : a = e.debit
      · subst hc; exact k1
      · unfold putI at ha
        rw [has_put_other (kI_ne hb), has_put_other (kI_ne hc)] at ha
        exact h.keys a ha
theorem SumOf.second {D : DM} {es : List Entry} {e : Entry} (h : SumOf D es) (hne : e.debit ≠ e.credit) (c : Int) : getI (putI D e.debit c) e.credit = mvs (fun x => x == e.credit) es := by
  rw [getI_other (Ne.symm hne), h.at_]

structure SumI (w : World) (pre : List EOk) (W : World) : Prop where
  out : ∃ D : DM, W.ownsMap Tryz.prog 3 (plainElem Tryz.prog 3) w.heap.size (2 * pre.length) D ∧ SumOf D (pre.map (·.1))
  box : W.cell? ⟨w.heap.size + 1, 0, none⟩ = some (.map (some w.heap.size))
  size : w.heap.size + 1 + 1 + 1 + 1 ≤ W.heap.size
  below : Below w.heap.size w W
theorem sumI_own {w : World} {B : Nat} (hB : w.heap.size + 1 ≤ B) : OwnFrom B (SumI w) := fun s W W' row h hg hr => by
  have hr' : ∀ r, row = some r → ∃ o : Obj, W.heap[r]? = some o ∧ o.isCells = false := fun r e => (hr r e).2
  obtain ⟨D, hD, hS⟩ := h.out
  refine ⟨⟨D, hD.kept hg (fun e => ?_), hS⟩, cell_kept h.box hg hr', size_keptN h.size hg, h.below.grown hg h.below.size (fun k e => by have := (hr k e).1; omega)⟩
  have := (hr _ e.symm).1
  omega
theorem until_stops (n : Nat) (hn : 1 ≤ n) (B1 B2 : Nat) (X : Nat → Prop) (L : List EOk) (D : Int) (A : Option Addr) (c : Nat) (w0 : World)
    (hX1 : X B1) (hX2 : X B2) (hXA : L ≠ [] → ∀ bk off, A = some ⟨bk, off, none⟩ → X bk) (hXs : ∀ k, X k → k < w0.heap.size)
    (c1 : w0.cell? ⟨B1, 0, none⟩ = some (.slice A L.length c)) (c2 : w0.cell? ⟨B2, 0, none⟩ = some (.int .i64 D))
    (hs : Sl w0 w0.heap.size 5 Entry.cs A (L.map (·.1))) (hl : L.length ≤ 140737488355328) :
    SeqStopsK Fence.wide n Tryz.prog 116 #[.pointer (some ⟨B1, 0, none⟩), .pointer (some ⟨B2, 0, none⟩)] (fun x : EOk => #[x.1.v]) (fun P Q => KeepOn X P Q ∧ P.heap.size ≤ Q.heap.size)
      (fun xs => xs = L.takeWhile (fun e => decide (e.1.day ≤ D))) (fun pre => pre <+: L) L.length w0 := fun l J Jx W hW hJ _ hY h0 =>
  until1_in n hn l B1 B2 X L D A c J Jx W hX1 hX2 hXA (fun k hk => Nat.lt_of_lt_of_le (hXs k hk) hW.size) hJ
    (fun pre x W1 h1 h2 => (hY pre x W1 h1 h2).mono fun e W' h => h)
    ((hW.cell (p := ⟨B1, 0, none⟩) (hXs _ hX1)).trans c1) ((hW.cell (p := ⟨B2, 0, none⟩) (hXs _ hX2)).trans c2)
    ((hs.below hW).more hW.size) hl h0
theorem zero_int (w : World) : (zeroValue 3).run Tryz.prog w = .ok (.int .i64 0) w := by kernel_rfl
theorem keyedI : Keyed Tryz.prog 3 := int_keyed Tryz.underlying3

theorem sums_any (L : List EOk) (A : Option Addr) (c : Nat) (day : Int) (w : World) (hs : SlEnt w A (L.map (·.1))) (hl : L.length ≤ 5000) :
    Calls Tryz.prog 50 #[.slice A L.length c, .int .i64 day] w fun e w' => (∃ b N D, e = .returned (.map (some b)) ∧ w'.ownsMap Tryz.prog 3 (plainElem Tryz.prog 3) b N D ∧ N ≤ 10000 ∧ SumOf D ((L.takeWhile (fun e => decide (e.1.day ≤ day))).map (·.1))) ∧ Below w.heap.size w w' := by
  have hmm := @run_makeMap Tryz.prog
  refine (callsIn_wide (n := 9)).1 ?_
  refine callsIn_of_wp_marks Tryz.func50 rfl trivial ?_ rfl
  simp only [Tryz.ntmps50, List.size_toArray, List.length_cons, List.length_nil, Nat.reduceAdd, Nat.reduceSub, Array.replicate_succ, Array.replicate_zero, List.push_toArray, List.append_toArray, List.nil_append, List.cons_append]
  gi_wp2_with (refine ⟨trivial, ?_⟩; gi_at_call 85; refine (callsIn_wide.2 (until_any A L.length c day _)).mono ?_; rintro e w3 ⟨rfl, hw3⟩)
  have hb3 : Below w.heap.size w w3 := by
    rw [hw3]
    repeat' (first
      | (with_reducible exact Below.refl _ _)
      | (with_reducible assumption)
      | (with_reducible refine below_drewN ?_ _)
      | (with_reducible refine Below.drew ?_)
      | (with_reducible refine below_regrown_up _ _ ?_ ?_)
      | (with_reducible refine Below.alloc ?_ ?_ _)
      | (with_reducible refine Below.setCell ?_ ?_ _)
      | (with_reducible refine below_up ?_ ?_ (by assumption))
      | (with_reducible exact Nat.le_refl _)
      | omega
      | (simp; done)
      | (simp; omega))
  have hws : w3.heap.size = w.heap.size + 1 + 1 + 1 + 1 := by rw [hw3]; simp
  have k1 : w3.cell? ⟨w.heap.size + 1, 0, none⟩ = some (.map (some w.heap.size)) := by rw [hw3]; go_simp
  have k2 : w3.cell? ⟨w.heap.size + 1 + 1, 0, none⟩ = some (.slice A L.length c) := by rw [hw3]; go_simp
  have k3 : w3.cell? ⟨w.heap.size + 1 + 1 + 1, 0, none⟩ = some (.int .i64 day) := by rw [hw3]; go_simp
  have k4 : w3.ownsMap Tryz.prog 3 (plainElem Tryz.prog 3) w.heap.size 0 (.map [] : DM) := by
    rw [hw3]
    exact (((World.ownsMap_made w Tryz.prog 3 _).alloc _).alloc _).alloc _
  have h00 : SumI w [] w3 := ⟨⟨_, k4, sumOf_empty⟩, k1, by omega, hb3⟩
  have hXs : ∀ k, (k < w.heap.size ∨ k = w.heap.size + 1 + 1 ∨ k = w.heap.size + 1 + 1 + 1) → k < w3.heap.size := fun k hk => by rcases hk with h | h | h <;> omega
  have hst := until_stops 8 (by omega) (w.heap.size + 1 + 1) (w.heap.size + 1 + 1 + 1) (fun k => k < w.heap.size ∨ k = w.heap.size + 1 + 1 ∨ k = w.heap.size + 1 + 1 + 1) L day A c w3
    (.inr (.inl rfl)) (.inr (.inr rfl)) (fun hne bk off e => by
      obtain ⟨b', off', e', hlt, _⟩ := hs (by rw [ne_eq, List.map_eq_nil_iff]; exact hne)
      rw [e] at e'
      injection e' with e'
      injection e' with e1 e2
      exact .inl (by omega)) hXs k2 k3 (hs.up hb3) (by omega)
  rw [← hw3]
  clear k1 k2 k3 k4
  refine wpIn_rangeFunc_ownH (w := w3) rfl (by omega) (gf := 116) (lb := #[.pointer (some ⟨w.heap.size + 1 + 1, 0, none⟩), .pointer (some ⟨w.heap.size + 1 + 1 + 1, 0, none⟩)]) rfl trivial (enters_of Tryz.func116 (by kernel_rfl) rfl)
    hst (fun h k => ⟨h.1.trans k.1, Nat.le_trans h.2 k.2⟩) (fun W l o o' h1 h2 h3 h4 => ⟨keepOn_b hXs W l o o' h1 h2 h3 h4, by simp⟩) (Below.refl _ _) (fun _ => rfl)
    (SumI w) (fun _ _ _ => False) (sumI_own (by omega)) (fun _ _ _ _ _ hs _ _ => hs) h00
    (fun x a' W => ∃ Bx, w.heap.size + 1 + 1 + 1 < Bx ∧ (∀ (j : Nat) (u : Value), x.1.cs[j]? = some u → W.cell? ⟨Bx, j, none⟩ = some u) ∧ a' = { tmps := #[Value.slice A L.length c, Value.int IntKind.i64 day, undef, undef, Value.map none, Value.pointer (some { block := w.heap.size + 1, off := 0 }), .pointer (some ⟨Bx, 0, none⟩), Value.map (some w.heap.size), Value.slice A L.length c, Value.int IntKind.i64 day, Value.func (Fn.func 116) #[] #[Value.pointer (some { block := w.heap.size + 1 + 1, off := 0 }), Value.pointer (some { block := w.heap.size + 1 + 1 + 1, off := 0 })], x.1.v, undef, undef, undef, undef, undef, undef, undef, undef, undef, undef, undef, undef, undef, undef, undef], defers := [] })
    (fun x a' _ X Y row hs hg hr => by obtain ⟨Bx, h1, h2, h3⟩ := hs; exact ⟨Bx, h1, fun j u hu => cell_kept (h2 j u hu) hg (fun r e => (hr r e).2), h3⟩)
    ?assign ?body ?done ?stop
  case assign =>
    intro l pre x W K hI hK
    gi_wp2
    refine hK _ _ ((KeepsOthers.alloc _ _).from _) ⟨(KeepOn.refl _ W).alloc (fun k hk => by have := hXs k hk; have := hI.size; omega) _, by simp⟩ ((sumI_own (B := w3.heap.size) (by omega)).alloc _ hI) ⟨W.heap.size, by have := hI.size; omega, news_new _ _ _ _ rfl, rfl⟩
  case body =>
    rintro l' pre x a' W hl' ⟨r, hr⟩ hI ⟨Bx, hBx, hcx, rfl⟩ hlen
    obtain ⟨D, hown, hS⟩ := hI.out
    have box := hI.box
    have hsz := hI.size
    have q1 := hcx 1 _ rfl
    have q2 := hcx 2 _ rfl
    have q3 := hcx 3 _ rfl
    obtain ⟨e, he⟩ := x
    simp only at q1 q2 q3 hcx
    obtain ⟨_, ⟨d1, d2⟩, ⟨e1, e2⟩, hne, ⟨m1, m2⟩, _⟩ := Entry.ok_iff.1 he
    have hpok : ∀ y ∈ pre.map (·.1), y.ok = true := fun y hy => by obtain ⟨z, _, rfl⟩ := List.mem_map.1 hy; exact z.2
    have hb1 := mvs_bd (fun z => z == e.debit) hpok
    have hb2 := mvs_bd (fun z => z == e.credit) hpok
    rw [← hS.at_] at hb1
    rw [List.length_map] at hb1 hb2
    have hl5 : pre.length ≤ 5000 := by omega
    have HB1 := Lib.hid (show -5000000000000 ≤ getI D e.debit ∧ getI D e.debit ≤ 5000000000000 by omega)
    have HB2 := Lib.hid (show -5000000000000 ≤ mvs (fun z => z == e.credit) (pre.map (·.1)) ∧ mvs (fun z => z == e.credit) (pre.map (·.1)) ≤ 5000000000000 by omega)
    have HNE := Lib.hid hne
    have HCX := Lib.hid hcx
    have HS := Lib.hid hS
    clear hb1 hb2 hne hcx hS
    gi_wp2_with (first
      | (gi_at_lookup; go_loud (refine wpListIn_lookup_own_int _ rfl (.tmp 12) (.tmp 14) 76 rfl 3 3 .i64 keyedI Tryz.underlying76 Tryz.underlying3 (zero_int _) w.heap.size _ D rfl hown _ _ rfl (keyOf_int_mk Tryz.underlying3 (WalkArith.wf_i64 (by omega))) ?_); intro c1 hat1 hwc1; have HG1 := Lib.hid (getI_of hat1); clear hat1 hwc1; obtain ⟨v1, v2⟩ : -5000000000000 ≤ c1 ∧ c1 ≤ 5000000000000 := by (rw [← HG1.out]; exact HB1.out))
      | (gi_at_mapUpdate; go_loud (refine wpListIn_mapUpdate_own _ rfl (.tmp 12) (.tmp 14) (.tmp 18) 76 rfl 3 3 keyedI Tryz.underlying76 _ w.heap.size _ D rfl hown (by unfold maxLen; omega) _ _ _ rfl rfl (keyOf_int_mk Tryz.underlying3 (WalkArith.wf_i64 (by omega))) _ [] (plainElem_int Tryz.underlying3 (WalkArith.wf_i64 (by omega))) ?_); intro w4 hown4 hgrow4; have box4 := hgrow4.cell box (by simp); have q24 := hgrow4.cell q2 (by simp; omega); have q34 := hgrow4.cell q3 (by simp; omega))
      | (gi_at_lookup; go_loud (refine wpListIn_lookup_own_int _ rfl (.tmp 19) (.tmp 21) 76 rfl 3 3 .i64 keyedI Tryz.underlying76 Tryz.underlying3 (zero_int _) w.heap.size _ _ rfl hown4 _ _ rfl (keyOf_int_mk Tryz.underlying3 (WalkArith.wf_i64 (by omega))) ?_); intro c2 hat2 hwc2; have HG2 := Lib.hid (getI_of hat2); clear hat2 hwc2; obtain ⟨u1, u2⟩ : -5000000000000 ≤ c2 ∧ c2 ≤ 5000000000000 := by (rw [← HG2.out]; exact (HS.out.second HNE.out (c1 + e.cents)).symm ▸ HB2.out))
      | (gi_at_mapUpdate; go_loud (refine wpListIn_mapUpdate_own _ rfl (.tmp 19) (.tmp 21) (.tmp 25) 76 rfl 3 3 keyedI Tryz.underlying76 _ w.heap.size _ _ rfl hown4 (by unfold maxLen; omega) _ _ _ rfl rfl (keyOf_int_mk Tryz.underlying3 (WalkArith.wf_i64 (by omega))) _ [] (plainElem_int Tryz.underlying3 (WalkArith.wf_i64 (by omega))) ?_); intro w5 hown5 hgrow5))
    have hg45 : W.grownBy w5 (some w.heap.size) := hgrow4.trans hgrow5
    refine ⟨KeepsFrom.of_grownBy hg45 (fun j e => by cases e; omega), ⟨(KeepOn.refl _ W).grown (fun k hk => by have := hXs k hk; omega) hg45 (fun k e => by cases e; omega), hg45.size⟩, ⟨⟨_, ?_, by rw [List.map_append]; exact HS.out.step he HG1.out HG2.out⟩, hgrow5.cell box4 (by simp), Nat.le_trans hsz hg45.size, hI.below.grown hg45 hI.below.size (fun k e => by cases e; omega)⟩⟩
    have e0 : 2 * (pre ++ [(⟨e, he⟩ : EOk)]).length = 2 * pre.length + 1 + 1 := by simp; omega
    rw [e0]
    exact hown5
  case done =>
    rintro D' xs W hD rfl hI hK
    obtain ⟨D, hown, hS⟩ := hI.out
    have box := hI.box
    gi_wp2
    refine ⟨by simp, .inl ⟨_, _, rfl, run_takeDeferred hK, ?_⟩⟩
    refine ⟨_, results_tmp rfl _ _ _, ⟨w.heap.size, _, D, rfl, hown.kept (grownBy_putObj' _ D' (.deferred none)) (fun e => by injection e with e; omega), ?_, hS⟩, ?_⟩
    · have := (List.takeWhile_prefix (p := fun e : EOk => decide (e.1.day ≤ day)) (l := L)).length_le
      omega
    · exact hI.below.trans (belowK_b (w := w) (Nat.le_refl _) _ D' _ _ (by omega) hK rfl rfl)
  case stop =>
    rintro D c pre W _ _ h _
    exact h.elim
end Go.Proofs.YtmlhoojcdidgkaaGreat

/-
  Package commission: whether a list consists of bills (a map of the stays that were seen).
-/
namespace Go.Proofs.YtmlhoojcdidgkaaGreat
set_option linter.unusedSimpArgs false
set_option linter.unusedVariables false
open Go.RowKit Go.Maps
open Go.Sort (grow size_grow)

set_option maxHeartbeats 4000000
set_option maxRecDepth 100000
abbrev SlBill (w : World) (A : Option Addr) (l : List Bill) : Prop := Sl w w.heap.size 9 Bill.cs A l
theorem bill_len (b : Bill) : b.cs.length = 9 := rfl
def stays (l : List Bill) : List Int := l.map Bill.stay
def billsOk (l : List Bill) : Bool := l.all Bill.ok && decide (stays l).Nodup
theorem billsOk_iff {l : List Bill} : billsOk l = true ↔ (∀ b ∈ l, b.ok = true) ∧ (stays l).Nodup := by
  unfold billsOk
  rw [Bool.and_eq_true, decide_eq_true_eq, List.all_eq_true]
abbrev vB (x : Bool) : DM := .lit (.bool x)
structure SeenOf (D : DM) (ls : List Int) : Prop where
  tidy : Tidy D
  at_ : ∀ a, D.atKey (kI a) (vB false) = vB (decide (a ∈ ls))
theorem seen_empty : SeenOf (.map []) [] := ⟨tidy_empty, fun a => rfl⟩
theorem SeenOf.put {D : DM} {ls : List Int} (h : SeenOf D ls) (a : Int) : SeenOf (D.put (kI a) (vB true)) (ls ++ [a]) := by
  refine ⟨h.tidy.put (kI_key a) _, fun b => ?_⟩
  by_cases e : b = a
  · subst e
    rw [atKey_put_same h.tidy.isMap (kI_key b)]
    simp
  · rw [atKey_put_other (kI_ne e), h.at_]
    simp [e]
theorem plainB_inv {v : Value} {x : Bool} {ps : List MemPlace} (h : plainElem (H := Unit) Tryz.prog 4 v = some (vB x, ps)) : v = .bool x := by
  unfold plainElem at h
  rw [Tryz.underlying4] at h
  cases v <;> simp at h
  obtain ⟨rfl, _⟩ := h
  rfl
theorem zero_bool (w : World) : (zeroValue 4).run Tryz.prog w = .ok (.bool false) w := by kernel_rfl
abbrev OwnB (w : World) (blk n : Nat) (D : DM) : Prop := w.ownsMap Tryz.prog 3 (plainElem Tryz.prog 4) blk n D
theorem twice_any (b : Bill) (b3 blk n : Nat) (D : DM) (ls : List Int) (w : World) (hS : SeenOf D ls) (hown : OwnB w blk n D) (hn : n ≤ 1000000000) (h3 : w.cell? ⟨b3, 0, none⟩ = some (.map (some blk))) (hb3 : b3 < w.heap.size) (s0 : 1 ≤ b.stay) (s1 : b.stay ≤ 1000000) :
    Calls Tryz.prog 98 #[b.v, .pointer (some ⟨b3, 0, none⟩)] w fun e w' => e = .returned (.bool (decide (b.stay ∈ ls))) ∧ OwnB w' blk (n + 1) (D.put (kI b.stay) (vB true)) ∧ w.grownBy w' (some blk) := by
  have hown1 := hown.alloc (.cells #[.int .i64 b.stay, .int .i64 b.channel, .int .i64 b.place, .int .i64 b.kind, .int .i64 b.frm, .int .i64 b.til, .int .i64 b.persons, .int .i64 b.price, .int .i64 b.keep] 31)
  have hkey : keyOf Tryz.prog 3 (.int .i64 b.stay) = some (.int .i64 b.stay) := keyOf_int_mk Tryz.underlying3 (WalkArith.wf_i64 (by omega))
  obtain ⟨v, ps, hrun, hv⟩ := hown1.lookup (t := 112) keyedI' Tryz.underlying112 (zero_bool _) (zd := vB false) (zp := []) (plainElem_bool Tryz.underlying4 false) hkey
  rw [show (D.atKey (Lit.int .i64 b.stay) (vB false)) = vB (decide (b.stay ∈ ls)) from hS.at_ _] at hv
  obtain rfl := plainB_inv hv
  obtain ⟨w2, hrun2, o2, g2⟩ := hown1.update (t := 112) keyedI' Tryz.underlying112 (by unfold maxLen; omega) (val := .bool true) (d := vB true) (ps := []) hkey (plainElem_bool Tryz.underlying4 true)
  have hg := (World.grownBy_alloc w (.cells #[.int .i64 b.stay, .int .i64 b.channel, .int .i64 b.place, .int .i64 b.kind, .int .i64 b.frm, .int .i64 b.til, .int .i64 b.persons, .int .i64 b.price, .int .i64 b.keep] 31) (some blk)).trans g2
  go_enter Tryz.func98, Tryz.ntmps98
  go_wp2_with fail
  go_ret
  exact ⟨rfl, o2, hg⟩
theorem badBill_no (b : Bill) (b4 : Nat) (w : World) (hok : b.ok = false) :
    Calls Tryz.prog 100 #[b.v, .pointer (some ⟨b4, 0, none⟩)] w fun e w' => e = .returned (.bool true) ∧ Below w.heap.size w w' := by
  go_enter Tryz.func100, Tryz.ntmps100
  go_wp2_with (go_at_call 76; refine (isBill_any b _).mono ?_; rintro e w1 ⟨rfl, hb1⟩; have hz1 := hb1.size; (try simp only [World.size_alloc, World.size_setCell, World.size_drew, size_drewN', size_grow, size_redrawn] at hz1); obtain ⟨hc1, hf1⟩ := bcellB (B := w.heap.size + 1) hb1 (by first | omega | (simp only [World.size_alloc, World.size_setCell, World.size_drew, size_drewN', size_grow, size_redrawn]; omega)); rw [hok])
  go_ret
  refine ⟨ret_bool (by simp), ?_⟩
  repeat' (first
    | (with_reducible exact Below.refl _ _)
    | (with_reducible assumption)
    | (with_reducible refine below_drewN ?_ _)
    | (with_reducible refine Below.drew ?_)
    | (with_reducible refine below_regrown_up _ _ ?_ ?_)
    | (with_reducible refine Below.alloc ?_ ?_ _)
    | (with_reducible refine Below.setCell ?_ ?_ _)
    | (with_reducible refine below_up ?_ ?_ (by assumption))
    | (with_reducible exact Nat.le_refl _)
    | omega
    | (simp; done)
    | (simp; omega))
theorem badBill_ok (b : Bill) (b3 b4 blk n : Nat) (D : DM) (ls : List Int) (w : World) (hS : SeenOf D ls) (hown : OwnB w blk n D) (hn : n ≤ 1000000000) (h3 : w.cell? ⟨b3, 0, none⟩ = some (.map (some blk))) (hb3 : b3 < w.heap.size)
    (h4 : w.cell? ⟨b4, 0, none⟩ = some (.func (.func 98) #[] #[.pointer (some ⟨b3, 0, none⟩)])) (hb4 : b4 < w.heap.size) (hok : b.ok = true) :
    Calls Tryz.prog 100 #[b.v, .pointer (some ⟨b4, 0, none⟩)] w fun e w' => e = .returned (.bool (decide (b.stay ∈ ls))) ∧ OwnB w' blk (n + 1) (D.put (kI b.stay) (vB true)) ∧ w.grownBy w' (some blk) := by
  obtain ⟨s0, s1⟩ := (Bill.ok_iff.1 hok).2.2.2.1
  have hS' := Lib.hid hS
  clear hS
  go_enter Tryz.func100, Tryz.ntmps100
  go_wp2_with fail
  refine (isBill_any b _).mono ?_
  rintro e w1 ⟨rfl, hb1⟩; have hz1 := hb1.size; (try simp only [World.size_alloc, World.size_setCell, World.size_drew, size_drewN', size_grow, size_redrawn] at hz1); obtain ⟨hc1, hf1⟩ := bcellB (B := w.heap.size + 1) hb1 (by first | omega | (simp only [World.size_alloc, World.size_setCell, World.size_drew, size_drewN', size_grow, size_redrawn]; omega))
  rw [hok]
  have k3 : w1.cell? ⟨b3, 0, none⟩ = some (.map (some blk)) := by rw [hc1 _ _ (by omega)]; go_simp
  have k4 : w1.cell? ⟨b4, 0, none⟩ = some (.func (.func 98) #[] #[.pointer (some ⟨b3, 0, none⟩)]) := by rw [hc1 _ _ (by omega)]; go_simp
  have ho1 : OwnB w1 blk n D := (hown.alloc _).kept (grownBy_below hb1 none) (by simp)
  have hg1 : w.grownBy w1 (some blk) := (World.grownBy_alloc w _ (some blk)).trans (grownBy_below hb1 (some blk))
  go_wp2_with fail
  refine (twice_any b b3 blk n D ls _ hS'.out ho1 hn k3 (by omega) s0 s1).mono ?_
  rintro e w2 ⟨rfl, ho2, hg2⟩
  go_wp2_with fail
  go_ret
  exact ⟨ret_bool (by simp), ho2, hg1.trans hg2⟩
theorem billsOk_bad {l : List Bill} {m : Nat} (hm : m < l.length) (h : l[m].ok = false) : billsOk l = false := by
  cases hb : billsOk l
  · rfl
  · have := (billsOk_iff.1 hb).1 _ (List.getElem_mem hm)
    rw [h] at this
    cases this
theorem stays_take {l : List Bill} {m : Nat} (hm : m < l.length) : stays (l.take (m + 1)) = stays (l.take m) ++ [l[m].stay] := by
  unfold stays
  rw [List.take_succ_eq_append_getElem hm, List.map_append]
  rfl
theorem billsOk_twice {l : List Bill} {m : Nat} (hm : m < l.length) (h : l[m].stay ∈ stays (l.take m)) : billsOk l = false := by
  cases hb : billsOk l
  · rfl
  · have hn := (billsOk_iff.1 hb).2
    have hs : (stays (l.take (m + 1))).Sublist (stays l) := (List.take_sublist _ _).map _
    have := hn.sublist hs
    rw [stays_take hm] at this
    exact absurd rfl ((List.nodup_append.1 this).2.2 _ h _ (by simp))
theorem nodup_snoc {ls : List Int} {a : Int} (h : ls.Nodup) (ha : a ∉ ls) : (ls ++ [a]).Nodup := by
  refine List.nodup_append.2 ⟨h, by simp, fun x hx y hy => ?_⟩
  simp at hy
  subst hy
  intro e
  exact ha (e ▸ hx)
theorem idx_bill_any (l : List Bill) (A : Option Addr) (c base b3 b4 blk : Nat) (w : World) (hs : Sl w base 9 Bill.cs A l) (hl : l.length ≤ 3000) (hown : OwnB w blk 0 (.map [])) (hbase : base ≤ w.heap.size) (hblk : base ≤ blk)
    (h3 : w.cell? ⟨b3, 0, none⟩ = some (.map (some blk))) (hb3 : b3 < w.heap.size) (n3 : b3 ≠ blk) (h4 : w.cell? ⟨b4, 0, none⟩ = some (.func (.func 98) #[] #[.pointer (some ⟨b3, 0, none⟩)])) (hb4 : b4 < w.heap.size) (n4 : b4 ≠ blk) :
    Calls Tryz.prog 118 #[.slice A l.length c, .func (.func 100) #[] #[.pointer (some ⟨b4, 0, none⟩)]] w fun e w' => (∃ k : Int, e = .returned (.int .i64 k) ∧ decide (0 ≤ k) = !billsOk l ∧ -1 ≤ k) ∧ w.grownBy w' (some blk) := by
  go_enter Tryz.func118, Tryz.ntmps118
  go_wp2
  go_loopw [8] (fun k wr => ∃ (m : Nat) (D : DM), m ≤ l.length ∧ k = .int .i64 m ∧ OwnB wr blk m D ∧ Hid (SeenOf D (stays (l.take m)) ∧ (∀ x ∈ l.take m, x.ok = true) ∧ (stays (l.take m)).Nodup) ∧ w.grownBy wr (some blk)) (fun k _ => l.length - (intOf k).toNat)
  case atStart => exact ⟨0, .map [], by omega, rfl, hown, Lib.hid ⟨seen_empty, by simp, by simp [stays]⟩, World.grownBy.refl _ _⟩
  case round =>
    obtain ⟨m, D, hm, rfl, ho, hS, hg⟩ := hrel
    have hgz := hg.size
    have hbw : Below base w wr := (Below.refl base w).grown hg hbase (fun k e => by injection e with e; omega)
    by_cases hlt : m < l.length
    · have hx1 : (0 : Int) ≤ (m : Int) := by omega
      have hx2 : (m : Int) < (l.length : Int) := by omega
      have k3 := hg.cell h3 (by simpa using n3)
      have k4 := hg.cell h4 (by simpa using n4)
      obtain ⟨b, off, rfl, hbl, hcell⟩ := (hs.below hbw).at_ hlt
      have q0 := hcell 0 _ rfl
      have q1 := hcell 1 _ rfl
      have q2 := hcell 2 _ rfl
      have q3 := hcell 3 _ rfl
      have q4 := hcell 4 _ rfl
      have q5 := hcell 5 _ rfl
      have q6 := hcell 6 _ rfl
      have q7 := hcell 7 _ rfl
      have q8 := hcell 8 _ rfl
      rw [Nat.add_zero] at q0
      clear hcell
      cases hok : l[m].ok
      · go_wp2_with fail
        refine (badBill_no l[m] b4 _ hok).mono ?_
        rintro e w1 ⟨rfl, hb1⟩
        go_wp2_with fail
        go_ret
        refine ⟨⟨m, rfl, ?_, by omega⟩, hg.trans (grownBy_below hb1 _)⟩
        rw [billsOk_bad hlt hok]
        simp
      · by_cases hin : l[m].stay ∈ stays (l.take m)
        · have hd : decide (l[m].stay ∈ stays (l.take m)) = true := by simpa using hin
          have HIN := Lib.hid hin
          clear hin
          go_wp2_with fail
          refine (badBill_ok l[m] b3 b4 blk m D _ _ hS.out.1 ho (by omega) k3 (by omega) k4 (by omega) hok).mono ?_
          rintro e w1 ⟨rfl, ho1, hg1⟩
          rw [hd]
          go_wp2_with fail
          go_ret
          refine ⟨⟨m, rfl, ?_, by omega⟩, hg.trans hg1⟩
          rw [billsOk_twice hlt HIN.out]
          simp
        · have hd : decide (l[m].stay ∈ stays (l.take m)) = false := by simpa using hin
          have HIN := Lib.hid hin
          clear hin
          go_wp2_with fail
          refine (badBill_ok l[m] b3 b4 blk m D _ _ hS.out.1 ho (by omega) k3 (by omega) k4 (by omega) hok).mono ?_
          rintro e w1 ⟨rfl, ho1, hg1⟩
          rw [hd]
          go_wp2_with fail
          go_roundw
          case rel =>
            refine ⟨m + 1, _, by omega, by go_num, ho1, Lib.hid ⟨?_, ?_, ?_⟩, hg.trans hg1⟩
            · rw [stays_take hlt]; exact hS.out.1.put _
            · intro x hx
              rw [List.take_succ_eq_append_getElem hlt] at hx
              rcases List.mem_append.1 hx with hx | hx
              · exact hS.out.2.1 x hx
              · simp at hx; subst hx; exact hok
            · rw [stays_take hlt]; exact nodup_snoc hS.out.2.2 HIN.out
          case measure => simp [intOf]; omega
    · obtain rfl : m = l.length := by omega
      go_wp2
      go_ret
      refine ⟨⟨-1, rfl, ?_, by omega⟩, hg⟩
      have h1 := hS.out
      rw [List.take_of_length_le (Nat.le_refl _)] at h1
      rw [billsOk_iff.2 ⟨h1.2.1, h1.2.2⟩]
      simp
theorem con_bill_any (l : List Bill) (A : Option Addr) (c base b3 b4 blk : Nat) (w : World) (hs : Sl w base 9 Bill.cs A l) (hl : l.length ≤ 3000) (hown : OwnB w blk 0 (.map [])) (hbase : base ≤ w.heap.size) (hblk : base ≤ blk)
    (h3 : w.cell? ⟨b3, 0, none⟩ = some (.map (some blk))) (hb3 : b3 < w.heap.size) (n3 : b3 ≠ blk) (h4 : w.cell? ⟨b4, 0, none⟩ = some (.func (.func 98) #[] #[.pointer (some ⟨b3, 0, none⟩)])) (hb4 : b4 < w.heap.size) (n4 : b4 ≠ blk) :
    Calls Tryz.prog 99 #[.slice A l.length c, .func (.func 100) #[] #[.pointer (some ⟨b4, 0, none⟩)]] w fun e w' => e = .returned (.bool (!billsOk l)) ∧ w.grownBy w' (some blk) := by
  go_enter Tryz.func99, Tryz.ntmps99
  go_wp2_with fail
  refine (idx_bill_any l A c base b3 b4 blk _ hs hl hown hbase hblk h3 hb3 n3 h4 hb4 n4).mono ?_
  rintro e w1 ⟨⟨k, rfl, hk, hk1⟩, hg1⟩
  have HK := Lib.hid hk
  clear hk
  go_wp2_with fail
  go_ret
  exact ⟨ret_bool HK.out, hg1⟩
theorem name_calls {P : Program} {f : FuncId} {args : Array Value} {w : World} {Q : Ending → World → Prop} (h : ∀ w', w' = w → Calls P f args w' Q) : Calls P f args w Q := h w rfl
theorem areBills_any (l : List Bill) (A : Option Addr) (c : Nat) (w : World) (hs : SlBill w A l) (hl : l.length ≤ 3000) :
    Calls Tryz.prog 73 #[.slice A l.length c] w fun e w' => e = .returned (.bool (billsOk l)) ∧ Below w.heap.size w w' := by
  have hmm := @run_makeMap Tryz.prog
  go_enter Tryz.func73, Tryz.ntmps73
  go_wp2_with fail
  have hmade := World.ownsMap_made w Tryz.prog 3 (plainElem (H := Unit) Tryz.prog 4)
  refine name_calls (fun w2 hw2 => ?_)
  have hb2 : Below w.heap.size w w2 := by
    rw [hw2]
    repeat' (first
      | (with_reducible exact Below.refl _ _)
      | (with_reducible assumption)
      | (with_reducible refine below_drewN ?_ _)
      | (with_reducible refine Below.drew ?_)
      | (with_reducible refine below_regrown_up _ _ ?_ ?_)
      | (with_reducible refine Below.alloc ?_ ?_ _)
      | (with_reducible refine Below.setCell ?_ ?_ _)
      | (with_reducible refine below_up ?_ ?_ (by assumption))
      | (with_reducible exact Nat.le_refl _)
      | omega
      | (simp; done)
      | (simp; omega))
  have hz2 : w2.heap.size = w.heap.size + 1 + 1 + 1 := by rw [hw2]; simp
  have k3 : w2.cell? ⟨w.heap.size + 1, 0, none⟩ = some (.map (some w.heap.size)) := by rw [hw2]; go_simp
  have k4 : w2.cell? ⟨w.heap.size + 1 + 1, 0, none⟩ = some (.func (.func 98) #[] #[.pointer (some ⟨w.heap.size + 1, 0, none⟩)]) := by rw [hw2]; go_simp
  have ho : OwnB w2 w.heap.size 0 (.map []) := by rw [hw2]; exact (hmade.alloc _).alloc _
  clear hw2 hmade
  refine (con_bill_any l A c w.heap.size (w.heap.size + 1) (w.heap.size + 1 + 1) w.heap.size _ (hs.below hb2) hl ho (by omega) (by omega) k3 (by omega) (by omega) k4 (by omega) (by omega)).mono ?_
  rintro e w3 ⟨rfl, hg3⟩
  go_wp2_with fail
  go_ret
  refine ⟨ret_bool (by simp), hb2.grown hg3 (by omega) (fun k e => by injection e with e; omega)⟩
theorem rBills_any (l : List Bill) (A : Option Addr) (c : Nat) (w : World) (hs : SlBill w A l) (hl : l.length ≤ 3000) :
    Calls Tryz.prog 10 #[.slice A l.length c] w fun e w' => e = .returned (.bool (billsOk l)) ∧ Below w.heap.size w w' := by
  go_enter Tryz.func10, Tryz.ntmps10
  go_wp2
  go_loopw [3] (fun i wr => ∃ m : Nat, m ≤ l.length ∧ i = .int .i64 m ∧ Hid ((∀ x ∈ l.take m, x.ok = true) ∧ (stays (l.take m)).Nodup) ∧ Below w.heap.size w wr) (fun i _ => l.length - (intOf i).toNat)
  case atStart => exact ⟨0, by omega, rfl, Lib.hid ⟨by simp, by simp [stays]⟩, Below.refl _ _⟩
  case round =>
    obtain ⟨m, hm, rfl, hS, hbw⟩ := hrel
    have hbz := hbw.size
    by_cases hlt : m < l.length
    · have hx1 : (0 : Int) ≤ (m : Int) := by omega
      have hx2 : (m : Int) < (l.length : Int) := by omega
      have hsl := hs
      obtain ⟨b, off, rfl, hbl, hcell⟩ := (hs.below hbw).at_ hlt
      have q0 := hcell 0 _ rfl
      have q1 := hcell 1 _ rfl
      have q2 := hcell 2 _ rfl
      have q3 := hcell 3 _ rfl
      have q4 := hcell 4 _ rfl
      have q5 := hcell 5 _ rfl
      have q6 := hcell 6 _ rfl
      have q7 := hcell 7 _ rfl
      have q8 := hcell 8 _ rfl
      rw [Nat.add_zero] at q0
      clear hcell
      cases hok : l[m].ok
      · go_wp2_with fail
        refine (rbill_any l[m] _).mono ?_
        rintro e w1 ⟨rfl, hb1⟩
        rw [hok]
        go_wp2_with fail
        go_ret
        refine ⟨ret_bool ?_, below_up hbw hbz hb1⟩
        rw [billsOk_bad hlt hok]
      · go_wp2_with fail
        refine (rbill_any l[m] _).mono ?_
        rintro e w1 ⟨rfl, hb1⟩
        rw [hok]
        have hbw1 := below_up hbw hbz hb1
        have hz1 := hb1.size
        go_wp2_with fail
        go_loopw [4] (fun i wr2 => ∃ k : Nat, k ≤ m ∧ i = .int .i64 k ∧ Hid (∀ j (h : j < l.length), j < k → l[j].stay ≠ l[m].stay) ∧ Below w.heap.size w wr2) (fun i _ => m - (intOf i).toNat)
        case atStart => exact ⟨0, by omega, rfl, Lib.hid (fun j _ h => absurd h (by omega)), hbw1⟩
        case round =>
          obtain ⟨k, hk, rfl, hN, hbw2⟩ := hrel
          have hbz2 := hbw2.size
          by_cases hlt2 : k < m
          · have hx3 : (0 : Int) ≤ (k : Int) := by omega
            have hx4 : (k : Int) < (m : Int) := by omega
            have hx5 : (k : Int) < (l.length : Int) := by omega
            have hk2 : k < l.length := by omega
            obtain ⟨_, hcell1⟩ := (hs.below hbw2).cells hk2
            obtain ⟨_, hcell2⟩ := (hs.below hbw2).cells hlt
            have p1 := hcell1 0 _ rfl
            have p2 := hcell2 0 _ rfl
            rw [Nat.add_zero] at p1 p2
            clear hcell1 hcell2
            by_cases he : l[k].stay = l[m].stay
            · have hb2 : (l[k].stay == l[m].stay) = true := by simpa using he
              have HE := Lib.hid he
              clear he
              go_wp2_with fail
              go_quiet (fail)
              go_wp2_with fail
              go_ret
              refine ⟨ret_bool ?_, (by repeat' (first | (with_reducible exact Below.refl _ _) | (with_reducible assumption) | (with_reducible refine below_drewN ?_ _) | (with_reducible refine Below.drew ?_) | (with_reducible refine below_regrown_up _ _ ?_ ?_) | (with_reducible refine Below.alloc ?_ ?_ _) | (with_reducible refine Below.setCell ?_ ?_ _) | (with_reducible refine below_up ?_ ?_ (by assumption)) | (with_reducible exact Nat.le_refl _) | omega | (simp; done) | (simp; omega)))⟩
              rw [billsOk_twice hlt (by rw [← HE.out]; exact List.mem_map.2 ⟨l[k], List.mem_take_iff_getElem.2 ⟨k, by omega, rfl⟩, rfl⟩)]
            · have hb2 : (l[k].stay == l[m].stay) = false := by simpa using he
              have HE := Lib.hid he
              clear he
              go_wp2_with fail
              go_quiet (fail)
              go_wp2_with fail
              go_roundw
              case rel =>
                refine ⟨k + 1, by omega, by go_num, Lib.hid (fun j h hj => ?_), (by repeat' (first | (with_reducible exact Below.refl _ _) | (with_reducible assumption) | (with_reducible refine below_drewN ?_ _) | (with_reducible refine Below.drew ?_) | (with_reducible refine below_regrown_up _ _ ?_ ?_) | (with_reducible refine Below.alloc ?_ ?_ _) | (with_reducible refine Below.setCell ?_ ?_ _) | (with_reducible refine below_up ?_ ?_ (by assumption)) | (with_reducible exact Nat.le_refl _) | omega | (simp; done) | (simp; omega)))⟩
                by_cases e : j = k
                · subst e; exact HE.out
                · exact hN.out j h (by omega)
              case measure => simp [intOf]; omega
          · obtain rfl : k = m := by omega
            go_wp2_with fail
            go_roundw
            case rel =>
              refine ⟨k + 1, by omega, by go_num, Lib.hid ⟨fun x hx => ?_, ?_⟩, hbw2⟩
              · rw [List.take_succ_eq_append_getElem hlt] at hx
                rcases List.mem_append.1 hx with hx | hx
                · exact hS.out.1 x hx
                · simp at hx; subst hx; exact hok
              · rw [stays_take hlt]
                refine nodup_snoc hS.out.2 (fun hin => ?_)
                obtain ⟨x, hx, hxe⟩ := List.mem_map.1 hin
                obtain ⟨j, hj, rfl⟩ := List.mem_take_iff_getElem.1 hx
                exact hN.out j (by omega) (by omega) hxe
            case measure => simp [intOf]; omega
    · obtain rfl : m = l.length := by omega
      go_wp2
      go_ret
      refine ⟨ret_bool ?_, hbw⟩
      have h1 := hS.out
      rw [List.take_of_length_le (Nat.le_refl _)] at h1
      rw [billsOk_iff.2 ⟨h1.1, h1.2⟩]
end Go.Proofs.YtmlhoojcdidgkaaGreat

/-
  Integers as elements of a list that the function owns.
-/
namespace Go.Proofs.YtmlhoojcdidgkaaGreat
set_option linter.unusedSimpArgs false
set_option linter.unusedVariables false
open Go.RowKit
set_option maxRecDepth 100000
theorem cell_alloc_at {w : World} {n : Nat} (h : w.heap.size = n) (cs : Array Value) (t : TypeId) (o : Nat) : (w.alloc (.cells cs t)).cell? ⟨n, o, none⟩ = cs[o]? := by
  subst h
  exact World.cell?_alloc_new _ _ _ _
theorem elemInt : Elem Tryz.prog 32 3 1 8 := elem_mk Tryz.underlying32 (by kernel_rfl)
theorem int_len (y : Int) : (intC y).length = 1 := rfl
theorem int_one (y : Int) : ∀ u ∈ intC y, u.oneCell' = true := by simp [intC, Value.oneCell']
end Go.Proofs.YtmlhoojcdidgkaaGreat
