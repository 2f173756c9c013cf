/-
  Contracts of package ledger: the iterator over the entries up to a day; the sums of all accounts.
-/
import Derived.Test.YthnncojbckifnaaLed5
import Derived.Test.YthnncojbckifnaaIter
import Derived.Test.YthnncojbckifnaaMSum
namespace Go.Proofs.Ythnncojbckifnaa
set_option linter.unusedSimpArgs false
set_option linter.unusedVariables false
open Go.RowKit Go.Maps Go.Shelf
open Go.Sort (grow size_grow)

set_option maxHeartbeats 2000000
set_option maxRecDepth 100000
attribute [local go_sem] Oper.semAt_some
abbrev EOk := { e : Entry // e.ok = true }
theorem eok_of : ∀ {l : List Entry}, (∀ e ∈ l, e.ok = true) → ∃ L : List EOk, L.map (·.1) = l
  | [], _ => ⟨[], rfl⟩
  | e :: l, h => by
    obtain ⟨L, hL⟩ := eok_of (l := l) (fun x hx => h x (by simp [hx]))
    exact ⟨⟨e, h e (by simp)⟩ :: L, by rw [List.map_cons, hL]⟩
theorem takeWhile_cut {α : Type} {p : α → Bool} {l : List α} {k : Nat} (hk : k < l.length) (h1 : ∀ i (hi : i < l.length), i < k → p l[i] = true) (h2 : p l[k] = false) : l.takeWhile p = l.take k := by
  induction l generalizing k with
  | nil => simp at hk
  | cons x l ih =>
    cases k with
    | zero =>
      have : p x = false := h2
      rw [List.takeWhile_cons, this]
      rfl
    | succ k =>
      have : p x = true := h1 0 (by simp) (by omega)
      rw [List.takeWhile_cons, this, if_pos rfl, List.take_succ_cons]
      congr 1
      exact ih (by simpa using hk) (fun i hi hik => h1 (i + 1) (by simpa using hi) (by omega)) h2
theorem takeWhile_all {α : Type} {p : α → Bool} {l : List α} (h1 : ∀ i (hi : i < l.length), p l[i] = true) : l.takeWhile p = l := by
  induction l with
  | nil => rfl
  | cons x l ih =>
    have : p x = true := h1 0 (by simp)
    rw [List.takeWhile_cons, this, if_pos rfl]
    congr 1
    exact ih (fun i hi => h1 (i + 1) (by simpa using hi))

theorem until1_in (n : Nat) (hn : 1 ≤ n) (l B1 B2 : Nat) (X : Nat → Prop) (L : List EOk) (D : Int) (A : Option Addr) (c : Nat) (J Jx : List EOk → World → Prop) (W : World)
    (hX1 : X B1) (hX2 : X B2) (hXA : L ≠ [] → ∀ bk off, A = some ⟨bk, off, none⟩ → X bk) (hXs : ∀ k, X k → k < W.heap.size) (hJ : AbidesFrom W.heap.size J)
    (hY : ∀ pre x W1, J pre W1 → pre.length < L.length → YieldAt Fence.wide (n - 1) Try.prog l #[x.1.v] W1 fun e W' =>
      (e = .returned (.bool true) ∧ J (pre ++ [x]) W' ∧ KeepOn X W1 W' ∧ W1.heap.size ≤ W'.heap.size) ∨ (e = .returned (.bool false) ∧ Jx (pre ++ [x]) W'))
    (c1 : W.cell? ⟨B1, 0, none⟩ = some (.slice A L.length c)) (c2 : W.cell? ⟨B2, 0, none⟩ = some (.int .i64 D))
    (hs : Sl W W.heap.size 5 Entry.cs A (L.map (·.1))) (hl : L.length ≤ 140737488355328) (h0 : J [] W) :
    CallsIn Fence.wide n Try.prog 104 #[.func (.yield l) #[] #[], .pointer (some ⟨B1, 0, none⟩), .pointer (some ⟨B2, 0, none⟩)] W fun e W' => (∃ v, e = .returned v) ∧
      ((∃ xs, xs = L.takeWhile (fun e => decide (e.1.day ≤ D)) ∧ J xs W') ∨ (∃ pre, pre <+: L ∧ Jx pre W')) := by
  have HY := Lib.hid hY
  have HXA := Lib.hid hXA
  have HXs := Lib.hid hXs
  have HC2 := Lib.hid c2
  clear hY hXA hXs c2
  refine callsIn_of_wp Try.func104 rfl trivial ?_ rfl
  simp only [Try.ntmps104, List.size_toArray, List.length_cons, List.length_nil, Nat.reduceAdd, Nat.reduceSub, Array.replicate_succ, Array.replicate_zero, List.push_toArray, List.append_toArray, List.nil_append, List.cons_append]
  gi_wp2
  gi_loopw [8] (fun i wr => ∃ k : Nat, k ≤ L.length ∧ i = .int .i64 k ∧ Hid (∀ j (h : j < L.length), j < k → decide (L[j].1.day ≤ D) = true) ∧ J (L.take k) wr ∧ KeepOn X W wr ∧ W.heap.size ≤ wr.heap.size) (fun i _ => L.length - (intOf i).toNat)
  case atStart => exact ⟨0, Nat.zero_le _, rfl, Lib.hid (fun j _ h => absurd h (by omega)), h0, KeepOn.refl _ _, Nat.le_refl _⟩
  case round =>
    obtain ⟨k, hk, rfl, hn1, hJs, hnx, hsz⟩ := hrel
    by_cases hlt : k < L.length
    · have hne : L ≠ [] := by rintro rfl; simp at hlt
      obtain ⟨bk, off, rfl, hbl, hcell⟩ := (hs.keepOn hnx (fun _ => HXA.out hne)).at_ (k := k) (by simpa using hlt)
      rw [List.getElem_map] at hcell
      have q0 := hcell 0 _ rfl
      have q1 := hcell 1 _ rfl
      have q2 := hcell 2 _ rfl
      have q3 := hcell 3 _ rfl
      have q4 := hcell 4 _ rfl
      rw [Nat.add_zero] at q0
      have HC := Lib.hid hcell
      have HNE := Lib.hid hne
      clear hcell hne
      have hc2 : wr.cell? ⟨B2, 0, none⟩ = some (.int .i64 D) := (hnx.cell (p := ⟨B2, 0, none⟩) hX2).trans HC2.out
      have hB2 : B2 < wr.heap.size := by have := HXs.out _ hX2; omega
      have hbw : bk < wr.heap.size := by omega
      have hx1 : (k : Int) < (L.length : Int) := by omega
      have hx4 : (0 : Int) ≤ (k : Int) := by omega
      have hJa : J (L.take k) (wr.alloc (.cells #[.int .i64 L[k].1.day, .int .i64 L[k].1.debit, .int .i64 L[k].1.credit, .int .i64 L[k].1.cents, .int .i64 L[k].1.ref] 63)) := abides_alloc hJ hJs _
      by_cases hd : D < L[k].1.day
      · gi_wp2
        refine ⟨fun _ h => (by cases h), ?_⟩
        gi_wp2
        refine bodyPost_ret (results_none rfl _ _ _) rfl ?_
        exact ⟨⟨_, rfl⟩, .inl ⟨_, (takeWhile_cut hlt hn1.out (by simpa using hd)).symm, hJa⟩⟩
      · have hd' : L[k].1.day ≤ D := by omega
        clear hd
        obtain ⟨fn, tmps, assign, body, hy, hR⟩ := HY.out _ L[k] _ hJa (by rw [List.length_take]; omega)
        have hk1 : KeepOn X W (wr.alloc (.cells #[.int .i64 L[k].1.day, .int .i64 L[k].1.debit, .int .i64 L[k].1.credit, .int .i64 L[k].1.cents, .int .i64 L[k].1.ref] 63)) := hnx.alloc (fun i hi => by have := HXs.out i hi; omega) _
        have hsn : L.take (k + 1) = L.take k ++ [L[k]] := List.take_succ_eq_append_getElem hlt
        have HSN := Lib.hid hsn
        have HK1 := Lib.hid hk1
        clear hsn hk1
        dsimp only [Entry.v] at hy
        gi_wp2
        refine hR.mono ?_
        rintro e W3 (⟨rfl, hJ3, hk3, hz3⟩ | ⟨rfl, hJx3⟩)
        · rw [World.size_alloc] at hz3
          gi_wp2
          go_roundw
          case rel =>
            refine ⟨k + 1, by omega, by simp, Lib.hid (fun j h hj => ?_), by rw [HSN.out]; exact hJ3, HK1.out.trans hk3, by omega⟩
            by_cases e : j = k
            · subst e; simpa using hd'
            · exact hn1.out j h (by omega)
          case measure => simp [intOf]; omega
        · gi_wp2
          refine bodyPost_ret (results_none rfl _ _ _) rfl ?_
          exact ⟨⟨_, rfl⟩, .inr ⟨_, by rw [← HSN.out]; exact List.take_prefix _ _, hJx3⟩⟩
    · obtain rfl : k = L.length := by omega
      gi_wp2
      go_end0
      refine ⟨⟨_, rfl⟩, .inl ⟨_, ?_, hJs⟩⟩
      rw [List.take_of_length_le (Nat.le_refl _)]
      exact (takeWhile_all (fun i hi => hn1.out i hi hi)).symm
theorem until_any (A : Option Addr) (n c : Nat) (D : Int) (w : World) :
    Calls Try.prog 89 #[.slice A n c, .int .i64 D] w fun e w' => e = .returned (.func (.func 104) #[] #[.pointer (some ⟨w.heap.size, 0, none⟩), .pointer (some ⟨w.heap.size + 1, 0, none⟩)]) ∧ w' = (w.alloc (.cells #[.slice A n c] 31)).alloc (.cells #[.int .i64 D] 3) := by
  go_enter Try.func89, Try.ntmps89
  go_wp2
  go_ret
  exact ⟨rfl, rfl⟩
end Go.Proofs.Ythnncojbckifnaa
