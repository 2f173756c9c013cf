/-
  Package commission: the iterator over the bills of a channel.
-/
import Derived.Test.YthnncojbckifnaaCom4
import Derived.Test.YthnncojbckifnaaIter
namespace Go.Proofs.Ythnncojbckifnaa
set_option linter.unusedSimpArgs false
set_option linter.unusedVariables false
open Go.RowKit Go.Maps Go.Shelf
open Go.Sort (grow size_grow)

set_option maxHeartbeats 4000000
set_option maxRecDepth 100000
attribute [local go_sem] Oper.semAt_some
abbrev BOk := { b : Bill // b.ok = true }
theorem bok_of : ∀ {l : List Bill}, (∀ b ∈ l, b.ok = true) → ∃ L : List BOk, L.map (·.1) = l
  | [], _ => ⟨[], rfl⟩
  | b :: l, h => by
    obtain ⟨L, hL⟩ := bok_of (l := l) (fun x hx => h x (by simp [hx]))
    exact ⟨⟨b, h b (by simp)⟩ :: L, by rw [List.map_cons, hL]⟩
def ofB (L : List BOk) (ch : Int) : List BOk := L.filter fun b => b.1.channel == ch
theorem ofB_step {L : List BOk} {ch : Int} {j : Nat} (h : j < L.length) : ofB (L.take (j + 1)) ch = if L[j].1.channel = ch then ofB (L.take j) ch ++ [L[j]] else ofB (L.take j) ch := by
  unfold ofB
  rw [List.take_succ_eq_append_getElem h, List.filter_append]
  by_cases hd : L[j].1.channel = ch
  · rw [if_pos hd]; simp [hd]
  · rw [if_neg hd]; simp [hd]
theorem ofB_map (L : List BOk) (ch : Int) : (ofB L ch).map (·.1) = ofCh (L.map (·.1)) ch := by
  unfold ofB ofCh
  rw [List.filter_map]
  rfl
theorem ofB_prefix (L : List BOk) (ch : Int) (k : Nat) : ofB (L.take k) ch <+: ofB L ch := (List.take_prefix k L).filter _
theorem of1_in (n : Nat) (hn : 1 ≤ n) (l B1 B2 : Nat) (X : Nat → Prop) (L : List BOk) (D : Int) (A : Option Addr) (c : Nat) (J Jx : List BOk → World → Prop) (W : World)
    (hX1 : X B1) (hX2 : X B2) (hXA : L ≠ [] → ∀ bk off, A = some ⟨bk, off, none⟩ → X bk) (hXs : ∀ k, X k → k < W.heap.size) (hJ : AbidesFrom W.heap.size J)
    (hY : ∀ pre x W1, J pre W1 → pre.length < (ofB L D).length → YieldAt Fence.wide (n - 1) Try.prog l #[x.1.v] W1 fun e W' =>
      (e = .returned (.bool true) ∧ J (pre ++ [x]) W' ∧ KeepOn X W1 W' ∧ W1.heap.size ≤ W'.heap.size) ∨ (e = .returned (.bool false) ∧ Jx (pre ++ [x]) W'))
    (c1 : W.cell? ⟨B1, 0, none⟩ = some (.slice A L.length c)) (c2 : W.cell? ⟨B2, 0, none⟩ = some (.int .i64 D))
    (hs : Sl W W.heap.size 9 Bill.cs A (L.map (·.1))) (hl : L.length ≤ 140737488355328) (h0 : J [] W) :
    CallsIn Fence.wide n Try.prog 80 #[.func (.yield l) #[] #[], .pointer (some ⟨B1, 0, none⟩), .pointer (some ⟨B2, 0, none⟩)] W fun e W' => (∃ v, e = .returned v) ∧
      ((∃ xs, xs = ofB L D ∧ J xs W') ∨ (∃ pre, pre <+: ofB L D ∧ Jx pre W')) := by
  have HY := Lib.hid hY
  have HXA := Lib.hid hXA
  have HXs := Lib.hid hXs
  have HC2 := Lib.hid c2
  clear hY hXA hXs c2
  refine callsIn_of_wp Try.func80 rfl trivial ?_ rfl
  simp only [Try.ntmps80, List.size_toArray, List.length_cons, List.length_nil, Nat.reduceAdd, Nat.reduceSub, Array.replicate_succ, Array.replicate_zero, List.push_toArray, List.append_toArray, List.nil_append, List.cons_append]
  gi_wp2
  gi_loopw [8] (fun i wr => ∃ k : Nat, k ≤ L.length ∧ i = .int .i64 k ∧ J (ofB (L.take k) D) wr ∧ KeepOn X W wr ∧ W.heap.size ≤ wr.heap.size) (fun i _ => L.length - (intOf i).toNat)
  case atStart => exact ⟨0, Nat.zero_le _, rfl, h0, KeepOn.refl _ _, Nat.le_refl _⟩
  case round =>
    obtain ⟨k, hk, rfl, hJs, hnx, hsz⟩ := hrel
    by_cases hlt : k < L.length
    · have hne : L ≠ [] := by rintro rfl; simp at hlt
      obtain ⟨bk, off, rfl, hbl, hcell⟩ := (hs.keepOn hnx (fun _ => HXA.out hne)).at_ (k := k) (by simpa using hlt)
      rw [List.getElem_map] at hcell
      have q0 := hcell 0 _ rfl
      have q1 := hcell 1 _ rfl
      have q2 := hcell 2 _ rfl
      have q3 := hcell 3 _ rfl
      have q4 := hcell 4 _ rfl
      have q5 := hcell 5 _ rfl
      have q6 := hcell 6 _ rfl
      have q7 := hcell 7 _ rfl
      have q8 := hcell 8 _ rfl
      rw [Nat.add_zero] at q0
      have HNE := Lib.hid hne
      clear hcell hne
      have hc2 : wr.cell? ⟨B2, 0, none⟩ = some (.int .i64 D) := (hnx.cell (p := ⟨B2, 0, none⟩) hX2).trans HC2.out
      have hB2 : B2 < wr.heap.size := by have := HXs.out _ hX2; omega
      have hbw : bk < wr.heap.size := by omega
      have hx1 : (k : Int) < (L.length : Int) := by omega
      have hx4 : (0 : Int) ≤ (k : Int) := by omega
      have hJa : J (ofB (L.take k) D) (wr.alloc (.cells #[.int .i64 L[k].1.stay, .int .i64 L[k].1.channel, .int .i64 L[k].1.place, .int .i64 L[k].1.kind, .int .i64 L[k].1.frm, .int .i64 L[k].1.til, .int .i64 L[k].1.persons, .int .i64 L[k].1.price, .int .i64 L[k].1.keep] 25)) := abides_alloc hJ hJs _
      have hk1 : KeepOn X W (wr.alloc (.cells #[.int .i64 L[k].1.stay, .int .i64 L[k].1.channel, .int .i64 L[k].1.place, .int .i64 L[k].1.kind, .int .i64 L[k].1.frm, .int .i64 L[k].1.til, .int .i64 L[k].1.persons, .int .i64 L[k].1.price, .int .i64 L[k].1.keep] 25)) := hnx.alloc (fun i hi => by have := HXs.out i hi; omega) _
      have HK1 := Lib.hid hk1
      have hst := ofB_step (ch := D) hlt
      clear hk1
      by_cases hd : L[k].1.channel = D
      · have hb : (L[k].1.channel == D) = true := by simpa using hd
        rw [if_pos hd] at hst
        have hln : (ofB (L.take k) D).length < (ofB L D).length := by
          have := (ofB_prefix L D (k + 1)).length_le
          rw [hst, List.length_append] at this
          simp at this
          omega
        obtain ⟨fn, tmps, assign, body, hy, hR⟩ := HY.out _ L[k] _ hJa (by omega)
        have HSN := Lib.hid hst
        clear hst hd hln
        dsimp only [Bill.v] at hy
        gi_wp2
        refine hR.mono ?_
        rintro e W3 (⟨rfl, hJ3, hk3, hz3⟩ | ⟨rfl, hJx3⟩)
        · rw [World.size_alloc] at hz3
          gi_wp2
          go_roundw
          case rel => exact ⟨k + 1, by omega, by simp, by rw [HSN.out]; exact hJ3, HK1.out.trans hk3, by omega⟩
          case measure => simp [intOf]; omega
        · gi_wp2
          refine bodyPost_ret (results_none rfl _ _ _) rfl ?_
          exact ⟨⟨_, rfl⟩, .inr ⟨_, by rw [← HSN.out]; exact ofB_prefix L D _, hJx3⟩⟩
      · have hb : (L[k].1.channel == D) = false := by simpa using hd
        rw [if_neg hd] at hst
        have HSN := Lib.hid hst
        clear hst hd
        gi_wp2
        refine ⟨fun _ h => (by cases h), ?_⟩
        gi_wp2
        go_roundw
        case rel => exact ⟨k + 1, by omega, by simp, by rw [HSN.out]; exact hJa, HK1.out, by simp; omega⟩
        case measure => simp [intOf]; omega
    · obtain rfl : k = L.length := by omega
      gi_wp2
      go_end0
      refine ⟨⟨_, rfl⟩, .inl ⟨_, ?_, hJs⟩⟩
      rw [List.take_of_length_le (Nat.le_refl _)]
theorem of_any (A : Option Addr) (n c : Nat) (D : Int) (w : World) :
    Calls Try.prog 54 #[.slice A n c, .int .i64 D] w fun e w' => e = .returned (.func (.func 80) #[] #[.pointer (some ⟨w.heap.size, 0, none⟩), .pointer (some ⟨w.heap.size + 1, 0, none⟩)]) ∧ w' = (w.alloc (.cells #[.slice A n c] 44)).alloc (.cells #[.int .i64 D] 3) := by
  go_enter Try.func54, Try.ntmps54
  go_wp2
  go_ret
  exact ⟨rfl, rfl⟩
theorem of_stops (n : Nat) (hn : 1 ≤ n) (B1 B2 : Nat) (X : Nat → Prop) (L : List BOk) (D : Int) (A : Option Addr) (c : Nat) (w0 : World)
    (hX1 : X B1) (hX2 : X B2) (hXA : L ≠ [] → ∀ bk off, A = some ⟨bk, off, none⟩ → X bk) (hXs : ∀ k, X k → k < w0.heap.size)
    (c1 : w0.cell? ⟨B1, 0, none⟩ = some (.slice A L.length c)) (c2 : w0.cell? ⟨B2, 0, none⟩ = some (.int .i64 D))
    (hs : Sl w0 w0.heap.size 9 Bill.cs A (L.map (·.1))) (hl : L.length ≤ 140737488355328) :
    SeqStopsK Fence.wide n Try.prog 80 #[.pointer (some ⟨B1, 0, none⟩), .pointer (some ⟨B2, 0, none⟩)] (fun x : BOk => #[x.1.v]) (fun P Q => KeepOn X P Q ∧ P.heap.size ≤ Q.heap.size)
      (fun xs => xs = ofB L D) (fun pre => pre <+: ofB L D) (ofB L D).length w0 := fun l J Jx W hW hJ _ hY h0 =>
  of1_in n hn l B1 B2 X L D A c J Jx W hX1 hX2 hXA (fun k hk => Nat.lt_of_lt_of_le (hXs k hk) hW.size) hJ
    (fun pre x W1 h1 h2 => (hY pre x W1 h1 h2).mono fun e W' h => h)
    ((hW.cell (p := ⟨B1, 0, none⟩) (hXs _ hX1)).trans c1) ((hW.cell (p := ⟨B2, 0, none⟩) (hXs _ hX2)).trans c2)
    ((hs.below hW).more hW.size) hl h0
end Go.Proofs.Ythnncojbckifnaa
