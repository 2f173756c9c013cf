/-
  Package rooms and its reference: how many rooms of a house and a kind are free.
-/
import Derived.Test.YtphapnooonjnmaaRmW5
import Derived.Test.YtphapnooonjnmaaRmLaw
import Derived.Test.YtphapnooonjnmaaIter
namespace Go.Proofs.Ytphapnooonjnmaa
set_option linter.unusedSimpArgs false
set_option linter.unusedVariables false
open Go.RowKit Go.Maps Go.Shelf
open Go.Sort (grow size_grow)

set_option maxHeartbeats 4000000
set_option maxRecDepth 100000
attribute [local go_sem] Oper.semAt_some
/-- A room with the place of its spans, which read in a world. -/
abbrev RoomX (w0 : World) := { x : RoomA // SlSpn w0 x.2.1 x.1.blk ∧ x.1.ok = true ∧ x.1.blk.length ≤ 400 }
def encX {w0 : World} (x : RoomX w0) : List Value := encA x.1
theorem encX_len {w0 : World} (x : RoomX w0) : (encX x).length = 6 := rfl
theorem SlRoom.toX {w : World} {A : Option Addr} {l : List Room} (h : SlRoom w A l) (hok : ∀ r ∈ l, r.ok = true) (hT : Tame l) : ∃ L : List (RoomX w), L.map (·.1.1) = l ∧ Sl w w.heap.size 6 encX A L := by
  obtain ⟨L, rfl, h1, h2⟩ := h.toA
  have hp : ∀ x ∈ L, SlSpn w x.2.1 x.1.blk ∧ x.1.ok = true ∧ x.1.blk.length ≤ 400 := fun x hx => ⟨h2 x hx, hok _ (List.mem_map.2 ⟨x, hx, rfl⟩), (hT _ (List.mem_map.2 ⟨x, hx, rfl⟩)).1⟩
  refine ⟨L.pmap (fun x hx => ⟨x, hx⟩) hp, ?_, fun hne => ?_⟩
  · rw [List.map_pmap]
    simp
  · obtain ⟨b, off, e, hb, hc⟩ := h1 (by rintro rfl; exact hne rfl)
    refine ⟨b, off, e, hb, fun k hk j v hv => ?_⟩
    rw [List.length_pmap] at hk
    rw [List.getElem_pmap] at hv
    exact hc k hk j v hv
def ofX {w0 : World} (L : List (RoomX w0)) (D E : Int) : List (RoomX w0) := L.filter fun x => isHK D E x.1.1
theorem ofX_step {w0 : World} {L : List (RoomX w0)} {D E : Int} {j : Nat} (h : j < L.length) : ofX (L.take (j + 1)) D E = if isHK D E L[j].1.1 = true then ofX (L.take j) D E ++ [L[j]] else ofX (L.take j) D E := by
  unfold ofX
  rw [List.take_succ_eq_append_getElem h, List.filter_append]
  by_cases hd : isHK D E L[j].1.1 = true
  · rw [if_pos hd]; simp [hd]
  · rw [if_neg hd]; simp [hd]
theorem ofX_prefix {w0 : World} (L : List (RoomX w0)) (D E : Int) (k : Nat) : ofX (L.take k) D E <+: ofX L D E := (List.take_prefix k L).filter _
theorem rof1_in {w0 : World} (n : Nat) (hn : 1 ≤ n) (l B1 B2 B3 : Nat) (X : Nat → Prop) (L : List (RoomX w0)) (D E : Int) (A : Option Addr) (c : Nat) (J Jx : List (RoomX w0) → World → Prop) (W : World)
    (hX1 : X B1) (hX2 : X B2) (hX3 : X B3) (hXA : L ≠ [] → ∀ bk off, A = some ⟨bk, off, none⟩ → X bk) (hXs : ∀ k, X k → k < W.heap.size) (hJ : AbidesFrom W.heap.size J)
    (hY : ∀ pre x W1, J pre W1 → pre.length < (ofX L D E).length → YieldAt Fence.wide (n - 1) Try.prog l #[x.1.1.v x.1.2.1 x.1.2.2] W1 fun e W' =>
      (e = .returned (.bool true) ∧ J (pre ++ [x]) W' ∧ KeepOn X W1 W' ∧ W1.heap.size ≤ W'.heap.size) ∨ (e = .returned (.bool false) ∧ Jx (pre ++ [x]) W'))
    (c1 : W.cell? ⟨B1, 0, none⟩ = some (.slice A L.length c)) (c2 : W.cell? ⟨B2, 0, none⟩ = some (.int .i64 D)) (c3 : W.cell? ⟨B3, 0, none⟩ = some (.int .i64 E))
    (hs : Sl W W.heap.size 6 encX A L) (hl : L.length ≤ 140737488355328) (h0 : J [] W) :
    CallsIn Fence.wide n Try.prog 50 #[.func (.yield l) #[] #[], .pointer (some ⟨B1, 0, none⟩), .pointer (some ⟨B2, 0, none⟩), .pointer (some ⟨B3, 0, none⟩)] W fun e W' => (∃ v, e = .returned v) ∧
      ((∃ xs, xs = ofX L D E ∧ J xs W') ∨ (∃ pre, pre <+: ofX L D E ∧ Jx pre W')) := by
  have HY := Lib.hid hY
  have HXA := Lib.hid hXA
  have HXs := Lib.hid hXs
  have HC2 := Lib.hid c2
  have HC3 := Lib.hid c3
  clear hY hXA hXs c2 c3
  refine callsIn_of_wp Try.func50 rfl trivial ?_ rfl
  simp only [Try.ntmps50, List.size_toArray, List.length_cons, List.length_nil, Nat.reduceAdd, Nat.reduceSub, Array.replicate_succ, Array.replicate_zero, List.push_toArray, List.append_toArray, List.nil_append, List.cons_append]
  gi_wp2
  gi_loopw [9] (fun i wr => ∃ k : Nat, k ≤ L.length ∧ i = .int .i64 k ∧ J (ofX (L.take k) D E) wr ∧ KeepOn X W wr ∧ W.heap.size ≤ wr.heap.size) (fun i _ => L.length - (intOf i).toNat)
  case atStart => exact ⟨0, Nat.zero_le _, rfl, h0, KeepOn.refl _ _, Nat.le_refl _⟩
  case round =>
    obtain ⟨k, hk, rfl, hJs, hnx, hsz⟩ := hrel
    by_cases hlt : k < L.length
    · have hne : L ≠ [] := by rintro rfl; simp at hlt
      obtain ⟨bk, off, rfl, hbl, hcell⟩ := (hs.keepOn hnx (fun _ => HXA.out hne)).at_ hlt
      have q0 := hcell 0 _ rfl
      have q1 := hcell 1 _ rfl
      have q2 := hcell 2 _ rfl
      have q3 := hcell 3 _ rfl
      have q4 := hcell 4 _ rfl
      have q5 := hcell 5 _ rfl
      rw [Nat.add_zero] at q0
      have HNE := Lib.hid hne
      clear hcell hne
      have hc2 : wr.cell? ⟨B2, 0, none⟩ = some (.int .i64 D) := (hnx.cell (p := ⟨B2, 0, none⟩) hX2).trans HC2.out
      have hc3 : wr.cell? ⟨B3, 0, none⟩ = some (.int .i64 E) := (hnx.cell (p := ⟨B3, 0, none⟩) hX3).trans HC3.out
      have hB2 : B2 < wr.heap.size := by have := HXs.out _ hX2; omega
      have hB3 : B3 < wr.heap.size := by have := HXs.out _ hX3; omega
      have hbw : bk < wr.heap.size := by omega
      have hx1 : (k : Int) < (L.length : Int) := by omega
      have hx4 : (0 : Int) ≤ (k : Int) := by omega
      have hJa : J (ofX (L.take k) D E) (wr.alloc (.cells (roomCells L[k].1.1 L[k].1.2.1 L[k].1.2.2) 25)) := abides_alloc hJ hJs _
      have hk1 : KeepOn X W (wr.alloc (.cells (roomCells L[k].1.1 L[k].1.2.1 L[k].1.2.2) 25)) := hnx.alloc (fun i hi => by have := HXs.out i hi; omega) _
      have HK1 := Lib.hid hk1
      have hst := ofX_step (D := D) (E := E) hlt
      clear hk1
      by_cases hd : L[k].1.1.house = D
      · have hb : (L[k].1.1.house == D) = true := by simpa using hd
        by_cases hd2 : L[k].1.1.kind = E
        · have hb2 : (L[k].1.1.kind == E) = true := by simpa using hd2
          rw [if_pos (by unfold isHK; rw [hb, hb2]; rfl)] at hst
          have hln : (ofX (L.take k) D E).length < (ofX L D E).length := by
            have := (ofX_prefix L D E (k + 1)).length_le
            rw [hst, List.length_append] at this
            simp at this
            omega
          obtain ⟨fn, tmps, assign, body, hy, hR⟩ := HY.out _ L[k] _ hJa (by omega)
          have HSN := Lib.hid hst
          clear hst hd hln hd2
          gi_wp2
          refine hR.mono ?_
          rintro e W3 (⟨rfl, hJ3, hk3, hz3⟩ | ⟨rfl, hJx3⟩)
          · rw [World.size_alloc] at hz3
            gi_wp2
            go_roundw
            case rel => exact ⟨k + 1, by omega, by simp, by rw [HSN.out]; exact hJ3, HK1.out.trans hk3, by omega⟩
            case measure => simp [intOf]; omega
          · gi_wp2
            refine bodyPost_ret (results_none rfl _ _ _) rfl ?_
            exact ⟨⟨_, rfl⟩, .inr ⟨_, by rw [← HSN.out]; exact ofX_prefix L D E _, hJx3⟩⟩
        · have hb2 : (L[k].1.1.kind == E) = false := by simpa using hd2
          rw [if_neg (by unfold isHK; rw [hb, hb2]; simp)] at hst
          have HSN := Lib.hid hst
          clear hst hd hd2
          gi_wp2
          refine ⟨fun _ h => (by cases h), ?_⟩
          gi_wp2
          go_roundw
          case rel => exact ⟨k + 1, by omega, by simp, by rw [HSN.out]; exact hJa, HK1.out, by simp; omega⟩
          case measure => simp [intOf]; omega
      · have hb : (L[k].1.1.house == D) = false := by simpa using hd
        rw [if_neg (by unfold isHK; rw [hb]; simp)] at hst
        have HSN := Lib.hid hst
        clear hst hd
        gi_wp2
        refine ⟨fun _ h => (by cases h), ?_⟩
        gi_wp2
        go_roundw
        case rel => exact ⟨k + 1, by omega, by simp, by rw [HSN.out]; exact hJa, HK1.out, by simp; omega⟩
        case measure => simp [intOf]; omega
    · obtain rfl : k = L.length := by omega
      gi_wp2
      go_end0
      refine ⟨⟨_, rfl⟩, .inl ⟨_, ?_, hJs⟩⟩
      rw [List.take_of_length_le (Nat.le_refl _)]
theorem rof_any (A : Option Addr) (n c : Nat) (D E : Int) (w : World) :
    Calls Try.prog 38 #[.slice A n c, .int .i64 D, .int .i64 E] w fun e w' => e = .returned (.func (.func 50) #[] #[.pointer (some ⟨w.heap.size, 0, none⟩), .pointer (some ⟨w.heap.size + 1, 0, none⟩), .pointer (some ⟨w.heap.size + 1 + 1, 0, none⟩)]) ∧ w' = ((w.alloc (.cells #[.slice A n c] 22)).alloc (.cells #[.int .i64 D] 3)).alloc (.cells #[.int .i64 E] 3) := by
  go_enter Try.func38, Try.ntmps38
  go_wp2
  go_ret
  exact ⟨rfl, rfl⟩
theorem rof_stops {w1 : World} (n : Nat) (hn : 1 ≤ n) (B1 B2 B3 : Nat) (X : Nat → Prop) (L : List (RoomX w1)) (D E : Int) (A : Option Addr) (c : Nat) (w0 : World)
    (hX1 : X B1) (hX2 : X B2) (hX3 : X B3) (hXA : L ≠ [] → ∀ bk off, A = some ⟨bk, off, none⟩ → X bk) (hXs : ∀ k, X k → k < w0.heap.size)
    (c1 : w0.cell? ⟨B1, 0, none⟩ = some (.slice A L.length c)) (c2 : w0.cell? ⟨B2, 0, none⟩ = some (.int .i64 D)) (c3 : w0.cell? ⟨B3, 0, none⟩ = some (.int .i64 E))
    (hs : Sl w0 w0.heap.size 6 encX A L) (hl : L.length ≤ 140737488355328) :
    SeqStopsK Fence.wide n Try.prog 50 #[.pointer (some ⟨B1, 0, none⟩), .pointer (some ⟨B2, 0, none⟩), .pointer (some ⟨B3, 0, none⟩)] (fun x : RoomX w1 => #[x.1.1.v x.1.2.1 x.1.2.2]) (fun P Q => KeepOn X P Q ∧ P.heap.size ≤ Q.heap.size)
      (fun xs => xs = ofX L D E) (fun pre => pre <+: ofX L D E) (ofX L D E).length w0 := fun l J Jx W hW hJ _ hY h0 =>
  rof1_in n hn l B1 B2 B3 X L D E A c J Jx W hX1 hX2 hX3 hXA (fun k hk => Nat.lt_of_lt_of_le (hXs k hk) hW.size) hJ
    (fun pre x W1 h1 h2 => (hY pre x W1 h1 h2).mono fun e W' h => h)
    ((hW.cell (p := ⟨B1, 0, none⟩) (hXs _ hX1)).trans c1) ((hW.cell (p := ⟨B2, 0, none⟩) (hXs _ hX2)).trans c2) ((hW.cell (p := ⟨B3, 0, none⟩) (hXs _ hX3)).trans c3)
    ((hs.below hW).more hW.size) hl h0
def cntX {w0 : World} (pre : List (RoomX w0)) (n : Int) : Nat := pre.countP fun x => freeR x.1.1.blk (nightS n)
theorem cntX_snoc {w0 : World} (pre : List (RoomX w0)) (x : RoomX w0) (n : Int) : cntX (pre ++ [x]) n = cntX pre n + if freeR x.1.1.blk (nightS n) = true then 1 else 0 := by
  unfold cntX
  rw [List.countP_append]
  congr 1
  rw [List.countP_cons, List.countP_nil]
  simp
theorem cntX_of {w0 : World} (L : List (RoomX w0)) (D E n : Int) : cntX (ofX L D E) n = cntM (L.map (·.1.1)) D E n := by
  unfold cntX ofX cntM
  rw [List.countP_filter, List.countP_map]
  congr 1
  funext x
  simp [Bool.and_comm]
structure CntI (w w0 : World) (M : Nat) (n : Int) (pre : List (RoomX w0)) (W : World) : Prop where
  cnt : W.cell? ⟨M, 0, none⟩ = some (.int .i64 (cntX pre n))
  fr : W.frozen? ⟨M, 0, none⟩ = false
  night : W.cell? ⟨w.heap.size, 0, none⟩ = some (.int .i64 n)
  size : M + 1 + 1 + 1 + 1 ≤ W.heap.size
  below : Below w.heap.size w W
theorem cntI_own {w w0 : World} {M : Nat} {n : Int} {B : Nat} (hB : w.heap.size ≤ B) : OwnFrom B (CntI w w0 M n) := fun s W W' row h hg hr => by
  have hr' : ∀ r, row = some r → ∃ o : Obj, W.heap[r]? = some o ∧ o.isCells = false := fun r e => (hr r e).2
  exact ⟨cell_kept h.cnt hg hr', (frozen_kept h.cnt hg hr').trans h.fr, cell_kept h.night hg hr', size_keptN h.size hg, h.below.grown hg h.below.size (fun k e => Nat.le_trans hB (hr k e).1)⟩
end Go.Proofs.Ytphapnooonjnmaa
