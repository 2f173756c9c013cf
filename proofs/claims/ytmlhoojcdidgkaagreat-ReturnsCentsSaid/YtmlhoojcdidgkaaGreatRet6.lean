/-
  Package returns: the iterator over all places.
-/
import Derived.Test.YtmlhoojcdidgkaaGreatRet1
import Derived.Test.YtmlhoojcdidgkaaGreatM04
import Derived.Test.YtmlhoojcdidgkaaGreatM10
namespace Go.Proofs.YtmlhoojcdidgkaaGreat
set_option linter.unusedSimpArgs false
set_option linter.unusedVariables false
open Go.RowKit Go.Maps Go.Shelf
open Go.Sort (grow size_grow)

set_option maxHeartbeats 4000000
set_option maxRecDepth 100000
attribute [local go_sem] Oper.semAt_some
abbrev PV := { x : Int × Int // 1 ≤ x.1 ∧ x.1 ≤ 99 ∧ 0 ≤ x.2 ∧ x.2 ≤ 1000000001 }
def placeV (ts : List Tax) (bills : List Bill) (k : Nat) : PV :=
  if h : k < 99 then ⟨((k : Int) + 1, min (placeN ts bills ((k : Int) + 1)) 1000000001), by have := placeN_nn ts ((k : Int) + 1) bills; simp only; omega⟩ else ⟨(1, 0), by simp⟩
theorem placeV_val (ts : List Tax) (bills : List Bill) {k : Nat} (h : k < 99) : (placeV ts bills k).1 = ((k : Int) + 1, min (placeN ts bills ((k : Int) + 1)) 1000000001) := by unfold placeV; rw [dif_pos h]
def placesL (ts : List Tax) (bills : List Bill) (m : Nat) : List PV := (List.range m).map (placeV ts bills)
theorem placesL_succ (ts : List Tax) (bills : List Bill) (m : Nat) : placesL ts bills (m + 1) = placesL ts bills m ++ [placeV ts bills m] := by
  unfold placesL
  rw [List.range_succ, List.map_append]
  rfl
theorem placesL_len (ts : List Tax) (bills : List Bill) (m : Nat) : (placesL ts bills m).length = m := by unfold placesL; simp
theorem placesL_prefix (ts : List Tax) (bills : List Bill) {m n : Nat} (h : m ≤ n) : placesL ts bills m <+: placesL ts bills n := by
  obtain ⟨d, rfl⟩ : ∃ d, n = m + d := ⟨n - m, by omega⟩
  clear h
  induction d with
  | zero => exact List.prefix_refl _
  | succ d ih => exact ih.trans (by rw [show m + (d + 1) = m + d + 1 from rfl, placesL_succ]; exact List.prefix_append _ _)
theorem owns_walks {W W' : World} {P : Program} {k : TypeId} {R : Value → Option (DM × List MemPlace)} {b n : Nat} {D : DM} (h : KeepsWalks W W') (ho : W.ownsMap P k R b n D) : W'.ownsMap P k R b n D := by
  obtain ⟨es, clock, hb, hr⟩ := ho
  exact ⟨es, clock, h.same _ _ hb rfl, hr⟩
theorem places1_in (n : Nat) (hn : 1 ≤ n) (l B1 B2 : Nat) (ts : List Tax) (bills : List Bill) (A B : Option Addr) (c d : Nat) (J Jx : List PV → World → Prop) (W : World)
    (hJ : AbidesFrom W.heap.size J)
    (hY : ∀ pre x W1, J pre W1 → pre.length < 99 → YieldAt Fence.wide (n - 1) Tryz.prog l #[.int .i64 x.1.1, .int .i64 x.1.2] W1 fun e W' =>
      (e = .returned (.bool true) ∧ J (pre ++ [x]) W' ∧ KeepsWalks W1 W') ∨ (e = .returned (.bool false) ∧ Jx (pre ++ [x]) W'))
    (c1 : W.cell? ⟨B1, 0, none⟩ = some (.slice A ts.length c)) (c2 : W.cell? ⟨B2, 0, none⟩ = some (.slice B bills.length d))
    (ht : SlTax W A ts) (hs : SlBill W B bills) (hl : bills.length ≤ 3000) (hl2 : ts.length ≤ 1000000000000) (hk : ∀ b ∈ bills, b.ok = true) (h0 : J [] W) :
    CallsIn Fence.wide n Tryz.prog 71 #[.func (.yield l) #[] #[], .pointer (some ⟨B1, 0, none⟩), .pointer (some ⟨B2, 0, none⟩)] W fun e W' => (∃ v, e = .returned v) ∧
      ((∃ xs, xs = placesL ts bills 99 ∧ J xs W') ∨ (∃ pre, pre <+: placesL ts bills 99 ∧ Jx pre W')) := by
  have HY := Lib.hid hY
  have HK := Lib.hid hk
  clear hY hk
  refine callsIn_of_wp Tryz.func71 rfl trivial ?_ rfl
  simp only [Tryz.ntmps71, List.size_toArray, List.length_cons, List.length_nil, Nat.reduceAdd, Nat.reduceSub, Array.replicate_succ, Array.replicate_zero, List.push_toArray, List.append_toArray, List.nil_append, List.cons_append]
  gi_wp2_with (refine ⟨trivial, ?_⟩; gi_at_call 32; refine (callsIn_wide.2 (rsums_any ts bills A B c d _ ht hs hl hl2 HK.out)).mono ?_; rintro e w3 ⟨⟨bm, D, rfl, hown, hP⟩, hb3⟩)
  have HP := Lib.hid hP
  clear hP
  gi_loopw [5] (fun i wr => ∃ k : Nat, k ≤ 99 ∧ i = .int .i64 ((k : Int) + 1) ∧ J (placesL ts bills k) wr ∧ wr.ownsMap Tryz.prog 3 (plainElem Tryz.prog 3) bm bills.length D) (fun i _ => 100 - (intOf i).toNat)
  case atStart => exact ⟨0, by omega, rfl, abides_below hJ h0 hb3, hown⟩
  case round =>
    obtain ⟨k, hk, rfl, hJs, hown⟩ := hrel
    by_cases hlt : k < 99
    · have hx1 : (k : Int) + 1 ≤ 99 := by omega
      have hx0 : (0 : Int) ≤ (k : Int) := by omega
      obtain ⟨v, hrun, hat, hwc⟩ := hown.lookup_int (t := 76) keyedI Tryz.underlying76 Tryz.underlying3 (zero_int _) (key := .int .i64 ((k : Int) + 1)) (keyOf_int_mk Tryz.underlying3 (WalkArith.wf_i64 (by omega)))
      have hv : v = min (placeN ts bills ((k : Int) + 1)) 1000000001 := by
        rw [← HP.out.at_]
        exact (getI_of hat).symm
      have HSN := Lib.hid (placesL_succ ts bills k)
      have hpv := placeV_val ts bills hlt
      rw [← hv] at hpv
      have hyy := HY.out _ (placeV ts bills k) _ hJs (by rw [placesL_len]; omega)
      rw [hpv] at hyy
      clear hv hat hwc hpv
      obtain ⟨fn, tmps, assign, body, hy, hR⟩ := hyy
      gi_wp2
      refine hR.mono ?_
      rintro e W3 (⟨rfl, hJ3, hk3⟩ | ⟨rfl, hJx3⟩)
      · gi_wp2
        go_roundw
        case rel => exact ⟨k + 1, by omega, by simp, by rw [HSN.out]; exact hJ3, owns_walks hk3 hown⟩
        case measure => simp [intOf]; omega
      · gi_wp2
        refine bodyPost_ret (results_none rfl _ _ _) rfl ?_
        exact ⟨⟨_, rfl⟩, .inr ⟨_, by rw [← HSN.out]; exact placesL_prefix ts bills (by omega), hJx3⟩⟩
    · obtain rfl : k = 99 := by omega
      gi_wp2
      go_end0
      exact ⟨⟨_, rfl⟩, .inl ⟨_, rfl, hJs⟩⟩
theorem places_any (A B : Option Addr) (n m c d : Nat) (w : World) :
    Calls Tryz.prog 39 #[.slice A n c, .slice B m d] w fun e w' => e = .returned (.func (.func 71) #[] #[.pointer (some ⟨w.heap.size, 0, none⟩), .pointer (some ⟨w.heap.size + 1, 0, none⟩)]) ∧ w' = (w.alloc (.cells #[.slice A n c] 23)).alloc (.cells #[.slice B m d] 22) := by
  go_enter Tryz.func39, Tryz.ntmps39
  go_wp2
  go_ret
  exact ⟨rfl, rfl⟩
theorem places_stops (n : Nat) (hn : 1 ≤ n) (B1 B2 : Nat) (ts : List Tax) (bills : List Bill) (A B : Option Addr) (c d : Nat) (w0 : World)
    (c1 : w0.cell? ⟨B1, 0, none⟩ = some (.slice A ts.length c)) (c2 : w0.cell? ⟨B2, 0, none⟩ = some (.slice B bills.length d)) (l1 : B1 < w0.heap.size) (l2 : B2 < w0.heap.size)
    (ht : SlTax w0 A ts) (hs : SlBill w0 B bills) (hl : bills.length ≤ 3000) (hl2 : ts.length ≤ 1000000000000) (hk : ∀ b ∈ bills, b.ok = true) :
    SeqStopsK Fence.wide n Tryz.prog 71 #[.pointer (some ⟨B1, 0, none⟩), .pointer (some ⟨B2, 0, none⟩)] (fun x : PV => #[.int .i64 x.1.1, .int .i64 x.1.2]) KeepsWalks
      (fun xs => xs = placesL ts bills 99) (fun pre => pre <+: placesL ts bills 99) 99 w0 := fun l J Jx W hW hJ _ hY h0 =>
  places1_in n hn l B1 B2 ts bills A B c d J Jx W hJ (fun pre x W1 h1 h2 => (hY pre x W1 h1 h2).mono fun e W' h => h)
    ((hW.cell (p := ⟨B1, 0, none⟩) l1).trans c1) ((hW.cell (p := ⟨B2, 0, none⟩) l2).trans c2) (ht.up hW) (hs.up hW) hl hl2 hk h0
end Go.Proofs.YtmlhoojcdidgkaaGreat
