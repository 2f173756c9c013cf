/-
  Package commission: whether a list consists of bills (a map of the stays that were seen).
-/
import Derived.Test.YthnncojbckifnaaCom1
import Derived.Test.YthnncojbckifnaaLed7
namespace Go.Proofs.Ythnncojbckifnaa
set_option linter.unusedSimpArgs false
set_option linter.unusedVariables false
open Go.RowKit Go.Maps
open Go.Sort (grow size_grow)

set_option maxHeartbeats 4000000
set_option maxRecDepth 100000
abbrev SlBill (w : World) (A : Option Addr) (l : List Bill) : Prop := Sl w w.heap.size 9 Bill.cs A l
theorem bill_len (b : Bill) : b.cs.length = 9 := rfl
def stays (l : List Bill) : List Int := l.map Bill.stay
def billsOk (l : List Bill) : Bool := l.all Bill.ok && decide (stays l).Nodup
theorem billsOk_iff {l : List Bill} : billsOk l = true ↔ (∀ b ∈ l, b.ok = true) ∧ (stays l).Nodup := by
  unfold billsOk
  rw [Bool.and_eq_true, decide_eq_true_eq, List.all_eq_true]
abbrev vB (x : Bool) : DM := .lit (.bool x)
structure SeenOf (D : DM) (ls : List Int) : Prop where
  tidy : Tidy D
  at_ : ∀ a, D.atKey (kI a) (vB false) = vB (decide (a ∈ ls))
theorem seen_empty : SeenOf (.map []) [] := ⟨tidy_empty, fun a => rfl⟩
theorem SeenOf.put {D : DM} {ls : List Int} (h : SeenOf D ls) (a : Int) : SeenOf (D.put (kI a) (vB true)) (ls ++ [a]) := by
  refine ⟨h.tidy.put (kI_key a) _, fun b => ?_⟩
  by_cases e : b = a
  · subst e
    rw [atKey_put_same h.tidy.isMap (kI_key b)]
    simp
  · rw [atKey_put_other (kI_ne e), h.at_]
    simp [e]
theorem plainB_inv {v : Value} {x : Bool} {ps : List MemPlace} (h : plainElem (H := Unit) Try.prog 4 v = some (vB x, ps)) : v = .bool x := by
  unfold plainElem at h
  rw [Try.underlying4] at h
  cases v <;> simp at h
  obtain ⟨rfl, _⟩ := h
  rfl
theorem zero_bool (w : World) : (zeroValue 4).run Try.prog w = .ok (.bool false) w := by kernel_rfl
abbrev OwnB (w : World) (blk n : Nat) (D : DM) : Prop := w.ownsMap Try.prog 3 (plainElem Try.prog 4) blk n D
theorem twice_any (b : Bill) (b3 blk n : Nat) (D : DM) (ls : List Int) (w : World) (hS : SeenOf D ls) (hown : OwnB w blk n D) (hn : n ≤ 1000000000) (h3 : w.cell? ⟨b3, 0, none⟩ = some (.map (some blk))) (hb3 : b3 < w.heap.size) (s0 : 1 ≤ b.stay) (s1 : b.stay ≤ 1000000) :
    Calls Try.prog 77 #[b.v, .pointer (some ⟨b3, 0, none⟩)] w fun e w' => e = .returned (.bool (decide (b.stay ∈ ls))) ∧ OwnB w' blk (n + 1) (D.put (kI b.stay) (vB true)) ∧ w.grownBy w' (some blk) := by
  have hown1 := hown.alloc (.cells #[.int .i64 b.stay, .int .i64 b.channel, .int .i64 b.place, .int .i64 b.kind, .int .i64 b.frm, .int .i64 b.til, .int .i64 b.persons, .int .i64 b.price, .int .i64 b.keep] 25)
  have hkey : keyOf Try.prog 3 (.int .i64 b.stay) = some (.int .i64 b.stay) := keyOf_int_mk Try.underlying3 (WalkArith.wf_i64 (by omega))
  obtain ⟨v, ps, hrun, hv⟩ := hown1.lookup (t := 104) keyedI' Try.underlying104 (zero_bool _) (zd := vB false) (zp := []) (plainElem_bool Try.underlying4 false) hkey
  rw [show (D.atKey (Lit.int .i64 b.stay) (vB false)) = vB (decide (b.stay ∈ ls)) from hS.at_ _] at hv
  obtain rfl := plainB_inv hv
  obtain ⟨w2, hrun2, o2, g2⟩ := hown1.update (t := 104) keyedI' Try.underlying104 (by unfold maxLen; omega) (val := .bool true) (d := vB true) (ps := []) hkey (plainElem_bool Try.underlying4 true)
  have hg := (World.grownBy_alloc w (.cells #[.int .i64 b.stay, .int .i64 b.channel, .int .i64 b.place, .int .i64 b.kind, .int .i64 b.frm, .int .i64 b.til, .int .i64 b.persons, .int .i64 b.price, .int .i64 b.keep] 25) (some blk)).trans g2
  go_enter Try.func77, Try.ntmps77
  go_wp2_with fail
  go_ret
  exact ⟨rfl, o2, hg⟩
theorem badBill_no (b : Bill) (b4 : Nat) (w : World) (hok : b.ok = false) :
    Calls Try.prog 79 #[b.v, .pointer (some ⟨b4, 0, none⟩)] w fun e w' => e = .returned (.bool true) ∧ Below w.heap.size w w' := by
  go_enter Try.func79, Try.ntmps79
  go_wp2_with (go_at_call 50; refine (isBill_any b _).mono ?_; rintro e w1 ⟨rfl, hb1⟩; have hz1 := hb1.size; (try simp only [World.size_alloc, World.size_setCell, World.size_drew, size_drewN', size_grow, size_redrawn] at hz1); obtain ⟨hc1, hf1⟩ := bcellB (B := w.heap.size + 1) hb1 (by first | omega | (simp only [World.size_alloc, World.size_setCell, World.size_drew, size_drewN', size_grow, size_redrawn]; omega)); rw [hok])
  go_ret
  refine ⟨ret_bool (by simp), ?_⟩
  repeat' (first
    | (with_reducible exact Below.refl _ _)
    | (with_reducible assumption)
    | (with_reducible refine below_drewN ?_ _)
    | (with_reducible refine Below.drew ?_)
    | (with_reducible refine below_regrown_up _ _ ?_ ?_)
    | (with_reducible refine Below.alloc ?_ ?_ _)
    | (with_reducible refine Below.setCell ?_ ?_ _)
    | (with_reducible refine below_up ?_ ?_ (by assumption))
    | (with_reducible exact Nat.le_refl _)
    | omega
    | (simp; done)
    | (simp; omega))
theorem badBill_ok (b : Bill) (b3 b4 blk n : Nat) (D : DM) (ls : List Int) (w : World) (hS : SeenOf D ls) (hown : OwnB w blk n D) (hn : n ≤ 1000000000) (h3 : w.cell? ⟨b3, 0, none⟩ = some (.map (some blk))) (hb3 : b3 < w.heap.size)
    (h4 : w.cell? ⟨b4, 0, none⟩ = some (.func (.func 77) #[] #[.pointer (some ⟨b3, 0, none⟩)])) (hb4 : b4 < w.heap.size) (hok : b.ok = true) :
    Calls Try.prog 79 #[b.v, .pointer (some ⟨b4, 0, none⟩)] w fun e w' => e = .returned (.bool (decide (b.stay ∈ ls))) ∧ OwnB w' blk (n + 1) (D.put (kI b.stay) (vB true)) ∧ w.grownBy w' (some blk) := by
  obtain ⟨s0, s1⟩ := (Bill.ok_iff.1 hok).2.2.2.1
  have hS' := Lib.hid hS
  clear hS
  go_enter Try.func79, Try.ntmps79
  go_wp2_with fail
  refine (isBill_any b _).mono ?_
  rintro e w1 ⟨rfl, hb1⟩; have hz1 := hb1.size; (try simp only [World.size_alloc, World.size_setCell, World.size_drew, size_drewN', size_grow, size_redrawn] at hz1); obtain ⟨hc1, hf1⟩ := bcellB (B := w.heap.size + 1) hb1 (by first | omega | (simp only [World.size_alloc, World.size_setCell, World.size_drew, size_drewN', size_grow, size_redrawn]; omega))
  rw [hok]
  have k3 : w1.cell? ⟨b3, 0, none⟩ = some (.map (some blk)) := by rw [hc1 _ _ (by omega)]; go_simp
  have k4 : w1.cell? ⟨b4, 0, none⟩ = some (.func (.func 77) #[] #[.pointer (some ⟨b3, 0, none⟩)]) := by rw [hc1 _ _ (by omega)]; go_simp
  have ho1 : OwnB w1 blk n D := (hown.alloc _).kept (grownBy_below hb1 none) (by simp)
  have hg1 : w.grownBy w1 (some blk) := (World.grownBy_alloc w _ (some blk)).trans (grownBy_below hb1 (some blk))
  go_wp2_with fail
  refine (twice_any b b3 blk n D ls _ hS'.out ho1 hn k3 (by omega) s0 s1).mono ?_
  rintro e w2 ⟨rfl, ho2, hg2⟩
  go_wp2_with fail
  go_ret
  exact ⟨ret_bool (by simp), ho2, hg1.trans hg2⟩
theorem billsOk_bad {l : List Bill} {m : Nat} (hm : m < l.length) (h : l[m].ok = false) : billsOk l = false := by
  cases hb : billsOk l
  · rfl
  · have := (billsOk_iff.1 hb).1 _ (List.getElem_mem hm)
    rw [h] at this
    cases this
theorem stays_take {l : List Bill} {m : Nat} (hm : m < l.length) : stays (l.take (m + 1)) = stays (l.take m) ++ [l[m].stay] := by
  unfold stays
  rw [List.take_succ_eq_append_getElem hm, List.map_append]
  rfl
theorem billsOk_twice {l : List Bill} {m : Nat} (hm : m < l.length) (h : l[m].stay ∈ stays (l.take m)) : billsOk l = false := by
  cases hb : billsOk l
  · rfl
  · have hn := (billsOk_iff.1 hb).2
    have hs : (stays (l.take (m + 1))).Sublist (stays l) := (List.take_sublist _ _).map _
    have := hn.sublist hs
    rw [stays_take hm] at this
    exact absurd rfl ((List.nodup_append.1 this).2.2 _ h _ (by simp))
theorem nodup_snoc {ls : List Int} {a : Int} (h : ls.Nodup) (ha : a ∉ ls) : (ls ++ [a]).Nodup := by
  refine List.nodup_append.2 ⟨h, by simp, fun x hx y hy => ?_⟩
  simp at hy
  subst hy
  intro e
  exact ha (e ▸ hx)
theorem idx_bill_any (l : List Bill) (A : Option Addr) (c base b3 b4 blk : Nat) (w : World) (hs : Sl w base 9 Bill.cs A l) (hl : l.length ≤ 3000) (hown : OwnB w blk 0 (.map [])) (hbase : base ≤ w.heap.size) (hblk : base ≤ blk)
    (h3 : w.cell? ⟨b3, 0, none⟩ = some (.map (some blk))) (hb3 : b3 < w.heap.size) (n3 : b3 ≠ blk) (h4 : w.cell? ⟨b4, 0, none⟩ = some (.func (.func 77) #[] #[.pointer (some ⟨b3, 0, none⟩)])) (hb4 : b4 < w.heap.size) (n4 : b4 ≠ blk) :
    Calls Try.prog 102 #[.slice A l.length c, .func (.func 79) #[] #[.pointer (some ⟨b4, 0, none⟩)]] w fun e w' => (∃ k : Int, e = .returned (.int .i64 k) ∧ decide (0 ≤ k) = !billsOk l ∧ -1 ≤ k) ∧ w.grownBy w' (some blk) := by
  go_enter Try.func102, Try.ntmps102
  go_wp2
  go_loopw [8] (fun k wr => ∃ (m : Nat) (D : DM), m ≤ l.length ∧ k = .int .i64 m ∧ OwnB wr blk m D ∧ Hid (SeenOf D (stays (l.take m)) ∧ (∀ x ∈ l.take m, x.ok = true) ∧ (stays (l.take m)).Nodup) ∧ w.grownBy wr (some blk)) (fun k _ => l.length - (intOf k).toNat)
  case atStart => exact ⟨0, .map [], by omega, rfl, hown, Lib.hid ⟨seen_empty, by simp, by simp [stays]⟩, World.grownBy.refl _ _⟩
  case round =>
    obtain ⟨m, D, hm, rfl, ho, hS, hg⟩ := hrel
    have hgz := hg.size
    have hbw : Below base w wr := (Below.refl base w).grown hg hbase (fun k e => by injection e with e; omega)
    by_cases hlt : m < l.length
    · have hx1 : (0 : Int) ≤ (m : Int) := by omega
      have hx2 : (m : Int) < (l.length : Int) := by omega
      have k3 := hg.cell h3 (by simpa using n3)
      have k4 := hg.cell h4 (by simpa using n4)
      obtain ⟨b, off, rfl, hbl, hcell⟩ := (hs.below hbw).at_ hlt
      have q0 := hcell 0 _ rfl
      have q1 := hcell 1 _ rfl
      have q2 := hcell 2 _ rfl
      have q3 := hcell 3 _ rfl
      have q4 := hcell 4 _ rfl
      have q5 := hcell 5 _ rfl
      have q6 := hcell 6 _ rfl
      have q7 := hcell 7 _ rfl
      have q8 := hcell 8 _ rfl
      rw [Nat.add_zero] at q0
      clear hcell
      cases hok : l[m].ok
      · go_wp2_with fail
        refine (badBill_no l[m] b4 _ hok).mono ?_
        rintro e w1 ⟨rfl, hb1⟩
        go_wp2_with fail
        go_ret
        refine ⟨⟨m, rfl, ?_, by omega⟩, hg.trans (grownBy_below hb1 _)⟩
        rw [billsOk_bad hlt hok]
        simp
      · by_cases hin : l[m].stay ∈ stays (l.take m)
        · have hd : decide (l[m].stay ∈ stays (l.take m)) = true := by simpa using hin
          have HIN := Lib.hid hin
          clear hin
          go_wp2_with fail
          refine (badBill_ok l[m] b3 b4 blk m D _ _ hS.out.1 ho (by omega) k3 (by omega) k4 (by omega) hok).mono ?_
          rintro e w1 ⟨rfl, ho1, hg1⟩
          rw [hd]
          go_wp2_with fail
          go_ret
          refine ⟨⟨m, rfl, ?_, by omega⟩, hg.trans hg1⟩
          rw [billsOk_twice hlt HIN.out]
          simp
        · have hd : decide (l[m].stay ∈ stays (l.take m)) = false := by simpa using hin
          have HIN := Lib.hid hin
          clear hin
          go_wp2_with fail
          refine (badBill_ok l[m] b3 b4 blk m D _ _ hS.out.1 ho (by omega) k3 (by omega) k4 (by omega) hok).mono ?_
          rintro e w1 ⟨rfl, ho1, hg1⟩
          rw [hd]
          go_wp2_with fail
          go_roundw
          case rel =>
            refine ⟨m + 1, _, by omega, by go_num, ho1, Lib.hid ⟨?_, ?_, ?_⟩, hg.trans hg1⟩
            · rw [stays_take hlt]; exact hS.out.1.put _
            · intro x hx
              rw [List.take_succ_eq_append_getElem hlt] at hx
              rcases List.mem_append.1 hx with hx | hx
              · exact hS.out.2.1 x hx
              · simp at hx; subst hx; exact hok
            · rw [stays_take hlt]; exact nodup_snoc hS.out.2.2 HIN.out
          case measure => simp [intOf]; omega
    · obtain rfl : m = l.length := by omega
      go_wp2
      go_ret
      refine ⟨⟨-1, rfl, ?_, by omega⟩, hg⟩
      have h1 := hS.out
      rw [List.take_of_length_le (Nat.le_refl _)] at h1
      rw [billsOk_iff.2 ⟨h1.2.1, h1.2.2⟩]
      simp
theorem con_bill_any (l : List Bill) (A : Option Addr) (c base b3 b4 blk : Nat) (w : World) (hs : Sl w base 9 Bill.cs A l) (hl : l.length ≤ 3000) (hown : OwnB w blk 0 (.map [])) (hbase : base ≤ w.heap.size) (hblk : base ≤ blk)
    (h3 : w.cell? ⟨b3, 0, none⟩ = some (.map (some blk))) (hb3 : b3 < w.heap.size) (n3 : b3 ≠ blk) (h4 : w.cell? ⟨b4, 0, none⟩ = some (.func (.func 77) #[] #[.pointer (some ⟨b3, 0, none⟩)])) (hb4 : b4 < w.heap.size) (n4 : b4 ≠ blk) :
    Calls Try.prog 78 #[.slice A l.length c, .func (.func 79) #[] #[.pointer (some ⟨b4, 0, none⟩)]] w fun e w' => e = .returned (.bool (!billsOk l)) ∧ w.grownBy w' (some blk) := by
  go_enter Try.func78, Try.ntmps78
  go_wp2_with fail
  refine (idx_bill_any l A c base b3 b4 blk _ hs hl hown hbase hblk h3 hb3 n3 h4 hb4 n4).mono ?_
  rintro e w1 ⟨⟨k, rfl, hk, hk1⟩, hg1⟩
  have HK := Lib.hid hk
  clear hk
  go_wp2_with fail
  go_ret
  exact ⟨ret_bool HK.out, hg1⟩
theorem name_calls {P : Program} {f : FuncId} {args : Array Value} {w : World} {Q : Ending → World → Prop} (h : ∀ w', w' = w → Calls P f args w' Q) : Calls P f args w Q := h w rfl
theorem areBills_any (l : List Bill) (A : Option Addr) (c : Nat) (w : World) (hs : SlBill w A l) (hl : l.length ≤ 3000) :
    Calls Try.prog 53 #[.slice A l.length c] w fun e w' => e = .returned (.bool (billsOk l)) ∧ Below w.heap.size w w' := by
  have hmm := @run_makeMap Try.prog
  go_enter Try.func53, Try.ntmps53
  go_wp2_with fail
  have hmade := World.ownsMap_made w Try.prog 3 (plainElem (H := Unit) Try.prog 4)
  refine name_calls (fun w2 hw2 => ?_)
  have hb2 : Below w.heap.size w w2 := by
    rw [hw2]
    repeat' (first
      | (with_reducible exact Below.refl _ _)
      | (with_reducible assumption)
      | (with_reducible refine below_drewN ?_ _)
      | (with_reducible refine Below.drew ?_)
      | (with_reducible refine below_regrown_up _ _ ?_ ?_)
      | (with_reducible refine Below.alloc ?_ ?_ _)
      | (with_reducible refine Below.setCell ?_ ?_ _)
      | (with_reducible refine below_up ?_ ?_ (by assumption))
      | (with_reducible exact Nat.le_refl _)
      | omega
      | (simp; done)
      | (simp; omega))
  have hz2 : w2.heap.size = w.heap.size + 1 + 1 + 1 := by rw [hw2]; simp
  have k3 : w2.cell? ⟨w.heap.size + 1, 0, none⟩ = some (.map (some w.heap.size)) := by rw [hw2]; go_simp
  have k4 : w2.cell? ⟨w.heap.size + 1 + 1, 0, none⟩ = some (.func (.func 77) #[] #[.pointer (some ⟨w.heap.size + 1, 0, none⟩)]) := by rw [hw2]; go_simp
  have ho : OwnB w2 w.heap.size 0 (.map []) := by rw [hw2]; exact (hmade.alloc _).alloc _
  clear hw2 hmade
  refine (con_bill_any l A c w.heap.size (w.heap.size + 1) (w.heap.size + 1 + 1) w.heap.size _ (hs.below hb2) hl ho (by omega) (by omega) k3 (by omega) (by omega) k4 (by omega) (by omega)).mono ?_
  rintro e w3 ⟨rfl, hg3⟩
  go_wp2_with fail
  go_ret
  refine ⟨ret_bool (by simp), hb2.grown hg3 (by omega) (fun k e => by injection e with e; omega)⟩
theorem rBills_any (l : List Bill) (A : Option Addr) (c : Nat) (w : World) (hs : SlBill w A l) (hl : l.length ≤ 3000) :
    Calls Try.prog 55 #[.slice A l.length c] w fun e w' => e = .returned (.bool (billsOk l)) ∧ Below w.heap.size w w' := by
  go_enter Try.func55, Try.ntmps55
  go_wp2
  go_loopw [3] (fun i wr => ∃ m : Nat, m ≤ l.length ∧ i = .int .i64 m ∧ Hid ((∀ x ∈ l.take m, x.ok = true) ∧ (stays (l.take m)).Nodup) ∧ Below w.heap.size w wr) (fun i _ => l.length - (intOf i).toNat)
  case atStart => exact ⟨0, by omega, rfl, Lib.hid ⟨by simp, by simp [stays]⟩, Below.refl _ _⟩
  case round =>
    obtain ⟨m, hm, rfl, hS, hbw⟩ := hrel
    have hbz := hbw.size
    by_cases hlt : m < l.length
    · have hx1 : (0 : Int) ≤ (m : Int) := by omega
      have hx2 : (m : Int) < (l.length : Int) := by omega
      have hsl := hs
      obtain ⟨b, off, rfl, hbl, hcell⟩ := (hs.below hbw).at_ hlt
      have q0 := hcell 0 _ rfl
      have q1 := hcell 1 _ rfl
      have q2 := hcell 2 _ rfl
      have q3 := hcell 3 _ rfl
      have q4 := hcell 4 _ rfl
      have q5 := hcell 5 _ rfl
      have q6 := hcell 6 _ rfl
      have q7 := hcell 7 _ rfl
      have q8 := hcell 8 _ rfl
      rw [Nat.add_zero] at q0
      clear hcell
      cases hok : l[m].ok
      · go_wp2_with fail
        refine (rbill_any l[m] _).mono ?_
        rintro e w1 ⟨rfl, hb1⟩
        rw [hok]
        go_wp2_with fail
        go_ret
        refine ⟨ret_bool ?_, below_up hbw hbz hb1⟩
        rw [billsOk_bad hlt hok]
      · go_wp2_with fail
        refine (rbill_any l[m] _).mono ?_
        rintro e w1 ⟨rfl, hb1⟩
        rw [hok]
        have hbw1 := below_up hbw hbz hb1
        have hz1 := hb1.size
        go_wp2_with fail
        go_loopw [4] (fun i wr2 => ∃ k : Nat, k ≤ m ∧ i = .int .i64 k ∧ Hid (∀ j (h : j < l.length), j < k → l[j].stay ≠ l[m].stay) ∧ Below w.heap.size w wr2) (fun i _ => m - (intOf i).toNat)
        case atStart => exact ⟨0, by omega, rfl, Lib.hid (fun j _ h => absurd h (by omega)), hbw1⟩
        case round =>
          obtain ⟨k, hk, rfl, hN, hbw2⟩ := hrel
          have hbz2 := hbw2.size
          by_cases hlt2 : k < m
          · have hx3 : (0 : Int) ≤ (k : Int) := by omega
            have hx4 : (k : Int) < (m : Int) := by omega
            have hx5 : (k : Int) < (l.length : Int) := by omega
            have hk2 : k < l.length := by omega
            obtain ⟨_, hcell1⟩ := (hs.below hbw2).cells hk2
            obtain ⟨_, hcell2⟩ := (hs.below hbw2).cells hlt
            have p1 := hcell1 0 _ rfl
            have p2 := hcell2 0 _ rfl
            rw [Nat.add_zero] at p1 p2
            clear hcell1 hcell2
            by_cases he : l[k].stay = l[m].stay
            · have hb2 : (l[k].stay == l[m].stay) = true := by simpa using he
              have HE := Lib.hid he
              clear he
              go_wp2_with fail
              go_quiet (fail)
              go_wp2_with fail
              go_ret
              refine ⟨ret_bool ?_, (by repeat' (first | (with_reducible exact Below.refl _ _) | (with_reducible assumption) | (with_reducible refine below_drewN ?_ _) | (with_reducible refine Below.drew ?_) | (with_reducible refine below_regrown_up _ _ ?_ ?_) | (with_reducible refine Below.alloc ?_ ?_ _) | (with_reducible refine Below.setCell ?_ ?_ _) | (with_reducible refine below_up ?_ ?_ (by assumption)) | (with_reducible exact Nat.le_refl _) | omega | (simp; done) | (simp; omega)))⟩
              rw [billsOk_twice hlt (by rw [← HE.out]; exact List.mem_map.2 ⟨l[k], List.mem_take_iff_getElem.2 ⟨k, by omega, rfl⟩, rfl⟩)]
            · have hb2 : (l[k].stay == l[m].stay) = false := by simpa using he
              have HE := Lib.hid he
              clear he
              go_wp2_with fail
              go_quiet (fail)
              go_wp2_with fail
              go_roundw
              case rel =>
                refine ⟨k + 1, by omega, by go_num, Lib.hid (fun j h hj => ?_), (by repeat' (first | (with_reducible exact Below.refl _ _) | (with_reducible assumption) | (with_reducible refine below_drewN ?_ _) | (with_reducible refine Below.drew ?_) | (with_reducible refine below_regrown_up _ _ ?_ ?_) | (with_reducible refine Below.alloc ?_ ?_ _) | (with_reducible refine Below.setCell ?_ ?_ _) | (with_reducible refine below_up ?_ ?_ (by assumption)) | (with_reducible exact Nat.le_refl _) | omega | (simp; done) | (simp; omega)))⟩
                by_cases e : j = k
                · subst e; exact HE.out
                · exact hN.out j h (by omega)
              case measure => simp [intOf]; omega
          · obtain rfl : k = m := by omega
            go_wp2_with fail
            go_roundw
            case rel =>
              refine ⟨k + 1, by omega, by go_num, Lib.hid ⟨fun x hx => ?_, ?_⟩, hbw2⟩
              · rw [List.take_succ_eq_append_getElem hlt] at hx
                rcases List.mem_append.1 hx with hx | hx
                · exact hS.out.1 x hx
                · simp at hx; subst hx; exact hok
              · rw [stays_take hlt]
                refine nodup_snoc hS.out.2 (fun hin => ?_)
                obtain ⟨x, hx, hxe⟩ := List.mem_map.1 hin
                obtain ⟨j, hj, rfl⟩ := List.mem_take_iff_getElem.1 hx
                exact hN.out j (by omega) (by omega) hxe
            case measure => simp [intOf]; omega
    · obtain rfl : m = l.length := by omega
      go_wp2
      go_ret
      refine ⟨ret_bool ?_, hbw⟩
      have h1 := hS.out
      rw [List.take_of_length_le (Nat.le_refl _)] at h1
      rw [billsOk_iff.2 ⟨h1.1, h1.2⟩]
end Go.Proofs.Ythnncojbckifnaa
