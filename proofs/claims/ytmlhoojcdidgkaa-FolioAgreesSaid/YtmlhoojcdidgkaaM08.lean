/-
  Texts, one behind the other: Led8, Del, Led9, Led10, Led11, Led12, Com3, DepP.
-/
import Derived.Test.YtmlhoojcdidgkaaM07
import Derived.Lib.SliceRun
import Derived.Deep.DeepCutAuto
import Derived.Test.YtmlhoojcdidgkaaM04
/-
  Contracts of package ledger: balances.
-/
namespace Go.Proofs.Ytmlhoojcdidgkaa
set_option linter.unusedSimpArgs false
set_option linter.unusedVariables false
open Go.RowKit Go.Maps
open Go.Sort (grow size_grow)

set_option maxHeartbeats 4000000
set_option maxRecDepth 100000

theorem upto_takeWhile {day : Int} : ∀ {l : List Entry}, Rises l → upto l day = l.takeWhile (fun e => decide (e.day ≤ day))
  | [], _ => rfl
  | x :: l, h => by
    obtain ⟨h1, h2⟩ := List.pairwise_cons.1 h
    unfold upto
    by_cases hx : x.day ≤ day
    · rw [List.filter_cons, if_pos (by simpa using hx), List.takeWhile_cons, if_pos (by simpa using hx)]
      congr 1
      exact upto_takeWhile h2
    · rw [List.filter_cons, if_neg (by simpa using hx), List.takeWhile_cons, if_neg (by simpa using hx), List.filter_eq_nil_iff]
      intro y hy
      have := h1 y hy
      simp
      omega
theorem eok_upto {L : List EOk} {l : List Entry} (hL : L.map (·.1) = l) (h : Rises l) (day : Int) : (L.takeWhile (fun e => decide (e.1.day ≤ day))).map (·.1) = upto l day := by
  subst hL
  rw [upto_takeWhile h, List.takeWhile_map]
  rfl
theorem size_owns {w : World} {P : Program} {k : TypeId} {R : Value → Option (DM × List MemPlace)} {b n : Nat} {D : DM} (h : w.ownsMap P k R b n D) : Maps.size D ≤ n := by
  obtain ⟨es, clock, hb, hf, hn, rfl⟩ := h
  show (List.foldr DataW.insert [] _).length ≤ n
  rw [length_sorted, List.length_map, Array.length_toList]
  exact hn

theorem lbalance_any (l : List Entry) (A : Option Addr) (c : Nat) (a day : Int) (w : World) (hs : SlEnt w A l) (hl : l.length ≤ 140737488355328) :
    Calls Try.prog 24 #[.slice A l.length c, .int .i64 a, .int .i64 day] w fun e w' => e = .returned (.tuple #[.int .i64 (balR l a day).1, .int .i64 (balR l a day).2]) ∧ Below w.heap.size w w' := by
  rcases balR_cases l a day with ⟨h1, hr⟩ | ⟨h1, h2, h3, hr⟩
  · cases g1 : ledOk l <;> cases g2 : inB a 100 999 <;> cases g3 : inB day 0 366
    case true.true.true => rw [g1, g2, g3] at h1; simp at h1
    all_goals
      rw [hr]
      clear h1 hr
      go_enter Try.func24, Try.ntmps24
      go_wp2_with (first | (go_at_call 22; refine (lvalid_any l A c _ hs hl).mono ?_; rintro e w1 ⟨rfl, hb1⟩; have hz1 := hb1.size; (try simp only [World.size_alloc, World.size_setCell, World.size_drew, size_drewN', size_grow, size_redrawn] at hz1); obtain ⟨hc1, hf1⟩ := bcellB (B := w.heap.size) hb1 (by first | omega | (simp only [World.size_alloc, World.size_setCell, World.size_drew, size_drewN', size_grow, size_redrawn]; omega))); rw [g1] | (go_at_call 52; refine (isAccount_any _ _).mono ?_; rintro e w2 ⟨rfl, rfl⟩) | (go_at_call 50; refine (isDay_any _ _).mono ?_; rintro e w2 ⟨rfl, rfl⟩))
      go_ret2
      exact ⟨rfl, hb1⟩
  · rw [hr]
    clear hr
    obtain ⟨h5, hall, hri⟩ := ledOk_iff.1 h1
    obtain ⟨L, hL⟩ := eok_of hall
    have hupto := eok_upto hL hri day
    have hlen : l.length = L.length := by rw [← hL, List.length_map]
    have HLEN := Lib.hid hlen
    have HL := Lib.hid hL
    have HU := Lib.hid hupto
    have ha := inB_iff.1 h2
    obtain ⟨a1, a2⟩ := ha
    have HR := Lib.hid (show bal (fun x => x == a) l day = mvs (fun x => x == a) (upto l day) from rfl)
    clear hall hri hL hlen hupto
    go_enter Try.func24, Try.ntmps24
    go_wp2_with (first
      | (go_at_call 22; refine (lvalid_any l A c _ hs hl).mono ?_; rintro e w1 ⟨rfl, hb1⟩; have hz1 := hb1.size; (try simp only [World.size_alloc, World.size_setCell, World.size_drew, size_drewN', size_grow, size_redrawn] at hz1); obtain ⟨hc1, hf1⟩ := bcellB (B := w.heap.size) hb1 (by first | omega | (simp only [World.size_alloc, World.size_setCell, World.size_drew, size_drewN', size_grow, size_redrawn]; omega))); rw [h1]
      | (go_at_call 52; refine (isAccount_any _ _).mono ?_; rintro e w2 ⟨rfl, rfl⟩)
      | (go_at_call 50; refine (isDay_any _ _).mono ?_; rintro e w2 ⟨rfl, rfl⟩)
      | (go_at_call 51; have hc := sums_any L A c day w1 (by rw [HL.out]; exact hs.up hb1) (by rw [← HLEN.out]; exact h5); rw [← HLEN.out, HU.out] at hc; refine hc.mono ?_; clear hc; rintro e w4 ⟨⟨b, N, D, rfl, hown, hN, hS⟩, hb4⟩; have HS := Lib.hid hS; clear hS)
      | (at_lookup; refine wpList_lookup_own_int _ rfl _ _ 96 rfl 3 3 .i64 keyedI Try.underlying96 Try.underlying3 (zero_int _) b N D rfl hown _ _ rfl (keyOf_int_mk Try.underlying3 (WalkArith.wf_i64 (by omega))) ?_; intro c1 hat1 hwc1; have HG1 := Lib.hid (getI_of hat1); clear hat1 hwc1))
    go_ret2
    refine ⟨?_, below_up hb1 hz1 hb4⟩
    rw [HR.out, ← HS.out.at_, HG1.out]
    rfl

theorem mvs_congr {p q : Int → Bool} {es : List Entry} (h : ∀ e ∈ es, e.ok = true) (hpq : ∀ a, 100 ≤ a → a ≤ 999 → p a = q a) : mvs p es = mvs q es := by
  unfold mvs
  congr 1
  refine List.map_congr_left (fun e he => ?_)
  obtain ⟨_, h1, h2, _⟩ := Entry.ok_iff.1 (h e he)
  unfold mv
  rw [hpq _ h1.1 h1.2, hpq _ h2.1 h2.2]
def kq (k : Int) (a : Int) : Bool := a / 100 == k
theorem kq_ofKind {k a : Int} (h1 : 100 ≤ a) (h2 : a ≤ 999) : kq k a = ofKind k a := by
  unfold kq ofKind
  rw [Bool.eq_iff_iff, beq_iff_eq, inB_iff]
  omega
theorem lkind_any (l : List Entry) (A : Option Addr) (c : Nat) (k day : Int) (w : World) (hs : SlEnt w A l) (hl : l.length ≤ 140737488355328) :
    Calls Try.prog 23 #[.slice A l.length c, .int .i64 k, .int .i64 day] w fun e w' => e = .returned (.tuple #[.int .i64 (kindR l k day).1, .int .i64 (kindR l k day).2]) ∧ Below w.heap.size w w' := by
  rcases kindR_cases l k day with ⟨h1, hr⟩ | ⟨h1, h2, h3, hr⟩
  · cases g1 : ledOk l <;> cases g2 : inB k 1 9 <;> cases g3 : inB day 0 366
    case true.true.true => rw [g1, g2, g3] at h1; simp at h1
    all_goals
      rw [hr]
      clear h1 hr
      go_enter Try.func23, Try.ntmps23
      go_wp2_with (first | (go_at_call 22; refine (lvalid_any l A c _ hs hl).mono ?_; rintro e w1 ⟨rfl, hb1⟩; have hz1 := hb1.size; (try simp only [World.size_alloc, World.size_setCell, World.size_drew, size_drewN', size_grow, size_redrawn] at hz1); obtain ⟨hc1, hf1⟩ := bcellB (B := w.heap.size) hb1 (by first | omega | (simp only [World.size_alloc, World.size_setCell, World.size_drew, size_drewN', size_grow, size_redrawn]; omega))); rw [g1] | (go_at_call 49; refine (led_within_any _ _ _ _).mono ?_; rintro e w2 ⟨rfl, rfl⟩) | (go_at_call 50; refine (isDay_any _ _).mono ?_; rintro e w2 ⟨rfl, rfl⟩))
      go_ret2
      exact ⟨rfl, hb1⟩
  · rw [hr]
    clear hr
    obtain ⟨h5, hall, hri⟩ := ledOk_iff.1 h1
    obtain ⟨L, hL⟩ := eok_of hall
    have hupto := eok_upto hL hri day
    have hlen : l.length = L.length := by rw [← hL, List.length_map]
    have hup : ∀ e ∈ upto l day, e.ok = true := fun e he => hall e (upto_mem he)
    have hul := upto_len l day
    have HLEN := Lib.hid hlen
    have HL := Lib.hid hL
    have HU := Lib.hid hupto
    have HR := Lib.hid (show bal (ofKind k) l day = mvs (kq k) (upto l day) from (mvs_congr hup (fun a h1 h2 => kq_ofKind h1 h2)).symm)
    have HBD := Lib.hid (fun p => mvs_bd p hup)
    clear hall hri hL hlen hupto hup
    go_enter Try.func23, Try.ntmps23
    go_wp2_with (first
      | (go_at_call 22; refine (lvalid_any l A c _ hs hl).mono ?_; rintro e w1 ⟨rfl, hb1⟩; have hz1 := hb1.size; (try simp only [World.size_alloc, World.size_setCell, World.size_drew, size_drewN', size_grow, size_redrawn] at hz1); obtain ⟨hc1, hf1⟩ := bcellB (B := w.heap.size) hb1 (by first | omega | (simp only [World.size_alloc, World.size_setCell, World.size_drew, size_drewN', size_grow, size_redrawn]; omega))); rw [h1]
      | (go_at_call 49; refine (led_within_any _ _ _ _).mono ?_; rintro e w2 ⟨rfl, rfl⟩)
      | (go_at_call 50; refine (isDay_any _ _).mono ?_; rintro e w2 ⟨rfl, rfl⟩)
      | (go_at_call 51; have hc := sums_any L A c day w1 (by rw [HL.out]; exact hs.up hb1) (by rw [← HLEN.out]; exact h5); rw [← HLEN.out, HU.out] at hc; refine hc.mono ?_; clear hc; rintro e w4 ⟨⟨b, N, D, rfl, hown, hN, hS⟩, hb4⟩; have HS := Lib.hid hS; clear hS)
      | (at_range; refine wpList_range_own _ rfl _ 96 rfl 3 3 keyedI Try.underlying96 _ b N D rfl hown ?_; intro w5 hrg5 hg5 hs5; go_frame))
    have hsz := size_owns hown
    have hz4 := hb4.size
    have hb5 : Below w4.heap.size w4 w5 := ⟨hg5.os, hg5.tape, hg5.output, hg5.size, fun i hi => hg5.block i hi (by simp)⟩
    have hb05 : Below w.heap.size w w5 := below_up (below_up hb1 hz1 hb4) (by omega) hb5
    go_loopw [8] (fun s wr => ∃ (x : Int) (left : Lit → Bool) (cnt : Nat), s = .int .i64 x ∧ wr.ranges Try.prog 3 (plainElem Try.prog 3) b w4.heap.size N D left cnt ∧ Hid (∀ z, left z = true → Maps.has D z = true) ∧ Hid (x + msum (fun z => onI (kq k) z && left z) D = mvs (kq k) (upto l day)) ∧ cnt ≤ 10000 ∧ -5000000000000 * (10000 - (cnt : Int)) ≤ x ∧ x ≤ 5000000000000 * (10000 - (cnt : Int)) ∧ Below w.heap.size w wr)
      (fun _ wr => wr.rangeLeft b w4.heap.size)
    case atStart =>
      refine ⟨0, _, _, rfl, hrg5, Lib.hid (fun z h => h), Lib.hid ?_, by omega, by omega, by omega, hb05⟩
      rw [msum_all HS.out.tidy HS.out.ints.keys, HS.out.all, Int.zero_add]
    case round =>
      obtain ⟨x, left, cnt, rfl, hrg, hleft, hsum, hc0, hx1, hx2, hbw⟩ := hrel
      have hbz := hbw.size
      go_wp2_with (at_next; refine wpList_next_ranges_ii _ rfl _ rfl 3 3 .i64 .i64 keyedI Try.underlying3 Try.underlying3 b w4.heap.size N _ _ _ rfl hrg ?_ ?_)
      · intro _ hl0
        have hfin : x = mvs (kq k) (upto l day) := by
          have := hsum.out
          rw [msum_none _ _ hl0] at this
          omega
        have HF := Lib.hid hfin
        clear hfin hl0
        go_wp2
        go_ret2
        refine ⟨?_, hbw⟩
        rw [HR.out, ← HF.out]
        rfl
      · intro a v w6 cnt6 hwa hwv hla hat hrg6 hlt6 hg6 hs6 hen
        have hkey := HS.out.keys a (hleft.out _ hla)
        have hga : getI D a = v := by unfold getI; rw [hat]; rfl
        have hv := HBD.out (fun z => z == a)
        rw [← HS.out.at_, hga] at hv
        have hms := msum_left HS.out.tidy (onI (kq k)) left hla
        rw [hga] at hms
        have hle : onI (kq k) (kI a) = kq k a := rfl
        rw [hle] at hms
        obtain ⟨hk1, hk2⟩ := hkey
        obtain ⟨hv1, hv2⟩ : -5000000000000 ≤ v ∧ v ≤ 5000000000000 := by omega
        have HMS := Lib.hid hms
        have HLA := Lib.hid hla
        have hb6 : Below w.heap.size w w6 := hbw.grown hg6 hbz (fun j e => by cases e; omega)
        have hquo : IntKind.i64.wrap (a.tdiv 100) = a / 100 := by rw [Int.tdiv_eq_ediv_of_nonneg (by omega)]; exact IntWalk.i64_in _ (by omega)
        clear hat hms hga hle hla hv hwa hwv
        by_cases hq : a / 100 = k
        · have hqb : (a / 100 == k) = true := by simpa using hq
          have HQ := Lib.hid hq
          clear hq
          go_wp2_with fail
          go_roundw
          case rel =>
            refine ⟨x + v, _, cnt6, by go_num, hrg6, Lib.hid (fun z h => hleft.out z (by simp at h; exact h.1)), Lib.hid ?_, by omega, by omega, by omega, hb6⟩
            have h1 := hsum.out
            have h2 := HMS.out
            have h3 : kq k a = true := by unfold kq; simpa using HQ.out
            rw [h3, if_pos rfl] at h2
            show x + v + msum (fun z => onI (kq k) z && (left z && !z.sameKey (kI a))) D = _
            omega
          case measure => rw [hrg6.left_eq, hrg.left_eq]; exact hlt6
        · have hqb : (a / 100 == k) = false := by simpa using hq
          have HQ := Lib.hid hq
          clear hq
          go_wp2_with fail
          go_roundw
          case rel =>
            refine ⟨x, _, cnt6, by go_num, hrg6, Lib.hid (fun z h => hleft.out z (by simp at h; exact h.1)), Lib.hid ?_, by omega, by omega, by omega, hb6⟩
            have h1 := hsum.out
            have h2 := HMS.out
            have h3 : kq k a = false := by unfold kq; simpa using HQ.out
            rw [h3, if_neg (by simp)] at h2
            show x + msum (fun z => onI (kq k) z && (left z && !z.sameKey (kI a))) D = _
            omega
          case measure => rw [hrg6.left_eq, hrg.left_eq]; exact hlt6
end Go.Proofs.Ytmlhoojcdidgkaa

/-
  A row of the call's own, written in its middle; slices.Delete at one entry.
-/
namespace Go.Proofs.Ytmlhoojcdidgkaa
set_option linter.unusedSimpArgs false
set_option linter.unusedVariables false
open Go.RowKit
open Go.Sort (grow size_grow)

set_option maxHeartbeats 4000000
set_option maxRecDepth 100000

def over : Array Value → Nat → List Value → Array Value
  | cur, _, [] => cur
  | cur, o, v :: r => over (cur.setIfInBounds o v) (o + 1) r
theorem over_size : ∀ (vs : List Value) (cur : Array Value) (o : Nat), (over cur o vs).size = cur.size
  | [], _, _ => rfl
  | v :: r, cur, o => by rw [over, over_size r]; simp
theorem over_toList : ∀ (vs : List Value) (cur : Array Value) (o : Nat), o + vs.length ≤ cur.size → (over cur o vs).toList = cur.toList.take o ++ vs ++ cur.toList.drop (o + vs.length)
  | [], cur, o, _ => by simp [over]
  | v :: r, cur, o, h => by
    rw [List.length_cons] at h
    have ho : o < cur.toList.length := by rw [Array.length_toList]; omega
    rw [over, over_toList r _ _ (by simp; omega), Array.toList_setIfInBounds]
    have e1 : (cur.toList.set o v).take (o + 1) = cur.toList.take o ++ [v] := by
      rw [List.take_succ_eq_append_getElem (by simpa using ho), List.getElem_set_self, List.take_set, List.set_eq_of_length_le (by rw [List.length_take]; omega)]
    have e2 : (cur.toList.set o v).drop (o + 1 + r.length) = cur.toList.drop (o + (v :: r).length) := by
      rw [List.drop_set, if_pos (by omega), List.length_cons]
      congr 1
      omega
    rw [e1, e2]
    simp
theorem heap_setCells_same (g : Nat) (t : TypeId) : ∀ (vs : List Value) (o : Nat) (w : World) (cs : Array Value), w.heap[g]? = some (.cells cs t (0, 0)) → (w.setCells g o vs).heap[g]? = some (.cells (over cs o vs) t (0, 0))
  | [], _, _, _, h => h
  | v :: r, o, w, cs, h => heap_setCells_same g t r (o + 1) _ _ (heap_setCell_same w g o cs t v h)
theorem size_setCells' (b : Nat) : ∀ (vs : List Value) (o : Nat) (w : World), (w.setCells b o vs).heap.size = w.heap.size
  | [], _, _ => rfl
  | v :: r, o, w => by rw [World.setCells, size_setCells' b r]; simp
theorem grownBy_setCells (g : Nat) : ∀ (vs : List Value) (o : Nat) (w : World), w.grownBy (w.setCells g o vs) (some g)
  | [], _, w => World.grownBy.refl w _
  | v :: r, o, w => (grownBy_setCell' w g v o).trans (grownBy_setCells g r (o + 1) _)
where
  grownBy_setCell' (w : World) (g : Nat) (v : Value) (o : Nat) : w.grownBy (w.setCell ⟨g, o, none⟩ v) (some g) :=
    ⟨rfl, rfl, rfl, by simp, fun k _ hk => Below.heap_setCell w ⟨g, o, none⟩ v k (fun e => hk (by rw [e]))⟩
section
variable {α : Type} {w : World} {base size g cap n : Nat} {e : TypeId} {enc : α → List Value} {L : List α}
theorem own_parts (h : OwnL w base e size enc (.slice (some ⟨g, 0, none⟩) n cap) L) (hn : 0 < n) : n = L.length ∧ base ≤ g ∧ n ≤ cap ∧ cap ≤ maxLen ∧ ∃ cur, w.heap[g]? = some (.cells cur e (0, 0)) ∧ cur.size = cap * size ∧ cur.toList.take (L.length * size) = L.flatMap enc := by
  rcases h.2 with ⟨h1, h0⟩ | ⟨g', cap', cur, h1, hb, hg, h2, h3, h4, h5⟩
  · injection h1 with h1 h2
    cases h1
  · injection h1 with h1 h6 h7
    injection h1 with h1
    injection h1 with h1
    subst h1 h6 h7
    exact ⟨rfl, hb, h2, h3, cur, hg, h4, h5⟩
/-- The cells from the end of A on are turned into those of B: what was A and whatever is A and B. -/
theorem own_turn (he : ∀ x, (enc x).length = size) (h : OwnL w base e size enc (.slice (some ⟨g, 0, none⟩) n cap) L) (hn : 0 < n) {A B : List α} (hA : A <+: L) (hB : (A ++ B).length ≤ cap) :
    OwnL (w.setCells g (A.length * size) (B.flatMap enc)) base e size enc (.slice (some ⟨g, 0, none⟩) (A ++ B).length cap) (A ++ B) := by
  obtain ⟨h0, hb, h2, h3, cur, hg, h4, h5⟩ := own_parts h hn
  obtain ⟨C, hC⟩ := hA
  have hcells := heap_setCells_same g e (B.flatMap enc) (A.length * size) w cur hg
  have hfit : A.length * size + (B.flatMap enc).length ≤ cur.size := by
    rw [flat_len he, h4, ← Nat.add_mul, ← List.length_append]
    exact Nat.mul_le_mul_right _ hB
  refine ⟨flat_len he _, .inr ⟨g, cap, _, rfl, hb, hcells, hB, h3, by rw [over_size, h4], ?_⟩⟩
  rw [over_toList _ _ _ hfit]
  have hA' : cur.toList.take (A.length * size) = A.flatMap enc := by
    have h6 : A.length ≤ L.length := by rw [← hC, List.length_append]; omega
    have h7 := congrArg (List.take (A.length * size)) h5
    rw [List.take_take, Nat.min_eq_left (Nat.mul_le_mul_right _ h6), ← hC, List.flatMap_append, List.take_left' (by rw [flat_len he])] at h7
    exact h7
  rw [hA', ← List.flatMap_append, List.take_left' (by rw [flat_len he])]
/-- What lies behind the row's end may be turned at will. -/
theorem own_above (he : ∀ x, (enc x).length = size) (h : OwnL w base e size enc (.slice (some ⟨g, 0, none⟩) n cap) L) {vs : List Value} {o : Nat} (ho : L.length * size ≤ o) (hfit : o + vs.length ≤ cap * size) (hg0 : g < w.heap.size) :
    OwnL (w.setCells g o vs) base e size enc (.slice (some ⟨g, 0, none⟩) n cap) L := by
  rcases h.2 with ⟨h1, h0⟩ | ⟨g', cap', cur, h1, hb, hg, h2, h3, h4, h5⟩
  · injection h1 with h1 h2
    cases h1
  · injection h1 with h1 h6 h7
    injection h1 with h1
    injection h1 with h1
    subst h1 h6 h7
    refine ⟨flat_len he _, .inr ⟨g, cap, _, rfl, hb, heap_setCells_same g e vs o w cur hg, h2, h3, by rw [over_size, h4], ?_⟩⟩
    have hlen : L.length * size ≤ (cur.toList.take o).length := by
      have h6 := Nat.mul_le_mul_right size h2
      rw [List.length_take, show cur.toList.length = cur.size from Array.length_toList, h4]
      omega
    rw [over_toList _ _ _ (by rw [h4]; exact hfit), List.append_assoc, List.take_append_of_le_length hlen, List.take_take, Nat.min_eq_left ho]
    exact h5
end
theorem run_clear_one {P : Program} (w : World) (t e ty : TypeId) (z : Value) (ht : P.underlying t = some (.slice e)) (hv : ∀ w, (zeroValue e).run P w = .ok z w) (h1 : ∀ u ∈ z.cells.toList, u.oneCell' = true) (b o c : Nat)
    (hc : ∀ j, j < z.cells.size → (w.cell? ⟨b, o + j, none⟩).isSome = true) (hf : ∀ j, j < z.cells.size → w.frozen? ⟨b, o + j, none⟩ = false) :
    (Builtin.clear_ #[t] ty #[.slice (some ⟨b, o, none⟩) 1 c]).run P w = .ok (.tuple #[]) (w.setCells b o z.cells.toList) := by
  have hzc : (Builtin.zeroCells z.cells 1).toList = z.cells.toList := by
    simp only [Builtin.zeroCells, Nat.one_mul]
    apply List.ext_getElem
    · simp
    · intro i g1 g2
      have : i < z.cells.size := by simpa using g2
      simp [Nat.mod_eq_of_lt this, this]
  have hst := run_storeCells_cells (P := P) b o z.cells.toList 0 w (by simpa using hc) (by simpa using hf) h1
  simp only [Nat.add_zero] at hst
  simp [Builtin.clear_, run_underlying ht, hv, hzc, hst]

def zE : Value := .agg #[.int .i64 0, .int .i64 0, .int .i64 0, .int .i64 0, .int .i64 0]
theorem zero_ent (w : World) : (zeroValue 46).run Try.prog w = .ok zE w := by kernel_rfl
theorem own_cell {w : World} {base g n cap : Nat} {L : List Entry} (h : OwnE w base (.slice (some ⟨g, 0, none⟩) n cap) L) (hn : 0 < n) {j : Nat} (hj : j < cap * 5) : (w.cell? ⟨g, j, none⟩).isSome = true ∧ w.frozen? ⟨g, j, none⟩ = false := by
  obtain ⟨_, _, _, _, cur, hg, h4, _⟩ := own_parts h hn
  constructor
  · rw [cell_of_row w g j cur _ _ hg, Array.getElem?_eq_getElem (by omega)]
    rfl
  · unfold World.frozen?
    simp [hg]
theorem erase_eq {α : Type} {L : List α} {i : Nat} : L.eraseIdx i = L.take i ++ L.drop (i + 1) := List.eraseIdx_eq_take_drop_succ ..
end Go.Proofs.Ytmlhoojcdidgkaa

/-
  Contracts of package ledger: open entries.
-/
namespace Go.Proofs.Ytmlhoojcdidgkaa
set_option linter.unusedSimpArgs false
set_option linter.unusedVariables false
open Go.RowKit
open Go.Sort (grow size_grow)

set_option maxHeartbeats 4000000
set_option maxRecDepth 100000
def lixI {α : Type} (p : α → Bool) (l : List α) : Int := match lastIx p l with | some i => i | none => -1
theorem openE_snoc {l : List Entry} {ref : Int} {m : Nat} (h : m < l.length) : openE (l.take (m + 1)) ref = openStep ref (openE (l.take m) ref) l[m] := by
  unfold openE
  rw [List.take_succ_eq_append_getElem h, List.foldl_append]
  rfl
theorem openE_len (ref : Int) : ∀ (l : List Entry) (out : List Entry), (l.foldl (openStep ref) out).length ≤ out.length + l.length
  | [], out => by simp
  | e :: l, out => by
    rw [List.foldl_cons, List.length_cons]
    have := openE_len ref l (openStep ref out e)
    have h2 : (openStep ref out e).length ≤ out.length + 1 := by
      unfold openStep
      split
      · omega
      · split
        · have := List.length_eraseIdx_le out (by assumption)
          omega
        · simp
    omega
theorem openE_le (l : List Entry) (ref : Int) : (openE l ref).length ≤ l.length := by
  have := openE_len ref l []
  simpa [openE] using this
theorem lixI_some {α : Type} {p : α → Bool} {l : List α} {i : Nat} (h : lastIx p l = some i) : lixI p l = i := by unfold lixI; rw [h]
theorem lixI_none {α : Type} {p : α → Bool} {l : List α} (h : lastIx p l = none) : lixI p l = -1 := by unfold lixI; rw [h]
end Go.Proofs.Ytmlhoojcdidgkaa

/-
  Contracts of package ledger: open entries; undoing.
-/
namespace Go.Proofs.Ytmlhoojcdidgkaa
set_option linter.unusedSimpArgs false
set_option linter.unusedVariables false
open Go.RowKit
open Go.Sort (grow size_grow)

set_option maxHeartbeats 4000000
set_option maxRecDepth 100000
theorem openStep_other {ref : Int} {out : List Entry} {e : Entry} (h : e.ref ≠ ref) : openStep ref out e = out := by unfold openStep; rw [if_pos h]
theorem openStep_none {ref : Int} {out : List Entry} {e : Entry} (h : e.ref = ref) (hn : lastIx (against e) out = none) : openStep ref out e = out ++ [e] := by unfold openStep; rw [if_neg (by simpa using h), hn]
theorem openStep_some {ref : Int} {out : List Entry} {e : Entry} {i : Nat} (h : e.ref = ref) (hn : lastIx (against e) out = some i) : openStep ref out e = out.eraseIdx i := by unfold openStep; rw [if_neg (by simpa using h), hn]

end Go.Proofs.Ytmlhoojcdidgkaa

/-
  Contracts of package ledger: undoing.
-/
namespace Go.Proofs.Ytmlhoojcdidgkaa
set_option linter.unusedSimpArgs false
set_option linter.unusedVariables false
open Go.RowKit
open Go.Sort (grow size_grow)

set_option maxHeartbeats 1000000
set_option maxRecDepth 100000
theorem undoR_cases (l : List Entry) (ref day : Int) : ((!ledOk l || !inB ref 1 1000000 || !inB day 0 366) = true ∧ undoR l ref day = ([], 1)) ∨ (ledOk l = true ∧ inB ref 1 1000000 = true ∧ inB day 0 366 = true ∧ ((begun l day = true ∧ undoR l ref day = ([], 6)) ∨
    (begun l day = false ∧ openE l ref = [] ∧ undoR l ref day = ([], 4)) ∨ (begun l day = false ∧ openE l ref ≠ [] ∧ 5000 < l.length + (openE l ref).length ∧ undoR l ref day = ([], 2)) ∨
    (begun l day = false ∧ openE l ref ≠ [] ∧ l.length + (openE l ref).length ≤ 5000 ∧ undoR l ref day = (l ++ (openE l ref).map (undone day), 0)))) := by
  unfold undoR
  by_cases h1 : (!ledOk l || !inB ref 1 1000000 || !inB day 0 366) = true
  · rw [if_pos h1]; exact .inl ⟨h1, rfl⟩
  · rw [if_neg h1]
    have h2 : (ledOk l = true ∧ inB ref 1 1000000 = true) ∧ inB day 0 366 = true := by simpa using h1
    refine .inr ⟨h2.1.1, h2.1.2, h2.2, ?_⟩
    by_cases hb : begun l day = true
    · rw [if_pos hb]; exact .inl ⟨hb, rfl⟩
    · rw [if_neg hb]
      have hb' : begun l day = false := by simpa using hb
      by_cases ho : openE l ref = []
      · rw [if_pos ho]; exact .inr (.inl ⟨hb', ho, rfl⟩)
      · rw [if_neg ho]
        by_cases h5 : 5000 < l.length + (openE l ref).length
        · rw [if_pos h5]; exact .inr (.inr (.inl ⟨hb', ho, h5, rfl⟩))
        · rw [if_neg h5]; exact .inr (.inr (.inr ⟨hb', ho, by omega, rfl⟩))
theorem undone_snoc {l r : List Entry} {day : Int} {k : Nat} (h : k < r.length) : l ++ (r.take (k + 1)).map (undone day) = (l ++ (r.take k).map (undone day)) ++ [undone day r[k]] := by
  rw [List.take_succ_eq_append_getElem h, List.map_append, List.append_assoc]
  rfl
end Go.Proofs.Ytmlhoojcdidgkaa

/-
  Contracts of the reference of package ledger: open entries; undoing.
-/
namespace Go.Proofs.Ytmlhoojcdidgkaa
set_option linter.unusedSimpArgs false
set_option linter.unusedVariables false
open Go.RowKit
open Go.Sort (grow size_grow)

set_option maxHeartbeats 4000000
set_option maxRecDepth 100000
section
variable {α : Type} {w : World} {B size : Nat} {enc : α → List Value} {A : Option Addr} {l : List α}
theorem Sl.drewN (h : Sl w B size enc A l) (n : Nat) : Sl (w.drewN n) B size enc A l := h
theorem Sl.take (h : Sl w B size enc A l) (k : Nat) : Sl w B size enc A (l.take k) := fun hne => by
  have hl : l ≠ [] := by rintro rfl; simp at hne
  obtain ⟨b, off, e, hb, hc⟩ := h hl
  refine ⟨b, off, e, hb, fun j hj r v hv => ?_⟩
  rw [List.length_take] at hj
  rw [List.getElem_take] at hv
  exact hc j (by omega) r v hv
theorem Sl.drop {b off : Nat} (h : Sl w B size enc (some ⟨b, off, none⟩) l) (k : Nat) : Sl w B size enc (some ⟨b, off + k * size, none⟩) (l.drop k) := fun hne => by
  have hl : l ≠ [] := by rintro rfl; simp at hne
  obtain ⟨b', off', e, hb, hc⟩ := h hl
  injection e with e
  injection e with e1 e2
  subst e1 e2
  refine ⟨b, off + k * size, rfl, hb, fun j hj r v hv => ?_⟩
  rw [List.length_drop] at hj
  rw [List.getElem_drop] at hv
  have := hc (k + j) (by omega) r v hv
  rw [show off + k * size + j * size + r = off + (k + j) * size + r by rw [Nat.add_mul]; omega]
  exact this
/-- 's[k:]' of a slice that reads as a list. -/
theorem Sl.cut {b off cap : Nat} (h : Sl w B size enc (some ⟨b, off, none⟩) l) (k : Nat) (hcap : l.length ≤ cap) : ∃ A', (if cap = k then some (⟨b, off, none⟩ : Addr) else some ⟨b, off + k * size, none⟩) = A' ∧ Sl w B size enc A' (l.drop k) := by
  by_cases hk : cap = k
  · refine ⟨some ⟨b, off, none⟩, by rw [if_pos hk], ?_⟩
    have : l.drop k = [] := List.drop_eq_nil_of_le (by omega)
    rw [this]
    exact Sl.nil_
  · exact ⟨_, by rw [if_neg hk], h.drop k⟩
end
theorem news_at {w : World} {n : Nat} (cs : Array Value) (t : TypeId) (l : List Value) (h : cs = l.toArray) (hn : n = w.heap.size) : ∀ (j : Nat) (u : Value), l[j]? = some u → (w.alloc (.cells cs t)).cell? ⟨n, j, none⟩ = some u := by subst hn; exact news_new w cs t l h
theorem openStep_refs {ref : Int} {out : List Entry} {e : Entry} (h : ∀ x ∈ out, x.ref = ref) : ∀ x ∈ openStep ref out e, x.ref = ref := by
  unfold openStep
  split
  · exact h
  · rename_i hr
    split
    · intro x hx
      exact h x (List.mem_of_mem_eraseIdx hx)
    · intro x hx
      rcases List.mem_append.1 hx with hx | hx
      · exact h x hx
      · simp at hx
        subst hx
        simpa using hr
theorem openE_refs (ref : Int) : ∀ (l : List Entry) (out : List Entry), (∀ x ∈ out, x.ref = ref) → ∀ x ∈ l.foldl (openStep ref) out, x.ref = ref
  | [], _, h => h
  | _ :: l, _, h => openE_refs ref l _ (openStep_refs h)
theorem openE_ref (l : List Entry) (ref : Int) : ∀ x ∈ openE l ref, x.ref = ref := openE_refs ref l [] (by simp)
theorem against3 {e x : Entry} {ref : Int} (he : e.ref = ref) (hx : x.ref = ref) : against e x = true ↔ (x.debit = e.credit ∧ x.credit = e.debit ∧ x.cents = e.cents) := by
  unfold against
  rw [decide_eq_true_eq, he, hx]
  constructor
  · rintro ⟨a, b, c, _⟩; exact ⟨b, a, c⟩
  · rintro ⟨a, b, c⟩; exact ⟨b, a, c, rfl⟩

end Go.Proofs.Ytmlhoojcdidgkaa

/-
  Package commission: the reference's statements; lists of integers.
-/
namespace Go.Proofs.Ytmlhoojcdidgkaa
set_option linter.unusedSimpArgs false
set_option linter.unusedVariables false
open Go.RowKit Go.Maps
open Go.Sort (grow size_grow)

set_option maxHeartbeats 4000000
set_option maxRecDepth 100000
def comms (p d : Int) (l : List Bill) : List Int := l.map fun b => comm p d b.price
def ofCh (l : List Bill) (ch : Int) : List Bill := l.filter fun b => b.channel == ch
theorem ofCh_step {l : List Bill} {ch : Int} {j : Nat} (h : j < l.length) : ofCh (l.take (j + 1)) ch = if l[j].channel = ch then ofCh (l.take j) ch ++ [l[j]] else ofCh (l.take j) ch := by
  unfold ofCh
  rw [List.take_succ_eq_append_getElem h, List.filter_append]
  by_cases hd : l[j].channel = ch
  · rw [if_pos hd]; simp [hd]
  · rw [if_neg hd]; simp [hd]
theorem ofCh_len (l : List Bill) (ch : Int) : (ofCh l ch).length ≤ l.length := List.length_filter_le _ _
def stmtR (p d : Int) (l : List Bill) (ch : Int) : List Int × Int × Int :=
  if 3000 < l.length then ([], 0, 2) else if (!partOk p d || !billsOk l || !inB ch 0 29) = true then ([], 0, 1)
  else if 1000000000 < (comms p d (ofCh l ch)).sum then ([], 0, 3) else (comms p d (ofCh l ch), (comms p d (ofCh l ch)).sum, 0)
theorem stmtR_many {p d ch : Int} {l : List Bill} (h : 3000 < l.length) : stmtR p d l ch = ([], 0, 2) := by unfold stmtR; rw [if_pos h]
theorem stmtR_no {p d ch : Int} {l : List Bill} (h0 : l.length ≤ 3000) (h : (!partOk p d || !billsOk l || !inB ch 0 29) = true) : stmtR p d l ch = ([], 0, 1) := by unfold stmtR; rw [if_neg (by omega), if_pos h]
theorem stmtR_far {p d ch : Int} {l : List Bill} (h0 : l.length ≤ 3000) (h1 : partOk p d = true) (h2 : billsOk l = true) (h3 : inB ch 0 29 = true) (h : 1000000000 < (comms p d (ofCh l ch)).sum) : stmtR p d l ch = ([], 0, 3) := by
  unfold stmtR; rw [if_neg (by omega), h1, h2, h3, if_neg (by simp), if_pos h]
theorem stmtR_ok {p d ch : Int} {l : List Bill} (h0 : l.length ≤ 3000) (h1 : partOk p d = true) (h2 : billsOk l = true) (h3 : inB ch 0 29 = true) (h : ¬ 1000000000 < (comms p d (ofCh l ch)).sum) : stmtR p d l ch = (comms p d (ofCh l ch), (comms p d (ofCh l ch)).sum, 0) := by
  unfold stmtR; rw [if_neg (by omega), h1, h2, h3, if_neg (by simp), if_neg h]
theorem comms_bd {p d : Int} (h1 : partOk p d = true) : ∀ {l : List Bill}, (∀ b ∈ l, b.ok = true) → 0 ≤ (comms p d l).sum ∧ (comms p d l).sum ≤ 1000000000 * (l.length : Int)
  | [], _ => by simp [comms]
  | b :: l, h => by
    have hb := h b (by simp)
    obtain ⟨n0, n1⟩ := (Bill.ok_iff.1 hb).2.2.2.2.2.2.1
    have := comm_bd h1 n0
    have ih := comms_bd h1 (l := l) (fun x hx => h x (by simp [hx]))
    unfold comms at ih ⊢
    rw [List.map_cons, List.sum_cons, List.length_cons]
    omega
theorem comms_snoc (p d : Int) (l : List Bill) (b : Bill) : comms p d (l ++ [b]) = comms p d l ++ [comm p d b.price] := by unfold comms; rw [List.map_append]; rfl
theorem elemBill : Elem Try.prog 22 44 9 72 := elem_mk Try.underlying22 (by kernel_rfl)
theorem bill_one (b : Bill) : ∀ u ∈ b.cs, u.oneCell' = true := by simp [Bill.cs, Value.oneCell']
theorem rOf_any (l : List Bill) (A : Option Addr) (c : Nat) (ch : Int) (w : World) (hs : SlBill w A l) (hl : l.length ≤ 3000) :
    Calls Try.prog 25 #[.slice A l.length c, .int .i64 ch] w fun e w' => (∃ v, e = .returned v ∧ OwnL w' w.heap.size 44 9 Bill.cs v (ofCh l ch)) ∧ Below w.heap.size w w' := by
  go_enter Try.func25, Try.ntmps25
  go_wp2
  go_loopw [5, 6] (fun ov i wr => ∃ m : Nat, m ≤ l.length ∧ i = .int .i64 m ∧ OwnL wr w.heap.size 44 9 Bill.cs ov (ofCh (l.take m) ch) ∧ Below w.heap.size w wr) (fun _ i _ => l.length - (intOf i).toNat)
  case atStart => exact ⟨0, by omega, rfl, OwnL.nil_, Below.refl _ _⟩
  case round =>
    obtain ⟨m, hm, rfl, hown, hbw⟩ := hrel
    have hbz := hbw.size
    by_cases hlt : m < l.length
    · have hx1 : (0 : Int) ≤ (m : Int) := by omega
      have hx2 : (m : Int) < (l.length : Int) := by omega
      obtain ⟨b, off, rfl, hbl, hcell⟩ := (hs.below hbw).at_ hlt
      have q0 := hcell 0 _ rfl
      have q1 := hcell 1 _ rfl
      have q2 := hcell 2 _ rfl
      have q3 := hcell 3 _ rfl
      have q4 := hcell 4 _ rfl
      have q5 := hcell 5 _ rfl
      have q6 := hcell 6 _ rfl
      have q7 := hcell 7 _ rfl
      have q8 := hcell 8 _ rfl
      rw [Nat.add_zero] at q0
      clear hcell
      have hst := ofCh_step (ch := ch) hlt
      have hlen := ofCh_len (l.take m) ch
      rw [List.length_take] at hlen
      have hlen2 : (ofCh (l.take m) ch).length ≤ 3000 := by omega
      clear hlen
      generalize hout : ofCh (l.take m) ch = out at *
      clear hout
      by_cases hd : l[m].channel = ch
      · have hrb : (l[m].channel == ch) = true := by simpa using hd
        rw [if_pos hd] at hst
        have HST := Lib.hid hst
        clear hst hd
        go_wp2_with (at_builtin; go_loud (refine wpList_push _ rfl (.tmp 20) (.tmp 25) 22 44 rfl w.heap.size 9 72 Bill.cs elemBill bill_len bill_one _ out rfl (hown.alloc _) _ 1 l[m] rfl (news_at _ _ _ rfl (by simp)) (by first | omega | (simp; done) | (simp; omega)) (by first | omega | (simp; done) | (simp; omega)) (by first | omega | (simp; done) | (simp; omega)) ?_); intro v2 w5 hown5 hgrow5)
        have hb5 : Below w.heap.size w w5 := below_push (by repeat' (first | (with_reducible exact Below.refl _ _) | (with_reducible assumption) | (with_reducible refine below_drewN ?_ _) | (with_reducible refine Below.drew ?_) | (with_reducible refine below_regrown_up _ _ ?_ ?_) | (with_reducible refine Below.alloc ?_ ?_ _) | (with_reducible refine Below.setCell ?_ ?_ _) | (with_reducible refine below_up ?_ ?_ (by assumption)) | (with_reducible exact Nat.le_refl _) | omega | (simp; done) | (simp; omega))) (hown.alloc _) hgrow5 (by first | omega | (simp; done) | (simp; omega))
        go_roundw
        case rel =>
          refine ⟨m + 1, by omega, by go_num, ?_, hb5⟩
          rw [HST.out]
          exact hown5
        case measure => simp [intOf]; omega
      · have hrb : (l[m].channel == ch) = false := by simpa using hd
        rw [if_neg hd] at hst
        have HST := Lib.hid hst
        clear hst hd
        go_wp2_with fail
        go_roundw
        case rel =>
          refine ⟨m + 1, by omega, by go_num, ?_, hbw⟩
          rw [HST.out]
          exact hown
        case measure => simp [intOf]; omega
    · obtain rfl : m = l.length := by omega
      rw [List.take_of_length_le (Nat.le_refl _)] at hown
      go_wp2
      go_ret
      exact ⟨⟨_, rfl, hown⟩, hbw⟩
def OutI3 (r : List Int × Int × Int) (e : Ending) (w' : World) : Prop := ∃ A c, e = .returned (.tuple #[.slice A r.1.length c, .int .i64 r.2.1, .int .i64 r.2.2]) ∧ SlInt w' A r.1
theorem outI3_nil {s er : Int} {w' : World} : OutI3 ([], s, er) (.returned (.tuple #[.slice none 0 0, .int .i64 s, .int .i64 er])) w' := ⟨none, 0, rfl, Sl.nil_⟩
end Go.Proofs.Ytmlhoojcdidgkaa

/-
  Package deposit: the plain entries of a refund.
-/
namespace Go.Proofs.Ytmlhoojcdidgkaa
set_option linter.unusedSimpArgs false
set_option linter.unusedVariables false

def keptE (b : Bill) (kept day : Int) : Entry := ⟨day, 500 + b.stay % 100, 300 + b.place, kept, b.stay⟩
def backE (b : Bill) (back day : Int) : Entry := ⟨day, 500 + b.stay % 100, 900, back, b.stay⟩
def entriesL (b : Bill) (back kept day : Int) : List Entry := (if 0 < kept then [keptE b kept day] else []) ++ (if 0 < back then [backE b back day] else [])
def entriesR (b : Bill) (paid day : Int) : List Entry × Int :=
  if (!b.ok || !amt paid || !inB day 0 366) = true then ([], 1) else (entriesL b (paid - min paid b.keep) (min paid b.keep) day, 0)
theorem entriesR_no {b : Bill} {paid day : Int} (h : (!b.ok || !amt paid || !inB day 0 366) = true) : entriesR b paid day = ([], 1) := by unfold entriesR; rw [if_pos h]
theorem entriesR_ok {b : Bill} {paid day : Int} (h1 : b.ok = true) (h2 : amt paid = true) (h3 : inB day 0 366 = true) : entriesR b paid day = (entriesL b (paid - min paid b.keep) (min paid b.keep) day, 0) := by unfold entriesR; rw [h1, h2, h3]; rfl
end Go.Proofs.Ytmlhoojcdidgkaa
