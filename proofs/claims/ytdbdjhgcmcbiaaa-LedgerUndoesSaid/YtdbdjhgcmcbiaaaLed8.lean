/-
  Contracts of package ledger: balances.
-/
import Derived.Test.YtdbdjhgcmcbiaaaLed7
namespace Go.Proofs.Ytdbdjhgcmcbiaaa
set_option linter.unusedSimpArgs false
set_option linter.unusedVariables false
open Go.RowKit Go.Maps
open Go.Sort (grow size_grow)

set_option maxHeartbeats 4000000
set_option maxRecDepth 100000

theorem upto_takeWhile {day : Int} : ∀ {l : List Entry}, Rises l → upto l day = l.takeWhile (fun e => decide (e.day ≤ day))
  | [], _ => rfl
  | x :: l, h => by
    obtain ⟨h1, h2⟩ := List.pairwise_cons.1 h
    unfold upto
    by_cases hx : x.day ≤ day
    · rw [List.filter_cons, if_pos (by simpa using hx), List.takeWhile_cons, if_pos (by simpa using hx)]
      congr 1
      exact upto_takeWhile h2
    · rw [List.filter_cons, if_neg (by simpa using hx), List.takeWhile_cons, if_neg (by simpa using hx), List.filter_eq_nil_iff]
      intro y hy
      have := h1 y hy
      simp
      omega
theorem eok_upto {L : List EOk} {l : List Entry} (hL : L.map (·.1) = l) (h : Rises l) (day : Int) : (L.takeWhile (fun e => decide (e.1.day ≤ day))).map (·.1) = upto l day := by
  subst hL
  rw [upto_takeWhile h, List.takeWhile_map]
  rfl
theorem size_owns {w : World} {P : Program} {k : TypeId} {R : Value → Option (DM × List MemPlace)} {b n : Nat} {D : DM} (h : w.ownsMap P k R b n D) : Maps.size D ≤ n := by
  obtain ⟨es, clock, hb, hf, hn, rfl⟩ := h
  show (List.foldr DataW.insert [] _).length ≤ n
  rw [length_sorted, List.length_map, Array.length_toList]
  exact hn

theorem lbalance_any (l : List Entry) (A : Option Addr) (c : Nat) (a day : Int) (w : World) (hs : SlEnt w A l) (hl : l.length ≤ 140737488355328) :
    Calls Try.prog 31 #[.slice A l.length c, .int .i64 a, .int .i64 day] w fun e w' => e = .returned (.tuple #[.int .i64 (balR l a day).1, .int .i64 (balR l a day).2]) ∧ Below w.heap.size w w' := by
  rcases balR_cases l a day with ⟨h1, hr⟩ | ⟨h1, h2, h3, hr⟩
  · cases g1 : ledOk l <;> cases g2 : inB a 100 999 <;> cases g3 : inB day 0 366
    case true.true.true => rw [g1, g2, g3] at h1; simp at h1
    all_goals
      rw [hr]
      clear h1 hr
      go_enter Try.func31, Try.ntmps31
      go_wp2_with (first | (go_at_call 28; refine (lvalid_any l A c _ hs hl).mono ?_; rintro e w1 ⟨rfl, hb1⟩; have hz1 := hb1.size; (try simp only [World.size_alloc, World.size_setCell, World.size_drew, size_drewN', size_grow, size_redrawn] at hz1); obtain ⟨hc1, hf1⟩ := bcellB (B := w.heap.size) hb1 (by first | omega | (simp only [World.size_alloc, World.size_setCell, World.size_drew, size_drewN', size_grow, size_redrawn]; omega))); rw [g1] | (go_at_call 58; refine (isAccount_any _ _).mono ?_; rintro e w2 ⟨rfl, rfl⟩) | (go_at_call 59; refine (isDay_any _ _).mono ?_; rintro e w2 ⟨rfl, rfl⟩))
      go_ret2
      exact ⟨rfl, hb1⟩
  · rw [hr]
    clear hr
    obtain ⟨h5, hall, hri⟩ := ledOk_iff.1 h1
    obtain ⟨L, hL⟩ := eok_of hall
    have hupto := eok_upto hL hri day
    have hlen : l.length = L.length := by rw [← hL, List.length_map]
    have HLEN := Lib.hid hlen
    have HL := Lib.hid hL
    have HU := Lib.hid hupto
    have ha := inB_iff.1 h2
    obtain ⟨a1, a2⟩ := ha
    have HR := Lib.hid (show bal (fun x => x == a) l day = mvs (fun x => x == a) (upto l day) from rfl)
    clear hall hri hL hlen hupto
    go_enter Try.func31, Try.ntmps31
    go_wp2_with (first
      | (go_at_call 28; refine (lvalid_any l A c _ hs hl).mono ?_; rintro e w1 ⟨rfl, hb1⟩; have hz1 := hb1.size; (try simp only [World.size_alloc, World.size_setCell, World.size_drew, size_drewN', size_grow, size_redrawn] at hz1); obtain ⟨hc1, hf1⟩ := bcellB (B := w.heap.size) hb1 (by first | omega | (simp only [World.size_alloc, World.size_setCell, World.size_drew, size_drewN', size_grow, size_redrawn]; omega))); rw [h1]
      | (go_at_call 58; refine (isAccount_any _ _).mono ?_; rintro e w2 ⟨rfl, rfl⟩)
      | (go_at_call 59; refine (isDay_any _ _).mono ?_; rintro e w2 ⟨rfl, rfl⟩)
      | (go_at_call 60; have hc := sums_any L A c day w1 (by rw [HL.out]; exact hs.up hb1) (by rw [← HLEN.out]; exact h5); rw [← HLEN.out, HU.out] at hc; refine hc.mono ?_; clear hc; rintro e w4 ⟨⟨b, N, D, rfl, hown, hN, hS⟩, hb4⟩; have HS := Lib.hid hS; clear hS)
      | (at_lookup; refine wpList_lookup_own_int _ rfl _ _ 82 rfl 3 3 .i64 keyedI Try.underlying82 Try.underlying3 (zero_int _) b N D rfl hown _ _ rfl (keyOf_int_mk Try.underlying3 (WalkArith.wf_i64 (by omega))) ?_; intro c1 hat1 hwc1; have HG1 := Lib.hid (getI_of hat1); clear hat1 hwc1))
    go_ret2
    refine ⟨?_, below_up hb1 hz1 hb4⟩
    rw [HR.out, ← HS.out.at_, HG1.out]
    rfl

theorem mvs_congr {p q : Int → Bool} {es : List Entry} (h : ∀ e ∈ es, e.ok = true) (hpq : ∀ a, 100 ≤ a → a ≤ 999 → p a = q a) : mvs p es = mvs q es := by
  unfold mvs
  congr 1
  refine List.map_congr_left (fun e he => ?_)
  obtain ⟨_, h1, h2, _⟩ := Entry.ok_iff.1 (h e he)
  unfold mv
  rw [hpq _ h1.1 h1.2, hpq _ h2.1 h2.2]
def kq (k : Int) (a : Int) : Bool := a / 100 == k
theorem kq_ofKind {k a : Int} (h1 : 100 ≤ a) (h2 : a ≤ 999) : kq k a = ofKind k a := by
  unfold kq ofKind
  rw [Bool.eq_iff_iff, beq_iff_eq, inB_iff]
  omega
theorem lkind_any (l : List Entry) (A : Option Addr) (c : Nat) (k day : Int) (w : World) (hs : SlEnt w A l) (hl : l.length ≤ 140737488355328) :
    Calls Try.prog 33 #[.slice A l.length c, .int .i64 k, .int .i64 day] w fun e w' => e = .returned (.tuple #[.int .i64 (kindR l k day).1, .int .i64 (kindR l k day).2]) ∧ Below w.heap.size w w' := by
  rcases kindR_cases l k day with ⟨h1, hr⟩ | ⟨h1, h2, h3, hr⟩
  · cases g1 : ledOk l <;> cases g2 : inB k 1 9 <;> cases g3 : inB day 0 366
    case true.true.true => rw [g1, g2, g3] at h1; simp at h1
    all_goals
      rw [hr]
      clear h1 hr
      go_enter Try.func33, Try.ntmps33
      go_wp2_with (first | (go_at_call 28; refine (lvalid_any l A c _ hs hl).mono ?_; rintro e w1 ⟨rfl, hb1⟩; have hz1 := hb1.size; (try simp only [World.size_alloc, World.size_setCell, World.size_drew, size_drewN', size_grow, size_redrawn] at hz1); obtain ⟨hc1, hf1⟩ := bcellB (B := w.heap.size) hb1 (by first | omega | (simp only [World.size_alloc, World.size_setCell, World.size_drew, size_drewN', size_grow, size_redrawn]; omega))); rw [g1] | (go_at_call 64; refine (led_within_any _ _ _ _).mono ?_; rintro e w2 ⟨rfl, rfl⟩) | (go_at_call 59; refine (isDay_any _ _).mono ?_; rintro e w2 ⟨rfl, rfl⟩))
      go_ret2
      exact ⟨rfl, hb1⟩
  · rw [hr]
    clear hr
    obtain ⟨h5, hall, hri⟩ := ledOk_iff.1 h1
    obtain ⟨L, hL⟩ := eok_of hall
    have hupto := eok_upto hL hri day
    have hlen : l.length = L.length := by rw [← hL, List.length_map]
    have hup : ∀ e ∈ upto l day, e.ok = true := fun e he => hall e (upto_mem he)
    have hul := upto_len l day
    have HLEN := Lib.hid hlen
    have HL := Lib.hid hL
    have HU := Lib.hid hupto
    have HR := Lib.hid (show bal (ofKind k) l day = mvs (kq k) (upto l day) from (mvs_congr hup (fun a h1 h2 => kq_ofKind h1 h2)).symm)
    have HBD := Lib.hid (fun p => mvs_bd p hup)
    clear hall hri hL hlen hupto hup
    go_enter Try.func33, Try.ntmps33
    go_wp2_with (first
      | (go_at_call 28; refine (lvalid_any l A c _ hs hl).mono ?_; rintro e w1 ⟨rfl, hb1⟩; have hz1 := hb1.size; (try simp only [World.size_alloc, World.size_setCell, World.size_drew, size_drewN', size_grow, size_redrawn] at hz1); obtain ⟨hc1, hf1⟩ := bcellB (B := w.heap.size) hb1 (by first | omega | (simp only [World.size_alloc, World.size_setCell, World.size_drew, size_drewN', size_grow, size_redrawn]; omega))); rw [h1]
      | (go_at_call 64; refine (led_within_any _ _ _ _).mono ?_; rintro e w2 ⟨rfl, rfl⟩)
      | (go_at_call 59; refine (isDay_any _ _).mono ?_; rintro e w2 ⟨rfl, rfl⟩)
      | (go_at_call 60; have hc := sums_any L A c day w1 (by rw [HL.out]; exact hs.up hb1) (by rw [← HLEN.out]; exact h5); rw [← HLEN.out, HU.out] at hc; refine hc.mono ?_; clear hc; rintro e w4 ⟨⟨b, N, D, rfl, hown, hN, hS⟩, hb4⟩; have HS := Lib.hid hS; clear hS)
      | (at_range; refine wpList_range_own _ rfl _ 82 rfl 3 3 keyedI Try.underlying82 _ b N D rfl hown ?_; intro w5 hrg5 hg5 hs5; go_frame))
    have hsz := size_owns hown
    have hz4 := hb4.size
    have hb5 : Below w4.heap.size w4 w5 := ⟨hg5.os, hg5.tape, hg5.output, hg5.size, fun i hi => hg5.block i hi (by simp)⟩
    have hb05 : Below w.heap.size w w5 := below_up (below_up hb1 hz1 hb4) (by omega) hb5
    go_loopw [8] (fun s wr => ∃ (x : Int) (left : Lit → Bool) (cnt : Nat), s = .int .i64 x ∧ wr.ranges Try.prog 3 (plainElem Try.prog 3) b w4.heap.size N D left cnt ∧ Hid (∀ z, left z = true → Maps.has D z = true) ∧ Hid (x + msum (fun z => onI (kq k) z && left z) D = mvs (kq k) (upto l day)) ∧ cnt ≤ 10000 ∧ -5000000000000 * (10000 - (cnt : Int)) ≤ x ∧ x ≤ 5000000000000 * (10000 - (cnt : Int)) ∧ Below w.heap.size w wr)
      (fun _ wr => wr.rangeLeft b w4.heap.size)
    case atStart =>
      refine ⟨0, _, _, rfl, hrg5, Lib.hid (fun z h => h), Lib.hid ?_, by omega, by omega, by omega, hb05⟩
      rw [msum_all HS.out.tidy HS.out.ints.keys, HS.out.all, Int.zero_add]
    case round =>
      obtain ⟨x, left, cnt, rfl, hrg, hleft, hsum, hc0, hx1, hx2, hbw⟩ := hrel
      have hbz := hbw.size
      go_wp2_with (at_next; refine wpList_next_ranges_ii _ rfl _ rfl 3 3 .i64 .i64 keyedI Try.underlying3 Try.underlying3 b w4.heap.size N _ _ _ rfl hrg ?_ ?_)
      · intro _ hl0
        have hfin : x = mvs (kq k) (upto l day) := by
          have := hsum.out
          rw [msum_none _ _ hl0] at this
          omega
        have HF := Lib.hid hfin
        clear hfin hl0
        go_wp2
        go_ret2
        refine ⟨?_, hbw⟩
        rw [HR.out, ← HF.out]
        rfl
      · intro a v w6 cnt6 hwa hwv hla hat hrg6 hlt6 hg6 hs6 hen
        have hkey := HS.out.keys a (hleft.out _ hla)
        have hga : getI D a = v := by unfold getI; rw [hat]; rfl
        have hv := HBD.out (fun z => z == a)
        rw [← HS.out.at_, hga] at hv
        have hms := msum_left HS.out.tidy (onI (kq k)) left hla
        rw [hga] at hms
        have hle : onI (kq k) (kI a) = kq k a := rfl
        rw [hle] at hms
        obtain ⟨hk1, hk2⟩ := hkey
        obtain ⟨hv1, hv2⟩ : -5000000000000 ≤ v ∧ v ≤ 5000000000000 := by omega
        have HMS := Lib.hid hms
        have HLA := Lib.hid hla
        have hb6 : Below w.heap.size w w6 := hbw.grown hg6 hbz (fun j e => by cases e; omega)
        have hquo : IntKind.i64.wrap (a.tdiv 100) = a / 100 := by rw [Int.tdiv_eq_ediv_of_nonneg (by omega)]; exact IntWalk.i64_in _ (by omega)
        clear hat hms hga hle hla hv hwa hwv
        by_cases hq : a / 100 = k
        · have hqb : (a / 100 == k) = true := by simpa using hq
          have HQ := Lib.hid hq
          clear hq
          go_wp2_with fail
          go_roundw
          case rel =>
            refine ⟨x + v, _, cnt6, by go_num, hrg6, Lib.hid (fun z h => hleft.out z (by simp at h; exact h.1)), Lib.hid ?_, by omega, by omega, by omega, hb6⟩
            have h1 := hsum.out
            have h2 := HMS.out
            have h3 : kq k a = true := by unfold kq; simpa using HQ.out
            rw [h3, if_pos rfl] at h2
            show x + v + msum (fun z => onI (kq k) z && (left z && !z.sameKey (kI a))) D = _
            omega
          case measure => rw [hrg6.left_eq, hrg.left_eq]; exact hlt6
        · have hqb : (a / 100 == k) = false := by simpa using hq
          have HQ := Lib.hid hq
          clear hq
          go_wp2_with fail
          go_roundw
          case rel =>
            refine ⟨x, _, cnt6, by go_num, hrg6, Lib.hid (fun z h => hleft.out z (by simp at h; exact h.1)), Lib.hid ?_, by omega, by omega, by omega, hb6⟩
            have h1 := hsum.out
            have h2 := HMS.out
            have h3 : kq k a = false := by unfold kq; simpa using HQ.out
            rw [h3, if_neg (by simp)] at h2
            show x + msum (fun z => onI (kq k) z && (left z && !z.sameKey (kI a))) D = _
            omega
          case measure => rw [hrg6.left_eq, hrg.left_eq]; exact hlt6
end Go.Proofs.Ytdbdjhgcmcbiaaa
