/-
  The law 'LedgerZero': the walk.
-/
import Derived.Test.YtdbdjhgcmcbiaaaLedMatches
namespace Go.Proofs.Ytdbdjhgcmcbiaaa
set_option linter.unusedSimpArgs false
set_option linter.unusedVariables false
open Go.RowKit
open Go.Sort (grow size_grow)

set_option maxHeartbeats 4000000
set_option maxRecDepth 100000

theorem usable_any (l : List Entry) (A : Option Addr) (c : Nat) (w : World) (hs : SlEnt w A l) (hl0 : l.length ≤ maxLen) : Calls Try.prog 37 #[.slice A l.length c] w fun e w' => e = .returned (.bool (decide (l.length ≤ 60) && ledOk l)) ∧ Below w.heap.size w w' := by
  by_cases h60 : l.length ≤ 60
  · have h6 : (l.length : Int) ≤ 60 := by omega
    rw [decide_eq_true h60]
    go_enter Try.func37, Try.ntmps37
    go_wp2_with (first
      | (go_at_call 25; refine (few_any _ _ _ _ hl0).mono ?_; rintro e w' ⟨rfl, rfl⟩; rw [show decide ((l.length : Int) ≤ 60) = true from decide_eq_true (by omega)])
      | (go_at_call 29; refine (rlvalid_any l A c _ hs (by omega)).mono ?_; rintro e w1 ⟨rfl, hb1⟩))
    go_ret
    exact ⟨ret_bool (by simp), hb1⟩
  · rw [decide_eq_false h60]
    go_enter Try.func37, Try.ntmps37
    go_wp2_with (go_at_call 25; refine (few_any _ _ _ _ hl0).mono ?_; rintro e w' ⟨rfl, rfl⟩; rw [show decide ((l.length : Int) ≤ 60) = false from decide_eq_false (by omega)])
    go_ret
    exact ⟨ret_bool (by simp), Below.refl _ _⟩
theorem bal_split {p q r : Int → Bool} (h : ∀ a, p a = (q a || r a)) (hd : ∀ a, (q a && r a) = false) (l : List Entry) (day : Int) : bal p l day = bal q l day + bal r l day := by
  unfold bal mvs
  generalize upto l day = es
  induction es with
  | nil => rfl
  | cons e es ih =>
    rw [List.map_cons, List.map_cons, List.map_cons, List.sum_cons, List.sum_cons, List.sum_cons, ih]
    have h1 : mv p e = mv q e + mv r e := by
      unfold mv
      rw [h e.debit, h e.credit]
      have d1 := hd e.debit
      have d2 := hd e.credit
      cases hq1 : q e.debit <;> cases hr1 : r e.debit <;> cases hq2 : q e.credit <;> cases hr2 : r e.credit <;> simp [hq1, hr1, hq2, hr2] at d1 d2 ⊢ <;> omega
    rw [h1]
    omega
theorem bal_none {p : Int → Bool} (h : ∀ a, p a = false) (l : List Entry) (day : Int) : bal p l day = 0 := by
  unfold bal mvs
  generalize upto l day = es
  induction es with
  | nil => rfl
  | cons e es ih =>
    rw [List.map_cons, List.sum_cons, ih]
    unfold mv
    rw [h, h]
    simp
theorem bal_all {p : Int → Bool} (h : ∀ a, 100 ≤ a → a ≤ 999 → p a = true) {l : List Entry} (hl : ∀ e ∈ l, e.ok = true) (day : Int) : bal p l day = 0 := by
  have hu : ∀ e ∈ upto l day, e.ok = true := fun e he => hl e (upto_mem he)
  unfold bal mvs
  generalize upto l day = es at *
  induction es with
  | nil => rfl
  | cons e es ih =>
    rw [List.map_cons, List.sum_cons, ih (fun x hx => hu x (by simp [hx]))]
    obtain ⟨_, h1, h2, _⟩ := Entry.ok_iff.1 (hu e (by simp))
    unfold mv
    rw [h _ h1.1 h1.2, h _ h2.1 h2.2]
    simp
theorem bal_next {lo hi mid : Int} (h1 : lo ≤ mid + 1) (h2 : mid ≤ hi) (l : List Entry) (day : Int) : bal (fun a => inB a lo hi) l day = bal (fun a => inB a lo mid) l day + bal (fun a => inB a (mid + 1) hi) l day := by
  refine bal_split (fun a => ?_) (fun a => ?_) l day
  · rw [Bool.eq_iff_iff, Bool.or_eq_true, inB_iff, inB_iff, inB_iff]; omega
  · rw [Bool.and_eq_false_iff]
    by_cases ha : a ≤ mid
    · exact .inr (inB_f (by omega))
    · exact .inl (inB_f (by omega))
theorem kindR_ok {l : List Entry} {k day : Int} (h : ledOk l = true) (hk : 1 ≤ k ∧ k ≤ 9) (hd : 0 ≤ day ∧ day ≤ 366) : kindR l k day = (bal (ofKind k) l day, 0) := by
  rcases kindR_cases l k day with ⟨h1, _⟩ | ⟨_, _, _, h1⟩
  · rw [h, inB_t hk.1 hk.2, inB_t hd.1 hd.2] at h1; simp at h1
  · exact h1
theorem balR_ok {l : List Entry} {a day : Int} (h : ledOk l = true) (hk : 100 ≤ a ∧ a ≤ 999) (hd : 0 ≤ day ∧ day ≤ 366) : balR l a day = (bal (fun x => x == a) l day, 0) := by
  rcases balR_cases l a day with ⟨h1, _⟩ | ⟨_, _, _, h1⟩
  · rw [h, inB_t hk.1 hk.2, inB_t hd.1 hd.2] at h1; simp at h1
  · exact h1

theorem zero_walk (l : List Entry) (A : Option Addr) (c : Nat) (u v : Int) (w : World) (hs : SlEnt w A l) (hl : l.length ≤ 60) (hk : ledOk l = true) (u0 : 0 ≤ u) (u1 : u ≤ 65535) (v0 : 0 ≤ v) (v1 : v ≤ 255) :
    Calls Try.prog 11 #[.slice A l.length c, .int .u16 u, .int .u8 v] w fun e w' => e = .returned (.bool true) ∧ Below w.heap.size w w' := by
  have hl0 : l.length ≤ maxLen := by unfold maxLen; omega
  have hl1 : l.length ≤ 140737488355328 := by omega
  have d0 : 0 ≤ u % 367 ∧ u % 367 ≤ 366 := by omega
  have k0 : 1 ≤ 1 + v % 9 := by omega
  have k1 : 1 + v % 9 ≤ 9 := by omega
  have HALL := Lib.hid (ledOk_iff.1 hk).2.1
  go_enter Try.func11, Try.ntmps11
  go_wp2_with (first
    | (go_at_call 24; refine (head28_any _).mono ?_; rintro e w1 ⟨rfl, hb1⟩; have hz1 := hb1.size; (try simp only [World.size_alloc, World.size_setCell, World.size_drew, size_drewN', size_grow, size_redrawn] at hz1); obtain ⟨hc1, hf1⟩ := bcellB (B := w.heap.size) hb1 (by first | omega | (simp only [World.size_alloc, World.size_setCell, World.size_drew, size_drewN', size_grow, size_redrawn]; omega)))
    | (go_at_call 37; refine (usable_any l A c _ (hs.up hb1) hl0).mono ?_; rintro e w2 ⟨rfl, hb2⟩; rw [decide_eq_true hl, hk, Bool.true_and]))
  have hB2 := below_up hb1 hz1 hb2
  go_loopw [7, 10, 12] (fun up al i wr => ∃ q : Int, 1 ≤ q ∧ q ≤ 10 ∧ i = .int .i64 q ∧ up = .bool true ∧ al = .int .i64 (bal (fun a => inB a 100 (100 * q - 1)) l (u % 367)) ∧ Below w.heap.size w wr) (fun _ _ i _ => 10 - (intOf i).toNat)
  case atStart => exact ⟨1, by omega, by omega, rfl, rfl, by rw [bal_none (fun a => inB_f (by omega))], hB2⟩
  case round =>
    obtain ⟨q, hq1, hq2, rfl, rfl, rfl, hbw⟩ := hrel
    have hbd := bal_bd (fun a => inB a 100 (100 * q - 1)) (day := u % 367) hk
    by_cases hlt : q ≤ 9
    · have hkr := kindR_ok (k := q) hk (by omega) d0
      have hbd2 := bal_bd (ofKind q) (day := u % 367) hk
      have hnx := bal_next (lo := 100) (mid := 100 * q - 1) (hi := 100 * (q + 1) - 1) (by omega) (by omega) l (u % 367)
      have hof : (fun a => inB a (100 * q - 1 + 1) (100 * (q + 1) - 1)) = ofKind q := by
        funext a
        unfold ofKind
        rw [show 100 * q - 1 + 1 = 100 * q by omega, show 100 * (q + 1) - 1 = 100 * q + 99 by omega]
      rw [hof] at hnx
      obtain ⟨x1, x2⟩ := hbd
      obtain ⟨y1, y2⟩ := hbd2
      have HNX := Lib.hid hnx
      have HKR := Lib.hid hkr
      clear hnx hof hkr
      generalize bal (fun a => inB a 100 (100 * q - 1)) l (u % 367) = S at *
      generalize bal (ofKind q) l (u % 367) = K at *
      go_wp2_with fail
      refine (kind_lit HKR.out A c _ (hs.up hbw) hl1).mono ?_
      rintro e w3 ⟨rfl, hb3⟩
      go_wp2_with fail
      go_roundw
      case rel =>
        refine ⟨q + 1, by omega, by omega, rfl, by simp, ?_, below_up hbw hbw.size hb3⟩
        rw [HNX.out]
      case measure => simp [intOf]; omega
    · obtain rfl : q = 10 := by omega
      have hz : bal (fun a => inB a 100 (100 * 10 - 1)) l (u % 367) = 0 := bal_all (fun a h1 h2 => inB_t h1 (by omega)) HALL.out (u % 367)
      rw [hz]
      clear hz hbd
      obtain ⟨wo, rfl⟩ : ∃ wo : World, wo = wr := ⟨_, rfl⟩
      go_wp2_with fail
      go_loopw [7, 11, 15] (fun up sm i wr => ∃ j : Nat, j ≤ 100 ∧ i = .int .i64 (100 * (1 + v % 9) + (j : Int)) ∧ up = .bool true ∧ sm = .int .i64 (bal (fun a => inB a (100 * (1 + v % 9)) (100 * (1 + v % 9) + (j : Int) - 1)) l (u % 367)) ∧ Below w.heap.size w wr) (fun _ _ i _ => (100 * (1 + v % 9) + 100 - intOf i).toNat)
      case atStart => exact ⟨0, by omega, by simp, rfl, by rw [bal_none (fun a => inB_f (by omega))], hbw⟩
      case round =>
        obtain ⟨j, hj, rfl, rfl, rfl, hbw2⟩ := hrel
        have hbd := bal_bd (fun a => inB a (100 * (1 + v % 9)) (100 * (1 + v % 9) + (j : Int) - 1)) (day := u % 367) hk
        by_cases hlt2 : j < 100
        · have hbr := balR_ok (a := 100 * (1 + v % 9) + (j : Int)) hk (by omega) d0
          have hbd2 := bal_bd (fun x => x == 100 * (1 + v % 9) + (j : Int)) (day := u % 367) hk
          have hnx := bal_next (lo := 100 * (1 + v % 9)) (mid := 100 * (1 + v % 9) + (j : Int) - 1) (hi := 100 * (1 + v % 9) + (j : Int)) (by omega) (by omega) l (u % 367)
          have hof : (fun a => inB a (100 * (1 + v % 9) + (j : Int) - 1 + 1) (100 * (1 + v % 9) + (j : Int))) = fun x => x == 100 * (1 + v % 9) + (j : Int) := by
            funext a
            rw [show 100 * (1 + v % 9) + (j : Int) - 1 + 1 = 100 * (1 + v % 9) + (j : Int) by omega]
            exact inB_self _ _
          rw [hof] at hnx
          obtain ⟨x1, x2⟩ := hbd
          obtain ⟨y1, y2⟩ := hbd2
          have HNX := Lib.hid hnx
          have HBR := Lib.hid hbr
          clear hnx hof hbr
          generalize bal (fun a => inB a (100 * (1 + v % 9)) (100 * (1 + v % 9) + (j : Int) - 1)) l (u % 367) = S at *
          generalize bal (fun x => x == 100 * (1 + v % 9) + (j : Int)) l (u % 367) = K at *
          go_wp2_with fail
          refine (bal_lit HBR.out A c _ (hs.up hbw2) hl1).mono ?_
          rintro e w3 ⟨rfl, hb3⟩
          go_wp2_with fail
          go_roundw
          case rel =>
            refine ⟨j + 1, by omega, by simp; omega, by simp, ?_, below_up hbw2 hbw2.size hb3⟩
            rw [show 100 * (1 + v % 9) + ((j + 1 : Nat) : Int) - 1 = 100 * (1 + v % 9) + (j : Int) from by omega, HNX.out]
          case measure => simp [intOf]; omega
        · obtain rfl : j = 100 := by omega
          have hkr := kindR_ok (k := 1 + v % 9) hk ⟨k0, k1⟩ d0
          have hof : (fun a => inB a (100 * (1 + v % 9)) (100 * (1 + v % 9) + ((100 : Nat) : Int) - 1)) = ofKind (1 + v % 9) := by
            funext a
            unfold ofKind
            rw [show 100 * (1 + v % 9) + ((100 : Nat) : Int) - 1 = 100 * (1 + v % 9) + 99 by omega]
          rw [hof]
          have HKR := Lib.hid hkr
          clear hof hkr hbd
          generalize bal (ofKind (1 + v % 9)) l (u % 367) = K at *
          go_wp2_with fail
          refine (kind_lit HKR.out A c _ (hs.up hbw2) hl1).mono ?_
          rintro e w3 ⟨rfl, hb3⟩
          go_wp2_with fail
          go_ret
          exact ⟨ret_bool (by simp), below_up hbw2 hbw2.size hb3⟩
theorem law_zero (l : List Entry) (A : Option Addr) (c : Nat) (u v : Int) (w : World) (hs : SlEnt w A l) (hl0 : l.length ≤ maxLen) (u0 : 0 ≤ u) (u1 : u ≤ 65535) (v0 : 0 ≤ v) (v1 : v ≤ 255) :
    Calls Try.prog 11 #[.slice A l.length c, .int .u16 u, .int .u8 v] w fun e w' => e = .returned (.bool true) ∧ Below w.heap.size w w' := by
  by_cases h : (decide (l.length ≤ 60) && ledOk l) = true
  · rw [Bool.and_eq_true, decide_eq_true_eq] at h
    exact zero_walk l A c u v w hs h.1 h.2 u0 u1 v0 v1
  · have h' : (decide (l.length ≤ 60) && ledOk l) = false := by simpa using h
    clear h
    go_enter Try.func11, Try.ntmps11
    go_wp2_with (first
      | (go_at_call 24; refine (head28_any _).mono ?_; rintro e w1 ⟨rfl, hb1⟩; have hz1 := hb1.size; (try simp only [World.size_alloc, World.size_setCell, World.size_drew, size_drewN', size_grow, size_redrawn] at hz1); obtain ⟨hc1, hf1⟩ := bcellB (B := w.heap.size) hb1 (by first | omega | (simp only [World.size_alloc, World.size_setCell, World.size_drew, size_drewN', size_grow, size_redrawn]; omega)))
      | (go_at_call 37; refine (usable_any l A c _ (hs.up hb1) hl0).mono ?_; rintro e w2 ⟨rfl, hb2⟩; rw [h']))
    go_ret
    exact ⟨rfl, below_up hb1 hz1 hb2⟩
end Go.Proofs.Ytdbdjhgcmcbiaaa
