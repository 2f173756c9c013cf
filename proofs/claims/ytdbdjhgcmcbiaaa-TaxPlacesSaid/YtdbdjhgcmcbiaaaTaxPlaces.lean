/-
  The law 'TaxPlaces': the walk.
-/
import Derived.Test.YtdbdjhgcmcbiaaaTaxTogether
namespace Go.Proofs.Ytdbdjhgcmcbiaaa
set_option linter.unusedSimpArgs false
set_option linter.unusedVariables false
open Go.RowKit Go.Maps
open Go.Sort (grow size_grow)

set_option maxHeartbeats 4000000
set_option maxRecDepth 100000
theorem ownT_snoc_y {l : List Tax} {b : Bill} {m : Nat} (h : m < l.length) (hp : l[m].place = b.place) : ownT (l.take (m + 1)) b = ownT (l.take m) b ++ [l[m]] := by
  unfold ownT
  rw [List.take_succ_eq_append_getElem h, List.filter_append, List.filter_cons, if_pos (by simpa using hp)]
  rfl
theorem ownT_snoc_n {l : List Tax} {b : Bill} {m : Nat} (h : m < l.length) (hp : l[m].place ≠ b.place) : ownT (l.take (m + 1)) b = ownT (l.take m) b := by
  unfold ownT
  rw [List.take_succ_eq_append_getElem h, List.filter_append, List.filter_cons, if_neg (by simpa using hp)]
  simp
theorem ownT_len (l : List Tax) (b : Bill) : (ownT l b).length ≤ l.length := List.length_filter_le _ _

theorem pla_3 (l : List Tax) (b : Bill) (A : Option Addr) (c : Nat) (w : World) (ys : List Int) (hs : SlTax w A l) (hl : l.length ≤ 1000000000000) (h60 : l.length ≤ 60) (h6 : (l.length : Int) ≤ 60) (h0 : allT l b = ([], 0, 3)) (h1 : allT (ownT l b) b = (ys, 0, 3)) :
    Calls Try.prog 4 #[.slice A l.length c, b.v] w fun e w' => e = .returned (.bool true) ∧ Below w.heap.size w w' := by
  have H0 := Lib.hid h0
  have H1 := Lib.hid h1
  clear h0 h1
  go_enter Try.func4, Try.ntmps4
  go_wp2_with (go_at_call 15; refine (head29_any _).mono ?_; rintro e w1 ⟨rfl, hb1⟩; have hz1 := hb1.size; (try simp only [World.size_alloc, World.size_setCell, World.size_drew, size_drewN', size_grow, size_redrawn] at hz1); obtain ⟨hc1, hf1⟩ := bcellB (B := w.heap.size + 1) hb1 (by first | omega | (simp only [World.size_alloc, World.size_setCell, World.size_drew, size_drewN', size_grow, size_redrawn]; omega)); have la10 : w.heap.size < w1.heap.size := (by omega); have lb10 : w.heap.size < w1.heap.size + 1 := (by omega); have lc10 : w.heap.size < w1.heap.size + 1 + 1 := (by omega); have ld10 : w.heap.size < w1.heap.size + 1 + 1 + 1 := (by omega); have le10 : w.heap.size < w1.heap.size + 1 + 1 + 1 + 1 := (by omega))
  have hb0 : Below w.heap.size w w1 := by
    repeat' (first
      | (with_reducible exact Below.refl _ _)
      | (with_reducible assumption)
      | (with_reducible refine below_drewN ?_ _)
      | (with_reducible refine Below.drew ?_)
      | (with_reducible refine below_regrown_up _ _ ?_ ?_)
      | (with_reducible refine Below.alloc ?_ ?_ _)
      | (with_reducible refine Below.setCell ?_ ?_ _)
      | (with_reducible refine below_up ?_ ?_ (by assumption))
      | (with_reducible exact Nat.le_refl _)
      | omega
      | (simp; done)
      | (simp; omega))
  refine (tall_any' H0.out A c _ ((hs.below hb0).more hb0.size) hl).mono ?_
  rintro e w2 ⟨⟨A2, c2, rfl, hsl2⟩, hb2⟩
  have hz2 := hb2.size
  obtain ⟨hc2, hf2⟩ := bcellB (B := w.heap.size + 1) hb2 (by omega)
  have hb02 := below_up hb0 (by omega) hb2
  go_wp2_with fail
  go_loopw [9, 10] (fun v i wr => ∃ m : Nat, m ≤ l.length ∧ i = .int .i64 m ∧ OwnL wr w2.heap.size 35 7 Tax.cs v (ownT (l.take m) b) ∧ Below w2.heap.size w2 wr) (fun _ i _ => l.length - (intOf i).toNat)
  case atStart => exact ⟨0, by omega, rfl, OwnL.nil_, Below.refl _ _⟩
  case round =>
    obtain ⟨m, hm, rfl, hown, hbw⟩ := hrel
    have hbz := hbw.size
    have hb0w := below_up hb02 (by omega) hbw
    obtain ⟨hcw, hfw⟩ := bcellB (B := w.heap.size + 1) hbw (by omega)
    by_cases hlt : m < l.length
    · obtain ⟨bk, off, rfl, hbl, hcell⟩ := hs.at_ hlt
      have q0 := hcell 0 _ rfl
      have q1 := hcell 1 _ rfl
      have q2 := hcell 2 _ rfl
      have q3 := hcell 3 _ rfl
      have q4 := hcell 4 _ rfl
      have q5 := hcell 5 _ rfl
      have q6 := hcell 6 _ rfl
      rw [Nat.add_zero] at q0
      clear hcell
      have hbl2 : bk < w.heap.size + 1 := by omega
      have hx1 : (m : Int) < (l.length : Int) := by omega
      have hx4 : (0 : Int) ≤ (m : Int) := by omega
      have hlen := ownT_len (l.take m) b
      rw [List.length_take] at hlen
      have hlen2 : (ownT (l.take m) b).length ≤ 60 := by omega
      clear hlen
      by_cases hp : l[m].place = b.place
      · have hbp : (l[m].place == b.place) = true := by simpa using hp
        have HP := Lib.hid hp
        clear hp
        go_wp2_with fail
        go_quiet (fail)
        go_wp2_with (at_builtin; go_loud (refine wpList_push _ rfl (.tmp 47) (.tmp 52) 22 35 rfl w2.heap.size 7 56 Tax.cs elemTax tax_len tax_one _ _ rfl ((hown.drewN _).alloc _) _ 1 l[m] rfl (news_new _ _ _ _ rfl) (by omega) (by omega) (by simp; omega) ?_); intro v' w4 hown4 hgrow4)
        have hb4 : Below w2.heap.size w2 w4 := below_push ((below_drewN hbw _).alloc (by simp; omega) _) ((hown.drewN _).alloc _) hgrow4 (by simp; omega)
        go_roundw
        case rel =>
          refine ⟨m + 1, by omega, by go_num, ?_, hb4⟩
          rw [ownT_snoc_y hlt HP.out]
          exact hown4
        case measure => simp [intOf]; omega
      · have hbp : (l[m].place == b.place) = false := by simpa using hp
        have HP := Lib.hid hp
        clear hp
        skip
        go_wp2_with fail
        go_quiet (fail)
        go_wp2_with fail
        go_roundw
        case rel =>
          refine ⟨m + 1, by omega, by go_num, ?_, below_drewN hbw _⟩
          rw [ownT_snoc_n hlt HP.out]
          exact hown.drewN _
        case measure => simp [intOf]; omega
    · obtain rfl : m = l.length := by omega
      rw [List.take_of_length_le (Nat.le_refl _)] at hown
      obtain ⟨A3, c3, rfl, _, _, hsl3⟩ := hown.sl tax_len
      have hl' : (ownT l b).length ≤ 1000000000000 := by have := ownT_len l b; omega
      go_wp2_with fail
      refine (tall_any' H1.out A3 c3 wr hsl3 hl').mono ?_
      rintro e w5 ⟨⟨A5, c5, rfl, hsl5⟩, hb5⟩
      have hz5 := hb5.size
      have hb05 := below_up hb0w (by omega) hb5
      go_wp2_with fail
      go_ret
      refine ⟨ret_bool (by simp), ?_⟩
      repeat' (first
        | (with_reducible exact Below.refl _ _)
        | (with_reducible assumption)
        | (with_reducible refine below_drewN ?_ _)
        | (with_reducible refine Below.drew ?_)
        | (with_reducible refine below_regrown_up _ _ ?_ ?_)
        | (with_reducible refine Below.alloc ?_ ?_ _)
        | (with_reducible refine Below.setCell ?_ ?_ _)
        | (with_reducible refine below_up ?_ ?_ (by assumption))
        | (with_reducible exact Nat.le_refl _)
        | omega
        | (simp; done)
        | (simp; omega))
theorem pla_0 (l : List Tax) (b : Bill) (A : Option Addr) (c : Nat) (w : World) (ys : List Int) (s : Int) (hs : SlTax w A l) (hl : l.length ≤ 1000000000000) (h60 : l.length ≤ 60) (h6 : (l.length : Int) ≤ 60) (h0 : allT l b = (onesT l b, s, 0)) (h1 : allT (ownT l b) b = (ys, s, 0))
    (HO : RowKit.Hid (∀ j (h : j < l.length), l[j].place ≠ b.place → one l[j] b = (0, 0))) :
    Calls Try.prog 4 #[.slice A l.length c, b.v] w fun e w' => e = .returned (.bool true) ∧ Below w.heap.size w w' := by
  have H0 := Lib.hid h0
  have H1 := Lib.hid h1
  clear h0 h1
  have hlen0 : (onesT l b).length = l.length := by simp [onesT]
  go_enter Try.func4, Try.ntmps4
  go_wp2_with (go_at_call 15; refine (head29_any _).mono ?_; rintro e w1 ⟨rfl, hb1⟩; have hz1 := hb1.size; (try simp only [World.size_alloc, World.size_setCell, World.size_drew, size_drewN', size_grow, size_redrawn] at hz1); obtain ⟨hc1, hf1⟩ := bcellB (B := w.heap.size + 1) hb1 (by first | omega | (simp only [World.size_alloc, World.size_setCell, World.size_drew, size_drewN', size_grow, size_redrawn]; omega)); have la10 : w.heap.size < w1.heap.size := (by omega); have lb10 : w.heap.size < w1.heap.size + 1 := (by omega); have lc10 : w.heap.size < w1.heap.size + 1 + 1 := (by omega); have ld10 : w.heap.size < w1.heap.size + 1 + 1 + 1 := (by omega); have le10 : w.heap.size < w1.heap.size + 1 + 1 + 1 + 1 := (by omega))
  have hb0 : Below w.heap.size w w1 := by
    repeat' (first
      | (with_reducible exact Below.refl _ _)
      | (with_reducible assumption)
      | (with_reducible refine below_drewN ?_ _)
      | (with_reducible refine Below.drew ?_)
      | (with_reducible refine below_regrown_up _ _ ?_ ?_)
      | (with_reducible refine Below.alloc ?_ ?_ _)
      | (with_reducible refine Below.setCell ?_ ?_ _)
      | (with_reducible refine below_up ?_ ?_ (by assumption))
      | (with_reducible exact Nat.le_refl _)
      | omega
      | (simp; done)
      | (simp; omega))
  refine (tall_any' H0.out A c _ ((hs.below hb0).more hb0.size) hl).mono ?_
  rintro e w2 ⟨⟨A2, c2, rfl, hsl2⟩, hb2⟩
  have hz2 := hb2.size
  obtain ⟨hc2, hf2⟩ := bcellB (B := w.heap.size + 1) hb2 (by omega)
  have hb02 := below_up hb0 (by omega) hb2
  go_wp2_with fail
  go_loopw [9, 10] (fun v i wr => ∃ m : Nat, m ≤ l.length ∧ i = .int .i64 m ∧ OwnL wr w2.heap.size 35 7 Tax.cs v (ownT (l.take m) b) ∧ Below w2.heap.size w2 wr) (fun _ i _ => l.length - (intOf i).toNat)
  case atStart => exact ⟨0, by omega, rfl, OwnL.nil_, Below.refl _ _⟩
  case round =>
    obtain ⟨m, hm, rfl, hown, hbw⟩ := hrel
    have hbz := hbw.size
    have hb0w := below_up hb02 (by omega) hbw
    obtain ⟨hcw, hfw⟩ := bcellB (B := w.heap.size + 1) hbw (by omega)
    by_cases hlt : m < l.length
    · obtain ⟨bk, off, rfl, hbl, hcell⟩ := hs.at_ hlt
      have q0 := hcell 0 _ rfl
      have q1 := hcell 1 _ rfl
      have q2 := hcell 2 _ rfl
      have q3 := hcell 3 _ rfl
      have q4 := hcell 4 _ rfl
      have q5 := hcell 5 _ rfl
      have q6 := hcell 6 _ rfl
      rw [Nat.add_zero] at q0
      clear hcell
      have hbl2 : bk < w.heap.size + 1 := by omega
      have hx1 : (m : Int) < (l.length : Int) := by omega
      have hx4 : (0 : Int) ≤ (m : Int) := by omega
      have hlen := ownT_len (l.take m) b
      rw [List.length_take] at hlen
      have hlen2 : (ownT (l.take m) b).length ≤ 60 := by omega
      clear hlen
      by_cases hp : l[m].place = b.place
      · have hbp : (l[m].place == b.place) = true := by simpa using hp
        have HP := Lib.hid hp
        clear hp
        go_wp2_with fail
        go_quiet (fail)
        go_wp2_with (at_builtin; go_loud (refine wpList_push _ rfl (.tmp 47) (.tmp 52) 22 35 rfl w2.heap.size 7 56 Tax.cs elemTax tax_len tax_one _ _ rfl ((hown.drewN _).alloc _) _ 1 l[m] rfl (news_new _ _ _ _ rfl) (by omega) (by omega) (by simp; omega) ?_); intro v' w4 hown4 hgrow4)
        have hb4 : Below w2.heap.size w2 w4 := below_push ((below_drewN hbw _).alloc (by simp; omega) _) ((hown.drewN _).alloc _) hgrow4 (by simp; omega)
        go_roundw
        case rel =>
          refine ⟨m + 1, by omega, by go_num, ?_, hb4⟩
          rw [ownT_snoc_y hlt HP.out]
          exact hown4
        case measure => simp [intOf]; omega
      · have hbp : (l[m].place == b.place) = false := by simpa using hp
        have HP := Lib.hid hp
        clear hp
        have hsl6 : SlInt wr A2 (onesT l b) := (hsl2.below hbw).more hbz
        obtain ⟨bk2, off2, rfl, hbl2, hcell2⟩ := hsl6.at_ (k := m) (by rw [hlen0]; exact hlt)
        have r0 := hcell2 0 _ rfl
        rw [Nat.add_zero, Nat.mul_one] at r0
        have hr1 : (onesT l b)[m]'(by rw [hlen0]; exact hlt) = 0 := by simp [onesT, HO.out m hlt HP.out]
        rw [hr1] at r0
        clear hcell2 hr1
        go_wp2_with fail
        go_quiet (fail)
        go_wp2_with fail
        go_roundw
        case rel =>
          refine ⟨m + 1, by omega, by go_num, ?_, below_drewN hbw _⟩
          rw [ownT_snoc_n hlt HP.out]
          exact hown.drewN _
        case measure => simp [intOf]; omega
    · obtain rfl : m = l.length := by omega
      rw [List.take_of_length_le (Nat.le_refl _)] at hown
      obtain ⟨A3, c3, rfl, _, _, hsl3⟩ := hown.sl tax_len
      have hl' : (ownT l b).length ≤ 1000000000000 := by have := ownT_len l b; omega
      go_wp2_with fail
      refine (tall_any' H1.out A3 c3 wr hsl3 hl').mono ?_
      rintro e w5 ⟨⟨A5, c5, rfl, hsl5⟩, hb5⟩
      have hz5 := hb5.size
      have hb05 := below_up hb0w (by omega) hb5
      go_wp2_with fail
      go_ret
      refine ⟨ret_bool (by simp), ?_⟩
      repeat' (first
        | (with_reducible exact Below.refl _ _)
        | (with_reducible assumption)
        | (with_reducible refine below_drewN ?_ _)
        | (with_reducible refine Below.drew ?_)
        | (with_reducible refine below_regrown_up _ _ ?_ ?_)
        | (with_reducible refine Below.alloc ?_ ?_ _)
        | (with_reducible refine Below.setCell ?_ ?_ _)
        | (with_reducible refine below_up ?_ ?_ (by assumption))
        | (with_reducible exact Nat.le_refl _)
        | omega
        | (simp; done)
        | (simp; omega))
theorem pla_1 (l : List Tax) (b : Bill) (A : Option Addr) (c : Nat) (w : World) (hs : SlTax w A l) (hl : l.length ≤ 1000000000000) (h6 : (l.length : Int) ≤ 60) (h0 : allT l b = ([], 0, 1)) :
    Calls Try.prog 4 #[.slice A l.length c, b.v] w fun e w' => e = .returned (.bool true) ∧ Below w.heap.size w w' := by
  have H0 := Lib.hid h0
  clear h0
  go_enter Try.func4, Try.ntmps4
  go_wp2_with (go_at_call 15; refine (head29_any _).mono ?_; rintro e w1 ⟨rfl, hb1⟩; have hz1 := hb1.size; (try simp only [World.size_alloc, World.size_setCell, World.size_drew, size_drewN', size_grow, size_redrawn] at hz1); obtain ⟨hc1, hf1⟩ := bcellB (B := w.heap.size + 1) hb1 (by first | omega | (simp only [World.size_alloc, World.size_setCell, World.size_drew, size_drewN', size_grow, size_redrawn]; omega)); have la10 : w.heap.size < w1.heap.size := (by omega); have lb10 : w.heap.size < w1.heap.size + 1 := (by omega); have lc10 : w.heap.size < w1.heap.size + 1 + 1 := (by omega); have ld10 : w.heap.size < w1.heap.size + 1 + 1 + 1 := (by omega); have le10 : w.heap.size < w1.heap.size + 1 + 1 + 1 + 1 := (by omega))
  have hb0 : Below w.heap.size w w1 := by
    repeat' (first
      | (with_reducible exact Below.refl _ _)
      | (with_reducible assumption)
      | (with_reducible refine below_drewN ?_ _)
      | (with_reducible refine Below.drew ?_)
      | (with_reducible refine below_regrown_up _ _ ?_ ?_)
      | (with_reducible refine Below.alloc ?_ ?_ _)
      | (with_reducible refine Below.setCell ?_ ?_ _)
      | (with_reducible refine below_up ?_ ?_ (by assumption))
      | (with_reducible exact Nat.le_refl _)
      | omega
      | (simp; done)
      | (simp; omega))
  refine (tall_any' H0.out A c _ ((hs.below hb0).more hb0.size) hl).mono ?_
  rintro e w2 ⟨⟨A2, c2, rfl, hsl2⟩, hb2⟩
  have hz2 := hb2.size
  go_wp2_with fail
  go_ret
  refine ⟨ret_bool (by simp), ?_⟩
  repeat' (first
    | (with_reducible exact Below.refl _ _)
    | (with_reducible assumption)
    | (with_reducible refine below_drewN ?_ _)
    | (with_reducible refine Below.drew ?_)
    | (with_reducible refine below_regrown_up _ _ ?_ ?_)
    | (with_reducible refine Below.alloc ?_ ?_ _)
    | (with_reducible refine Below.setCell ?_ ?_ _)
    | (with_reducible refine below_up ?_ ?_ (by assumption))
    | (with_reducible exact Nat.le_refl _)
    | omega
    | (simp; done)
    | (simp; omega))
theorem law_places (l : List Tax) (b : Bill) (A : Option Addr) (c : Nat) (w : World) (hs : SlTax w A l) (hl0 : l.length ≤ maxLen) :
    Calls Try.prog 4 #[.slice A l.length c, b.v] w fun e w' => e = .returned (.bool true) ∧ Below w.heap.size w w' := by
  by_cases h60 : l.length ≤ 60
  · have h6 : (l.length : Int) ≤ 60 := by omega
    rcases allT_cases l b with ⟨_, h⟩ | ⟨hk, h⟩ | ⟨hk, h, ho, _, _⟩
    · exact pla_1 l b A c w hs (by omega) h6 h
    · have hr := allT_own hk
      rw [h] at hr
      exact pla_3 l b A c w _ hs (by omega) h60 h6 h (Prod.ext rfl hr)
    · have hr := allT_own hk
      rw [h] at hr
      rw [Bool.and_eq_true] at hk
      exact pla_0 l b A c w _ _ hs (by omega) h60 h6 h (Prod.ext rfl hr) (Lib.hid fun j hj hp => one_far ((taxesOk_iff.1 hk.1).2.1 j hj) hk.2 hp)
  · have h6 : 60 < (l.length : Int) := by omega
    unfold maxLen at hl0
    go_enter Try.func4, Try.ntmps4
    go_wp2_with (go_at_call 15; refine (head29_any _).mono ?_; rintro e w1 ⟨rfl, hb1⟩; have hz1 := hb1.size; (try simp only [World.size_alloc, World.size_setCell, World.size_drew, size_drewN', size_grow, size_redrawn] at hz1); obtain ⟨hc1, hf1⟩ := bcellB (B := w.heap.size + 1) hb1 (by first | omega | (simp only [World.size_alloc, World.size_setCell, World.size_drew, size_drewN', size_grow, size_redrawn]; omega)); have la10 : w.heap.size < w1.heap.size := (by omega); have lb10 : w.heap.size < w1.heap.size + 1 := (by omega); have lc10 : w.heap.size < w1.heap.size + 1 + 1 := (by omega); have ld10 : w.heap.size < w1.heap.size + 1 + 1 + 1 := (by omega); have le10 : w.heap.size < w1.heap.size + 1 + 1 + 1 + 1 := (by omega))
    go_ret
    refine ⟨rfl, ?_⟩
    repeat' (first
      | (with_reducible exact Below.refl _ _)
      | (with_reducible assumption)
      | (with_reducible refine below_drewN ?_ _)
      | (with_reducible refine Below.drew ?_)
      | (with_reducible refine below_regrown_up _ _ ?_ ?_)
      | (with_reducible refine Below.alloc ?_ ?_ _)
      | (with_reducible refine Below.setCell ?_ ?_ _)
      | (with_reducible refine below_up ?_ ?_ (by assumption))
      | (with_reducible exact Nat.le_refl _)
      | omega
      | (simp; done)
      | (simp; omega))
end Go.Proofs.Ytdbdjhgcmcbiaaa
