/-
  The law 'TaxTogether': the walk.
-/
import Derived.Test.YtdbdjhgcmcbiaaaTaxArgs
import Derived.Test.YtdbdjhgcmcbiaaaTaxSums
import Derived.Test.YtdbdjhgcmcbiaaaOwn
namespace Go.Proofs.Ytdbdjhgcmcbiaaa
set_option linter.unusedSimpArgs false
set_option linter.unusedVariables false
open Go.RowKit Go.Maps
open Go.Sort (grow size_grow)

set_option maxHeartbeats 4000000
set_option maxRecDepth 100000
theorem elemTax : Elem Try.prog 22 35 7 56 := elem_mk Try.underlying22 (by kernel_rfl)
theorem tax_len (y : Tax) : (Tax.cs y).length = 7 := rfl
theorem tax_one (y : Tax) : ∀ u ∈ Tax.cs y, u.oneCell' = true := by simp [Tax.cs, Value.oneCell']
theorem tall_any' {l : List Tax} {b : Bill} {xs : List Int} {m e : Int} (h : allT l b = (xs, m, e)) (A : Option Addr) (c : Nat) (w : World) (hs : SlTax w A l) (hl : l.length ≤ 1000000000000) :
    Calls Try.prog 20 #[.slice A l.length c, b.v] w fun x w' => (∃ A' c', x = .returned (.tuple #[.slice A' xs.length c', .int .i64 m, .int .i64 e]) ∧ SlInt w' A' xs) ∧ Below w.heap.size w w' := by
  have := tall_any l b A c w hs hl
  rw [h] at this
  exact this

theorem tog_1 (l : List Tax) (b : Bill) (A : Option Addr) (c : Nat) (w : World) (ys : List Int) (hs : SlTax w A l) (hl : l.length ≤ 1000000000000) (h60 : l.length ≤ 60) (h6 : (l.length : Int) ≤ 60) (h0 : allT l b = ([], 0, 1)) (h1 : allT l.reverse b = (ys, 0, 1)) :
    Calls Try.prog 8 #[.slice A l.length c, b.v] w fun e w' => e = .returned (.bool true) ∧ Below w.heap.size w w' := by
  have H0 := Lib.hid h0
  have H1 := Lib.hid h1
  clear h0 h1
  go_enter Try.func8, Try.ntmps8
  go_wp2_with (go_at_call 15; refine (head29_any _).mono ?_; rintro e w1 ⟨rfl, hb1⟩; have hz1 := hb1.size; (try simp only [World.size_alloc, World.size_setCell, World.size_drew, size_drewN', size_grow, size_redrawn] at hz1); obtain ⟨hc1, hf1⟩ := bcellB (B := w.heap.size + 1) hb1 (by first | omega | (simp only [World.size_alloc, World.size_setCell, World.size_drew, size_drewN', size_grow, size_redrawn]; omega)); have la10 : w.heap.size < w1.heap.size := (by omega); have lb10 : w.heap.size < w1.heap.size + 1 := (by omega); have lc10 : w.heap.size < w1.heap.size + 1 + 1 := (by omega); have ld10 : w.heap.size < w1.heap.size + 1 + 1 + 1 := (by omega); have le10 : w.heap.size < w1.heap.size + 1 + 1 + 1 + 1 := (by omega))
  have hb0 : Below w.heap.size w w1 := by
    repeat' (first
      | (with_reducible exact Below.refl _ _)
      | (with_reducible assumption)
      | (with_reducible refine below_drewN ?_ _)
      | (with_reducible refine Below.drew ?_)
      | (with_reducible refine below_regrown_up _ _ ?_ ?_)
      | (with_reducible refine Below.alloc ?_ ?_ _)
      | (with_reducible refine Below.setCell ?_ ?_ _)
      | (with_reducible refine below_up ?_ ?_ (by assumption))
      | (with_reducible exact Nat.le_refl _)
      | omega
      | (simp; done)
      | (simp; omega))
  refine (tall_any' H0.out A c _ ((hs.below hb0).more hb0.size) hl).mono ?_
  rintro e w2 ⟨⟨A2, c2, rfl, hsl2⟩, hb2⟩
  have hz2 := hb2.size
  obtain ⟨hc2, hf2⟩ := bcellB (B := w.heap.size + 1) hb2 (by omega)
  have hb02 := below_up hb0 (by omega) hb2
  go_wp2_with fail
  go_loopw [9, 10] (fun v i wr => ∃ k : Int, -1 ≤ k ∧ k < l.length ∧ i = .int .i64 k ∧ ∃ n : Nat, Hid (k = (n : Int) - 1) ∧ OwnL wr w2.heap.size 35 7 Tax.cs v (l.drop n).reverse ∧ Below w2.heap.size w2 wr) (fun _ i _ => (intOf i + 1).toNat)
  case atStart => exact ⟨_, by omega, by omega, rfl, l.length, Lib.hid (by omega), by rw [List.drop_length]; exact OwnL.nil_, Below.refl _ _⟩
  case round =>
    obtain ⟨k, hk1, hk2, rfl, n, hkn, hown, hbw⟩ := hrel
    have hbz := hbw.size
    have hb0w := below_up hb02 (by omega) hbw
    obtain ⟨hcw, hfw⟩ := bcellB (B := w.heap.size + 1) hbw (by omega)
    by_cases hlt : 0 ≤ k
    · obtain ⟨p, rfl⟩ : ∃ p : Nat, k = (p : Int) := ⟨k.toNat, by omega⟩
      have hp : p < l.length := by omega
      obtain ⟨bk, off, rfl, hbl, hcell⟩ := hs.at_ hp
      have q0 := hcell 0 _ rfl
      have q1 := hcell 1 _ rfl
      have q2 := hcell 2 _ rfl
      have q3 := hcell 3 _ rfl
      have q4 := hcell 4 _ rfl
      have q5 := hcell 5 _ rfl
      have q6 := hcell 6 _ rfl
      rw [Nat.add_zero] at q0
      clear hcell
      have hbl2 : bk < w.heap.size + 1 := by omega
      have hx1 : (p : Int) < (l.length : Int) := by omega
      have hx4 : (0 : Int) ≤ (p : Int) := by omega
      have hn : n = p + 1 := by have := hkn.out; omega
      subst hn
      have hlen : (l.drop (p + 1)).reverse.length ≤ 60 := by rw [List.length_reverse, List.length_drop]; omega
      go_wp2_with (at_builtin; go_loud (refine wpList_push _ rfl (.tmp 37) (.tmp 42) 22 35 rfl w2.heap.size 7 56 Tax.cs elemTax tax_len tax_one _ _ rfl (hown.alloc _) wr.heap.size 1 l[p] rfl (news_new _ _ _ _ rfl) (by omega) (by omega) (by simp; omega) ?_); intro v' w4 hown4 hgrow4)
      have hb4 : Below w2.heap.size w2 w4 := below_push (hbw.alloc (by omega) _) (hown.alloc _) hgrow4 (by simp; omega)
      go_roundw
      case rel =>
        refine ⟨(p : Int) - 1, by omega, by omega, by go_num, p, Lib.hid rfl, ?_, hb4⟩
        rw [drop_rev hp]
        exact hown4
      case measure => simp [intOf] <;> omega
    · have hn : n = 0 := by have := hkn.out; omega
      subst hn
      rw [List.drop_zero] at hown
      obtain ⟨A3, c3, rfl, _, _, hsl3⟩ := hown.sl tax_len
      rw [List.length_reverse]
      have hz2w : SlInt wr A2 _ := (hsl2.below hbw).more hbz
      have hl' : l.reverse.length ≤ 1000000000000 := by rw [List.length_reverse]; exact hl
      go_wp2_with fail
      have hcall := tall_any' H1.out A3 c3 wr hsl3 hl'
      rw [List.length_reverse] at hcall
      refine hcall.mono ?_
      rintro e w5 ⟨⟨A5, c5, rfl, hsl5⟩, hb5⟩
      have hz5 := hb5.size
      have hb05 := below_up hb0w (by omega) hb5
      obtain ⟨hc5, hf5⟩ := bcellB (B := w.heap.size + 1) hb5 (by omega)
      go_wp2_with fail
      go_ret
      refine ⟨ret_bool (by simp), ?_⟩
      repeat' (first
        | (with_reducible exact Below.refl _ _)
        | (with_reducible assumption)
        | (with_reducible refine below_drewN ?_ _)
        | (with_reducible refine Below.drew ?_)
        | (with_reducible refine below_regrown_up _ _ ?_ ?_)
        | (with_reducible refine Below.alloc ?_ ?_ _)
        | (with_reducible refine Below.setCell ?_ ?_ _)
        | (with_reducible refine below_up ?_ ?_ (by assumption))
        | (with_reducible exact Nat.le_refl _)
        | omega
        | (simp; done)
        | (simp; omega))
theorem tog_3 (l : List Tax) (b : Bill) (A : Option Addr) (c : Nat) (w : World) (ys : List Int) (hs : SlTax w A l) (hl : l.length ≤ 1000000000000) (h60 : l.length ≤ 60) (h6 : (l.length : Int) ≤ 60) (h0 : allT l b = ([], 0, 3)) (h1 : allT l.reverse b = (ys, 0, 3)) :
    Calls Try.prog 8 #[.slice A l.length c, b.v] w fun e w' => e = .returned (.bool true) ∧ Below w.heap.size w w' := by
  have H0 := Lib.hid h0
  have H1 := Lib.hid h1
  clear h0 h1
  go_enter Try.func8, Try.ntmps8
  go_wp2_with (go_at_call 15; refine (head29_any _).mono ?_; rintro e w1 ⟨rfl, hb1⟩; have hz1 := hb1.size; (try simp only [World.size_alloc, World.size_setCell, World.size_drew, size_drewN', size_grow, size_redrawn] at hz1); obtain ⟨hc1, hf1⟩ := bcellB (B := w.heap.size + 1) hb1 (by first | omega | (simp only [World.size_alloc, World.size_setCell, World.size_drew, size_drewN', size_grow, size_redrawn]; omega)); have la10 : w.heap.size < w1.heap.size := (by omega); have lb10 : w.heap.size < w1.heap.size + 1 := (by omega); have lc10 : w.heap.size < w1.heap.size + 1 + 1 := (by omega); have ld10 : w.heap.size < w1.heap.size + 1 + 1 + 1 := (by omega); have le10 : w.heap.size < w1.heap.size + 1 + 1 + 1 + 1 := (by omega))
  have hb0 : Below w.heap.size w w1 := by
    repeat' (first
      | (with_reducible exact Below.refl _ _)
      | (with_reducible assumption)
      | (with_reducible refine below_drewN ?_ _)
      | (with_reducible refine Below.drew ?_)
      | (with_reducible refine below_regrown_up _ _ ?_ ?_)
      | (with_reducible refine Below.alloc ?_ ?_ _)
      | (with_reducible refine Below.setCell ?_ ?_ _)
      | (with_reducible refine below_up ?_ ?_ (by assumption))
      | (with_reducible exact Nat.le_refl _)
      | omega
      | (simp; done)
      | (simp; omega))
  refine (tall_any' H0.out A c _ ((hs.below hb0).more hb0.size) hl).mono ?_
  rintro e w2 ⟨⟨A2, c2, rfl, hsl2⟩, hb2⟩
  have hz2 := hb2.size
  obtain ⟨hc2, hf2⟩ := bcellB (B := w.heap.size + 1) hb2 (by omega)
  have hb02 := below_up hb0 (by omega) hb2
  go_wp2_with fail
  go_loopw [9, 10] (fun v i wr => ∃ k : Int, -1 ≤ k ∧ k < l.length ∧ i = .int .i64 k ∧ ∃ n : Nat, Hid (k = (n : Int) - 1) ∧ OwnL wr w2.heap.size 35 7 Tax.cs v (l.drop n).reverse ∧ Below w2.heap.size w2 wr) (fun _ i _ => (intOf i + 1).toNat)
  case atStart => exact ⟨_, by omega, by omega, rfl, l.length, Lib.hid (by omega), by rw [List.drop_length]; exact OwnL.nil_, Below.refl _ _⟩
  case round =>
    obtain ⟨k, hk1, hk2, rfl, n, hkn, hown, hbw⟩ := hrel
    have hbz := hbw.size
    have hb0w := below_up hb02 (by omega) hbw
    obtain ⟨hcw, hfw⟩ := bcellB (B := w.heap.size + 1) hbw (by omega)
    by_cases hlt : 0 ≤ k
    · obtain ⟨p, rfl⟩ : ∃ p : Nat, k = (p : Int) := ⟨k.toNat, by omega⟩
      have hp : p < l.length := by omega
      obtain ⟨bk, off, rfl, hbl, hcell⟩ := hs.at_ hp
      have q0 := hcell 0 _ rfl
      have q1 := hcell 1 _ rfl
      have q2 := hcell 2 _ rfl
      have q3 := hcell 3 _ rfl
      have q4 := hcell 4 _ rfl
      have q5 := hcell 5 _ rfl
      have q6 := hcell 6 _ rfl
      rw [Nat.add_zero] at q0
      clear hcell
      have hbl2 : bk < w.heap.size + 1 := by omega
      have hx1 : (p : Int) < (l.length : Int) := by omega
      have hx4 : (0 : Int) ≤ (p : Int) := by omega
      have hn : n = p + 1 := by have := hkn.out; omega
      subst hn
      have hlen : (l.drop (p + 1)).reverse.length ≤ 60 := by rw [List.length_reverse, List.length_drop]; omega
      go_wp2_with (at_builtin; go_loud (refine wpList_push _ rfl (.tmp 37) (.tmp 42) 22 35 rfl w2.heap.size 7 56 Tax.cs elemTax tax_len tax_one _ _ rfl (hown.alloc _) wr.heap.size 1 l[p] rfl (news_new _ _ _ _ rfl) (by omega) (by omega) (by simp; omega) ?_); intro v' w4 hown4 hgrow4)
      have hb4 : Below w2.heap.size w2 w4 := below_push (hbw.alloc (by omega) _) (hown.alloc _) hgrow4 (by simp; omega)
      go_roundw
      case rel =>
        refine ⟨(p : Int) - 1, by omega, by omega, by go_num, p, Lib.hid rfl, ?_, hb4⟩
        rw [drop_rev hp]
        exact hown4
      case measure => simp [intOf] <;> omega
    · have hn : n = 0 := by have := hkn.out; omega
      subst hn
      rw [List.drop_zero] at hown
      obtain ⟨A3, c3, rfl, _, _, hsl3⟩ := hown.sl tax_len
      rw [List.length_reverse]
      have hz2w : SlInt wr A2 _ := (hsl2.below hbw).more hbz
      have hl' : l.reverse.length ≤ 1000000000000 := by rw [List.length_reverse]; exact hl
      go_wp2_with fail
      have hcall := tall_any' H1.out A3 c3 wr hsl3 hl'
      rw [List.length_reverse] at hcall
      refine hcall.mono ?_
      rintro e w5 ⟨⟨A5, c5, rfl, hsl5⟩, hb5⟩
      have hz5 := hb5.size
      have hb05 := below_up hb0w (by omega) hb5
      obtain ⟨hc5, hf5⟩ := bcellB (B := w.heap.size + 1) hb5 (by omega)
      go_wp2_with fail
      go_ret
      refine ⟨ret_bool (by simp), ?_⟩
      repeat' (first
        | (with_reducible exact Below.refl _ _)
        | (with_reducible assumption)
        | (with_reducible refine below_drewN ?_ _)
        | (with_reducible refine Below.drew ?_)
        | (with_reducible refine below_regrown_up _ _ ?_ ?_)
        | (with_reducible refine Below.alloc ?_ ?_ _)
        | (with_reducible refine Below.setCell ?_ ?_ _)
        | (with_reducible refine below_up ?_ ?_ (by assumption))
        | (with_reducible exact Nat.le_refl _)
        | omega
        | (simp; done)
        | (simp; omega))
theorem tog_0 (l : List Tax) (b : Bill) (A : Option Addr) (c : Nat) (w : World) (ys : List Int) (s : Int) (hs : SlTax w A l) (hl : l.length ≤ 1000000000000) (h60 : l.length ≤ 60) (h6 : (l.length : Int) ≤ 60) (h0 : allT l b = (onesT l b, s, 0)) (h1 : allT l.reverse b = (ys, s, 0))
    (HS : RowKit.Hid ((onesT l b).sum = s)) (HO : RowKit.Hid (∀ j (h : j < l.length), (one l[j] b).2 = 0)) :
    Calls Try.prog 8 #[.slice A l.length c, b.v] w fun e w' => e = .returned (.bool true) ∧ Below w.heap.size w w' := by
  have H0 := Lib.hid h0
  have H1 := Lib.hid h1
  clear h0 h1
  have hlen0 : (onesT l b).length = l.length := by simp [onesT]
  go_enter Try.func8, Try.ntmps8
  go_wp2_with (go_at_call 15; refine (head29_any _).mono ?_; rintro e w1 ⟨rfl, hb1⟩; have hz1 := hb1.size; (try simp only [World.size_alloc, World.size_setCell, World.size_drew, size_drewN', size_grow, size_redrawn] at hz1); obtain ⟨hc1, hf1⟩ := bcellB (B := w.heap.size + 1) hb1 (by first | omega | (simp only [World.size_alloc, World.size_setCell, World.size_drew, size_drewN', size_grow, size_redrawn]; omega)); have la10 : w.heap.size < w1.heap.size := (by omega); have lb10 : w.heap.size < w1.heap.size + 1 := (by omega); have lc10 : w.heap.size < w1.heap.size + 1 + 1 := (by omega); have ld10 : w.heap.size < w1.heap.size + 1 + 1 + 1 := (by omega); have le10 : w.heap.size < w1.heap.size + 1 + 1 + 1 + 1 := (by omega))
  have hb0 : Below w.heap.size w w1 := by
    repeat' (first
      | (with_reducible exact Below.refl _ _)
      | (with_reducible assumption)
      | (with_reducible refine below_drewN ?_ _)
      | (with_reducible refine Below.drew ?_)
      | (with_reducible refine below_regrown_up _ _ ?_ ?_)
      | (with_reducible refine Below.alloc ?_ ?_ _)
      | (with_reducible refine Below.setCell ?_ ?_ _)
      | (with_reducible refine below_up ?_ ?_ (by assumption))
      | (with_reducible exact Nat.le_refl _)
      | omega
      | (simp; done)
      | (simp; omega))
  refine (tall_any' H0.out A c _ ((hs.below hb0).more hb0.size) hl).mono ?_
  rintro e w2 ⟨⟨A2, c2, rfl, hsl2⟩, hb2⟩
  have hz2 := hb2.size
  obtain ⟨hc2, hf2⟩ := bcellB (B := w.heap.size + 1) hb2 (by omega)
  have hb02 := below_up hb0 (by omega) hb2
  go_wp2_with fail
  go_loopw [9, 10] (fun v i wr => ∃ k : Int, -1 ≤ k ∧ k < l.length ∧ i = .int .i64 k ∧ ∃ n : Nat, Hid (k = (n : Int) - 1) ∧ OwnL wr w2.heap.size 35 7 Tax.cs v (l.drop n).reverse ∧ Below w2.heap.size w2 wr) (fun _ i _ => (intOf i + 1).toNat)
  case atStart => exact ⟨_, by omega, by omega, rfl, l.length, Lib.hid (by omega), by rw [List.drop_length]; exact OwnL.nil_, Below.refl _ _⟩
  case round =>
    obtain ⟨k, hk1, hk2, rfl, n, hkn, hown, hbw⟩ := hrel
    have hbz := hbw.size
    have hb0w := below_up hb02 (by omega) hbw
    obtain ⟨hcw, hfw⟩ := bcellB (B := w.heap.size + 1) hbw (by omega)
    by_cases hlt : 0 ≤ k
    · obtain ⟨p, rfl⟩ : ∃ p : Nat, k = (p : Int) := ⟨k.toNat, by omega⟩
      have hp : p < l.length := by omega
      obtain ⟨bk, off, rfl, hbl, hcell⟩ := hs.at_ hp
      have q0 := hcell 0 _ rfl
      have q1 := hcell 1 _ rfl
      have q2 := hcell 2 _ rfl
      have q3 := hcell 3 _ rfl
      have q4 := hcell 4 _ rfl
      have q5 := hcell 5 _ rfl
      have q6 := hcell 6 _ rfl
      rw [Nat.add_zero] at q0
      clear hcell
      have hbl2 : bk < w.heap.size + 1 := by omega
      have hx1 : (p : Int) < (l.length : Int) := by omega
      have hx4 : (0 : Int) ≤ (p : Int) := by omega
      have hn : n = p + 1 := by have := hkn.out; omega
      subst hn
      have hlen : (l.drop (p + 1)).reverse.length ≤ 60 := by rw [List.length_reverse, List.length_drop]; omega
      go_wp2_with (at_builtin; go_loud (refine wpList_push _ rfl (.tmp 37) (.tmp 42) 22 35 rfl w2.heap.size 7 56 Tax.cs elemTax tax_len tax_one _ _ rfl (hown.alloc _) wr.heap.size 1 l[p] rfl (news_new _ _ _ _ rfl) (by omega) (by omega) (by simp; omega) ?_); intro v' w4 hown4 hgrow4)
      have hb4 : Below w2.heap.size w2 w4 := below_push (hbw.alloc (by omega) _) (hown.alloc _) hgrow4 (by simp; omega)
      go_roundw
      case rel =>
        refine ⟨(p : Int) - 1, by omega, by omega, by go_num, p, Lib.hid rfl, ?_, hb4⟩
        rw [drop_rev hp]
        exact hown4
      case measure => simp [intOf] <;> omega
    · have hn : n = 0 := by have := hkn.out; omega
      subst hn
      rw [List.drop_zero] at hown
      obtain ⟨A3, c3, rfl, _, _, hsl3⟩ := hown.sl tax_len
      rw [List.length_reverse]
      have hz2w : SlInt wr A2 _ := (hsl2.below hbw).more hbz
      have hl' : l.reverse.length ≤ 1000000000000 := by rw [List.length_reverse]; exact hl
      go_wp2_with fail
      have hcall := tall_any' H1.out A3 c3 wr hsl3 hl'
      rw [List.length_reverse] at hcall
      refine hcall.mono ?_
      rintro e w5 ⟨⟨A5, c5, rfl, hsl5⟩, hb5⟩
      have hz5 := hb5.size
      have hb05 := below_up hb0w (by omega) hb5
      obtain ⟨hc5, hf5⟩ := bcellB (B := w.heap.size + 1) hb5 (by omega)
      go_wp2_with fail
      obtain ⟨wo, rfl⟩ : ∃ wo : World, wo = wr := ⟨_, rfl⟩
      go_loopw [5, 14, 15] (fun up sm i wr => ∃ m : Nat, m ≤ l.length ∧ i = .int .i64 m ∧ up = .bool true ∧ sm = .int .i64 (onesT (l.take m) b).sum ∧ Below w5.heap.size w5 wr) (fun _ _ i _ => l.length - (intOf i).toNat)
      case atStart => exact ⟨0, by omega, rfl, rfl, rfl, Below.refl _ _⟩
      case round =>
        obtain ⟨m, hm, rfl, rfl, rfl, hbw2⟩ := hrel
        have hbz2 := hbw2.size
        have hb0w2 := below_up hb05 (by omega) hbw2
        obtain ⟨hcw2, hfw2⟩ := bcellB (B := w.heap.size + 1) hbw2 (by omega)
        by_cases hlt2 : m < l.length
        · obtain ⟨bk, off, rfl, hbl, hcell⟩ := hs.at_ hlt2
          have q0 := hcell 0 _ rfl
          have q1 := hcell 1 _ rfl
          have q2 := hcell 2 _ rfl
          have q3 := hcell 3 _ rfl
          have q4 := hcell 4 _ rfl
          have q5 := hcell 5 _ rfl
          have q6 := hcell 6 _ rfl
          rw [Nat.add_zero] at q0
          clear hcell
          have hsl6 : SlInt wr A2 (onesT l b) := (((hsl2.below hbw).more hbz).below (below_up hb5 (by omega) hbw2)).more (by omega)
          obtain ⟨bk2, off2, rfl, hbl2, hcell2⟩ := hsl6.at_ (k := m) (by rw [hlen0]; exact hlt2)
          have r0 := hcell2 0 _ rfl
          rw [Nat.add_zero, Nat.mul_one] at r0
          have hr1 : (onesT l b)[m]'(by rw [hlen0]; exact hlt2) = (one l[m] b).1 := by simp [onesT]
          rw [hr1] at r0
          clear hcell2 hr1
          have hone : one l[m] b = ((one l[m] b).1, 0) := Prod.ext rfl (HO.out m hlt2)
          have HN := Lib.hid hone
          clear hone
          have hx1 : (m : Int) < (l.length : Int) := by omega
          have hx4 : (0 : Int) ≤ (m : Int) := by omega
          have hbl3 : bk < w.heap.size + 1 := by omega
          have hbd := onesT_sum_bd (l.take m) b
          rw [List.length_take, Nat.min_eq_left hm] at hbd
          obtain ⟨s0, s1⟩ := hbd
          have ho := one_bd l[m] b
          obtain ⟨o0, o1⟩ := ho
          have hsn := onesT_snoc (b := b) hlt2
          have HSN := Lib.hid hsn
          clear hsn
          go_wp2_with fail
          have hgr := regrown_cells wr (B := w.heap.size + 1) (by omega)
          refine wp_region_quiet_below (by kernel_rfl) (by kernel_rfl) ?_
          repeat (quiet_step ((go_at_call 18; exact quiet_b (one_any' HN.out _))))
          refine wpQuiet_nil ?_
          intro _ hw'
          obtain ⟨⟨dq, osq⟩, hw''⟩ := hw'
          subst hw''
          have hb6 := below_regrown wr dq osq
          clear hgr
          generalize grow (redrawn wr dq) osq = w6 at hb6 ⊢
          have hz6 := hb6.size
          (try simp only [World.size_alloc, World.size_setCell, World.size_drew, size_drewN', size_grow, size_redrawn] at hz6)
          obtain ⟨hc6, hf6⟩ := bcellB (B := w.heap.size + 1) hb6 (by first | omega | (simp only [World.size_alloc, World.size_setCell, World.size_drew, size_drewN', size_grow, size_redrawn]; omega))
          have r0' := (hb6.cell (p := ⟨bk2, off2 + m, none⟩) (by simpa using hbl2)).trans r0
          go_wp2_with fail
          go_roundw
          case rel =>
            refine ⟨m + 1, by omega, by go_num, by simp, ?_, ?_⟩
            · rw [HSN.out, List.sum_append]; simp
            · repeat' (first
                | (with_reducible exact Below.refl _ _)
                | (with_reducible assumption)
                | (with_reducible refine below_drewN ?_ _)
                | (with_reducible refine Below.drew ?_)
                | (with_reducible refine below_regrown_up _ _ ?_ ?_)
                | (with_reducible refine Below.alloc ?_ ?_ _)
                | (with_reducible refine Below.setCell ?_ ?_ _)
                | (with_reducible refine below_up ?_ ?_ (by assumption))
                | (with_reducible exact Nat.le_refl _)
                | omega
                | (simp; done)
                | (simp; omega))
          case measure => simp [intOf]; omega
        · obtain rfl : m = l.length := by omega
          rw [List.take_of_length_le (Nat.le_refl _), HS.out]
          go_wp2_with fail
          go_ret
          refine ⟨ret_bool (by simp), ?_⟩
          repeat' (first
            | (with_reducible exact Below.refl _ _)
            | (with_reducible assumption)
            | (with_reducible refine below_drewN ?_ _)
            | (with_reducible refine Below.drew ?_)
            | (with_reducible refine below_regrown_up _ _ ?_ ?_)
            | (with_reducible refine Below.alloc ?_ ?_ _)
            | (with_reducible refine Below.setCell ?_ ?_ _)
            | (with_reducible refine below_up ?_ ?_ (by assumption))
            | (with_reducible exact Nat.le_refl _)
            | omega
            | (simp; done)
            | (simp; omega))
theorem law_together (l : List Tax) (b : Bill) (A : Option Addr) (c : Nat) (w : World) (hs : SlTax w A l) (hl0 : l.length ≤ maxLen) :
    Calls Try.prog 8 #[.slice A l.length c, b.v] w fun e w' => e = .returned (.bool true) ∧ Below w.heap.size w w' := by
  by_cases h60 : l.length ≤ 60
  · have h6 : (l.length : Int) ≤ 60 := by omega
    have hr := allT_rev l b
    rcases allT_cases l b with ⟨_, h⟩ | ⟨_, h⟩ | ⟨_, h, ho, _, _⟩
    · rw [h] at hr
      exact tog_1 l b A c w _ hs (by omega) h60 h6 h (Prod.ext rfl hr)
    · rw [h] at hr
      exact tog_3 l b A c w _ hs (by omega) h60 h6 h (Prod.ext rfl hr)
    · rw [h] at hr
      exact tog_0 l b A c w _ _ hs (by omega) h60 h6 h (Prod.ext rfl hr) (Lib.hid rfl) (Lib.hid ho)
  · have h6 : 60 < (l.length : Int) := by omega
    unfold maxLen at hl0
    go_enter Try.func8, Try.ntmps8
    go_wp2_with (go_at_call 15; refine (head29_any _).mono ?_; rintro e w1 ⟨rfl, hb1⟩; have hz1 := hb1.size; (try simp only [World.size_alloc, World.size_setCell, World.size_drew, size_drewN', size_grow, size_redrawn] at hz1); obtain ⟨hc1, hf1⟩ := bcellB (B := w.heap.size + 1) hb1 (by first | omega | (simp only [World.size_alloc, World.size_setCell, World.size_drew, size_drewN', size_grow, size_redrawn]; omega)); have la10 : w.heap.size < w1.heap.size := (by omega); have lb10 : w.heap.size < w1.heap.size + 1 := (by omega); have lc10 : w.heap.size < w1.heap.size + 1 + 1 := (by omega); have ld10 : w.heap.size < w1.heap.size + 1 + 1 + 1 := (by omega); have le10 : w.heap.size < w1.heap.size + 1 + 1 + 1 + 1 := (by omega))
    go_ret
    refine ⟨rfl, ?_⟩
    repeat' (first
      | (with_reducible exact Below.refl _ _)
      | (with_reducible assumption)
      | (with_reducible refine below_drewN ?_ _)
      | (with_reducible refine Below.drew ?_)
      | (with_reducible refine below_regrown_up _ _ ?_ ?_)
      | (with_reducible refine Below.alloc ?_ ?_ _)
      | (with_reducible refine Below.setCell ?_ ?_ _)
      | (with_reducible refine below_up ?_ ?_ (by assumption))
      | (with_reducible exact Nat.le_refl _)
      | omega
      | (simp; done)
      | (simp; omega))
end Go.Proofs.Ytdbdjhgcmcbiaaa
