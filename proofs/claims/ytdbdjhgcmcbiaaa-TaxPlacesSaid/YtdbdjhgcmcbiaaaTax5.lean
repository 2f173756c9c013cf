/-
  Contracts of the reference of package tax: all taxes of a bill; lists of integers that are the same.
-/
import Derived.Test.YtdbdjhgcmcbiaaaTax4
namespace Go.Proofs.Ytdbdjhgcmcbiaaa
set_option linter.unusedSimpArgs false
set_option linter.unusedVariables false
open Go.RowKit Go.Maps
open Go.Sort (grow size_grow)

set_option maxHeartbeats 2000000
set_option maxRecDepth 100000

theorem same_ints_any (xs ys : List Int) (A B : Option Addr) (c d : Nat) (w : World) (hx : SlInt w A xs) (hy : SlInt w B ys) (hl1 : xs.length ≤ 1000000000000) (hl2 : ys.length ≤ 1000000000000) :
    Calls Try.prog 22 #[.slice A xs.length c, .slice B ys.length d] w fun e w' => e = .returned (.bool (decide (xs = ys))) ∧ Below w.heap.size w w' := by
  by_cases hlen : xs.length = ys.length
  · have hb : ((xs.length : Int) != (ys.length : Int)) = false := by rw [bne_eq_false_iff_eq]; omega
    have hbn : (xs.length != ys.length) = false := by simpa using hlen
    have HL := Lib.hid hlen
    have hi1 : (xs.length : Int) ≤ ys.length := by omega
    have hi2 : (ys.length : Int) ≤ xs.length := by omega
    clear hlen
    go_enter Try.func22, Try.ntmps22
    go_wp2
    go_loopw [5] (fun k wr => ∃ m : Nat, m ≤ xs.length ∧ k = .int .i64 m ∧ Hid (xs.take m = ys.take m) ∧ Below w.heap.size w wr) (fun k _ => xs.length - (intOf k).toNat)
    case atStart => exact ⟨0, by omega, rfl, Lib.hid rfl, Below.refl _ _⟩
    case round =>
      obtain ⟨m, hm, rfl, hn, hbw⟩ := hrel
      have hbz := hbw.size
      by_cases hlt : m < xs.length
      · have hlt2 : m < ys.length := by have := HL.out; omega
        obtain ⟨b1, off1, rfl, hbl1, hcell1⟩ := (hx.below hbw).at_ hlt
        obtain ⟨b2, off2, rfl, hbl2, hcell2⟩ := (hy.below hbw).at_ hlt2
        have p1 := hcell1 0 _ rfl
        have p2 := hcell2 0 _ rfl
        rw [Nat.add_zero, Nat.mul_one] at p1 p2
        have HC1 := Lib.hid hcell1
        have HC2 := Lib.hid hcell2
        clear hcell1 hcell2
        have hx1 : (m : Int) < (xs.length : Int) := by omega
        have hx2 : (m : Int) < (ys.length : Int) := by omega
        have hx4 : (0 : Int) ≤ (m : Int) := by omega
        by_cases he : xs[m] = ys[m]
        · have hb2 : (xs[m] != ys[m]) = false := by simpa using he
          have HE := Lib.hid he
          clear he
          go_wp2_with fail
          go_quiet (fail)
          go_wp2_with fail
          go_roundw
          case rel =>
            refine ⟨m + 1, by omega, by go_num, Lib.hid ?_, ?_⟩
            · rw [List.take_succ_eq_append_getElem hlt, List.take_succ_eq_append_getElem hlt2, hn.out, HE.out]
            · repeat' (first
                | (with_reducible exact Below.refl _ _)
                | (with_reducible assumption)
                | (with_reducible refine below_drewN ?_ _)
                | (with_reducible refine Below.drew ?_)
                | (with_reducible refine below_regrown_up _ _ ?_ ?_)
                | (with_reducible refine Below.alloc ?_ ?_ _)
                | (with_reducible refine Below.setCell ?_ ?_ _)
                | (with_reducible refine below_up ?_ ?_ (by assumption))
                | (with_reducible exact Nat.le_refl _)
                | omega
                | (simp; done)
                | (simp; omega))
          case measure => simp [intOf]; omega
        · have hb2 : (xs[m] != ys[m]) = true := by simpa using he
          have HE := Lib.hid he
          clear he
          go_wp2_with fail
          go_quiet (fail)
          go_wp2_with fail
          go_ret
          refine ⟨ret_bool ?_, ?_⟩
          · symm
            rw [decide_eq_false_iff_not]
            intro e
            refine HE.out ?_
            simp [e]
          · repeat' (first
              | (with_reducible exact Below.refl _ _)
              | (with_reducible assumption)
              | (with_reducible refine below_drewN ?_ _)
              | (with_reducible refine Below.drew ?_)
              | (with_reducible refine below_regrown_up _ _ ?_ ?_)
              | (with_reducible refine Below.alloc ?_ ?_ _)
              | (with_reducible refine Below.setCell ?_ ?_ _)
              | (with_reducible refine below_up ?_ ?_ (by assumption))
              | (with_reducible exact Nat.le_refl _)
              | omega
              | (simp; done)
              | (simp; omega))
      · obtain rfl : m = xs.length := by omega
        go_wp2
        go_ret
        refine ⟨ret_bool ?_, ?_⟩
        · symm
          rw [decide_eq_true_eq]
          have := hn.out
          rw [List.take_of_length_le (Nat.le_refl _), List.take_of_length_le (by have := HL.out; omega)] at this
          exact this
        · repeat' (first
            | (with_reducible exact Below.refl _ _)
            | (with_reducible assumption)
            | (with_reducible refine below_drewN ?_ _)
            | (with_reducible refine Below.drew ?_)
            | (with_reducible refine below_regrown_up _ _ ?_ ?_)
            | (with_reducible refine Below.alloc ?_ ?_ _)
            | (with_reducible refine Below.setCell ?_ ?_ _)
            | (with_reducible refine below_up ?_ ?_ (by assumption))
            | (with_reducible exact Nat.le_refl _)
            | omega
            | (simp; done)
            | (simp; omega))
  · have hb : ((xs.length : Int) != (ys.length : Int)) = true := by rw [bne_iff_ne]; omega
    have hbn : (xs.length != ys.length) = true := by simpa using hlen
    have HL := Lib.hid hlen
    clear hlen
    go_enter Try.func22, Try.ntmps22
    go_wp2
    go_ret
    refine ⟨ret_bool ?_, ?_⟩
    · symm
      rw [decide_eq_false_iff_not]
      intro e
      exact HL.out (by rw [e])
    · repeat' (first
        | (with_reducible exact Below.refl _ _)
        | (with_reducible assumption)
        | (with_reducible refine below_drewN ?_ _)
        | (with_reducible refine Below.drew ?_)
        | (with_reducible refine below_regrown_up _ _ ?_ ?_)
        | (with_reducible refine Below.alloc ?_ ?_ _)
        | (with_reducible refine Below.setCell ?_ ?_ _)
        | (with_reducible refine below_up ?_ ?_ (by assumption))
        | (with_reducible exact Nat.le_refl _)
        | omega
        | (simp; done)
        | (simp; omega))

theorem info_int : (Try.prog.info? 3).map (fun i => (i.zero, i.size, i.bytes)) = some (some (.int .i64 0), 1, 8) := by kernel_rfl
/-- What a list of integers, a number and an error hand back. -/
def Ret3 (r : List Int × Int × Int) (e : Ending) (w' : World) : Prop := ∃ A c, e = .returned (.tuple #[.slice A r.1.length c, .int .i64 r.2.1, .int .i64 r.2.2]) ∧ SlInt w' A r.1
theorem ret3_nil {r : List Int × Int × Int} {n er : Int} {w' : World} (h : r = ([], n, er)) : Ret3 r (.returned (.tuple #[.slice none 0 0, .int .i64 n, .int .i64 er])) w' := by
  subst h
  exact ⟨none, 0, rfl, Sl.nil_⟩

theorem rall_any (l : List Tax) (b : Bill) (A : Option Addr) (c : Nat) (w : World) (hs : SlTax w A l) (hl : l.length ≤ 1000000000000) :
    Calls Try.prog 21 #[.slice A l.length c, b.v] w fun e w' => Ret3 (allT l b) e w' ∧ Below w.heap.size w w' := by
  obtain ⟨i0, ji, jz0, jz1, jz2⟩ := info_parts info_int
  have hb0 : Below w.heap.size w (w.alloc (.cells #[.int .i64 b.stay, .int .i64 b.channel, .int .i64 b.place, .int .i64 b.kind, .int .i64 b.frm, .int .i64 b.til, .int .i64 b.persons, .int .i64 b.price, .int .i64 b.keep] 26)) := (Below.refl _ _).alloc (Nat.le_refl _) _
  cases hv : taxesOk l with
  | false =>
    have hr := allT_arg (l := l) (b := b) (by rw [hv]; rfl)
    have HR := Lib.hid hr
    clear hr
    go_enter Try.func21, Try.ntmps21
    go_wp2_with (first | (go_at_call 17; refine (rtvalid_any l A c _ ((hs.below (by assumption)).more (by simp)) hl).mono ?_; rintro e w1 ⟨rfl, hb1⟩; have hz1 := hb1.size; (try simp only [World.size_alloc, World.size_setCell, World.size_drew, size_drewN', size_grow, size_redrawn] at hz1); obtain ⟨hc1, hf1⟩ := bcellB (B := w.heap.size + 1) hb1 (by first | omega | (simp only [World.size_alloc, World.size_setCell, World.size_drew, size_drewN', size_grow, size_redrawn]; omega))); rw [hv] | (go_at_call 45; refine (rbill_any b _).mono ?_; rintro e w2 ⟨rfl, hb2⟩; have hz2 := hb2.size; (try simp only [World.size_alloc, World.size_setCell, World.size_drew, size_drewN', size_grow, size_redrawn] at hz2); obtain ⟨hc2, hf2⟩ := bcellB (B := w.heap.size + 1) hb2 (by first | omega | (simp only [World.size_alloc, World.size_setCell, World.size_drew, size_drewN', size_grow, size_redrawn]; omega))))
    go_ret3
    refine ⟨ret3_nil HR.out, ?_⟩
    repeat' (first
      | (with_reducible exact Below.refl _ _)
      | (with_reducible assumption)
      | (with_reducible refine below_drewN ?_ _)
      | (with_reducible refine Below.drew ?_)
      | (with_reducible refine below_regrown_up _ _ ?_ ?_)
      | (with_reducible refine Below.alloc ?_ ?_ _)
      | (with_reducible refine Below.setCell ?_ ?_ _)
      | (with_reducible refine below_up ?_ ?_ (by assumption))
      | (with_reducible exact Nat.le_refl _)
      | omega
      | (simp; done)
      | (simp; omega))
  | true =>
    cases hb : b.ok with
    | false =>
      have hr := allT_arg (l := l) (b := b) (by rw [hb]; simp)
      have HR := Lib.hid hr
      clear hr
      go_enter Try.func21, Try.ntmps21
      go_wp2_with (first | (go_at_call 17; refine (rtvalid_any l A c _ ((hs.below (by assumption)).more (by simp)) hl).mono ?_; rintro e w1 ⟨rfl, hb1⟩; have hz1 := hb1.size; (try simp only [World.size_alloc, World.size_setCell, World.size_drew, size_drewN', size_grow, size_redrawn] at hz1); obtain ⟨hc1, hf1⟩ := bcellB (B := w.heap.size + 1) hb1 (by first | omega | (simp only [World.size_alloc, World.size_setCell, World.size_drew, size_drewN', size_grow, size_redrawn]; omega))); rw [hv] | (go_at_call 45; refine (rbill_any b _).mono ?_; rintro e w2 ⟨rfl, hb2⟩; have hz2 := hb2.size; (try simp only [World.size_alloc, World.size_setCell, World.size_drew, size_drewN', size_grow, size_redrawn] at hz2); obtain ⟨hc2, hf2⟩ := bcellB (B := w.heap.size + 1) hb2 (by first | omega | (simp only [World.size_alloc, World.size_setCell, World.size_drew, size_drewN', size_grow, size_redrawn]; omega))); rw [hb])
      go_ret3
      refine ⟨ret3_nil HR.out, ?_⟩
      repeat' (first
        | (with_reducible exact Below.refl _ _)
        | (with_reducible assumption)
        | (with_reducible refine below_drewN ?_ _)
        | (with_reducible refine Below.drew ?_)
        | (with_reducible refine below_regrown_up _ _ ?_ ?_)
        | (with_reducible refine Below.alloc ?_ ?_ _)
        | (with_reducible refine Below.setCell ?_ ?_ _)
        | (with_reducible refine below_up ?_ ?_ (by assumption))
        | (with_reducible exact Nat.le_refl _)
        | omega
        | (simp; done)
        | (simp; omega))
    | true =>
      have hok : (!taxesOk l || !b.ok) = false := by rw [hv, hb]; rfl
      have HOK := Lib.hid hok
      have h50 : l.length ≤ 50 := (taxesOk_iff.1 hv).1
      clear hok
      go_enter Try.func21, Try.ntmps21
      go_wp2_with (first | (go_at_call 17; refine (rtvalid_any l A c _ ((hs.below (by assumption)).more (by simp)) hl).mono ?_; rintro e w1 ⟨rfl, hb1⟩; have hz1 := hb1.size; (try simp only [World.size_alloc, World.size_setCell, World.size_drew, size_drewN', size_grow, size_redrawn] at hz1); obtain ⟨hc1, hf1⟩ := bcellB (B := w.heap.size + 1) hb1 (by first | omega | (simp only [World.size_alloc, World.size_setCell, World.size_drew, size_drewN', size_grow, size_redrawn]; omega))); rw [hv] | (go_at_call 45; refine (rbill_any b _).mono ?_; rintro e w2 ⟨rfl, hb2⟩; have hz2 := hb2.size; (try simp only [World.size_alloc, World.size_setCell, World.size_drew, size_drewN', size_grow, size_redrawn] at hz2); obtain ⟨hc2, hf2⟩ := bcellB (B := w.heap.size + 1) hb2 (by first | omega | (simp only [World.size_alloc, World.size_setCell, World.size_drew, size_drewN', size_grow, size_redrawn]; omega))); rw [hb])
      have hw2 : Below w.heap.size w w2 := by
        repeat' (first
          | (with_reducible exact Below.refl _ _)
          | (with_reducible assumption)
          | (with_reducible refine below_drewN ?_ _)
          | (with_reducible refine Below.drew ?_)
          | (with_reducible refine below_regrown_up _ _ ?_ ?_)
          | (with_reducible refine Below.alloc ?_ ?_ _)
          | (with_reducible refine Below.setCell ?_ ?_ _)
          | (with_reducible refine below_up ?_ ?_ (by assumption))
          | (with_reducible exact Nat.le_refl _)
          | omega
          | (simp; done)
          | (simp; omega))
      go_loopw [9, 10, 11] (fun v sm k wr => ∃ m : Nat, m ≤ l.length ∧ k = .int .i64 m ∧ sm = .int .i64 (onesT (l.take m) b).sum ∧ wr.ownsRow w2.heap.size 3 1 v m ((onesT (l.take m) b).map (Value.int .i64)) ∧ Hid (∀ j (h : j < l.length), j < m → (one l[j] b).2 = 0) ∧ Below w2.heap.size w2 wr) (fun _ _ k _ => l.length - (intOf k).toNat)
      case atStart => exact ⟨0, by omega, rfl, rfl, World.ownsRow_nil _ _ _ _, Lib.hid (fun j _ h => absurd h (by omega)), Below.refl _ _⟩
      case round =>
        obtain ⟨m, hm, rfl, rfl, hown, hn, hbw⟩ := hrel
        have hbz := hbw.size
        have hbw0 : Below w.heap.size w wr := below_up hw2 (by omega) hbw
        obtain ⟨hcw, hfw⟩ := bcellB (B := w.heap.size + 1) hbw (by omega)
        by_cases hlt : m < l.length
        · obtain ⟨bk, off, rfl, hbl, hcell⟩ := hs.at_ hlt
          have q0 := hcell 0 _ rfl
          have q1 := hcell 1 _ rfl
          have q2 := hcell 2 _ rfl
          have q3 := hcell 3 _ rfl
          have q4 := hcell 4 _ rfl
          have q5 := hcell 5 _ rfl
          have q6 := hcell 6 _ rfl
          rw [Nat.add_zero] at q0
          have HC := Lib.hid hcell
          clear hcell
          have hsb := onesT_sum_bd (l.take m) b
          have hlen : (l.take m).length = m := by rw [List.length_take]; omega
          rw [hlen] at hsb
          obtain ⟨hs0, hs1⟩ := hsb
          have hbl2 : bk ≤ w.heap.size := by omega
          have ho := one_bd l[m] b
          obtain ⟨ho0, ho1⟩ := ho
          have hx1 : (m : Int) < (l.length : Int) := by omega
          have hx4 : (0 : Int) ≤ (m : Int) := by omega
          have hx5 : (m : Int) ≤ 50 := by omega
          clear hlen
          by_cases he : (one l[m] b).2 = 0
          · have hbe : ((one l[m] b).2 != 0) = false := by simpa using he
            have HE := Lib.hid he
            clear he
            go_wp2_with fail
            have hgr := regrown_cells wr (B := w.heap.size + 1) (by omega)
            refine wp_region_quiet_below (by kernel_rfl) (by kernel_rfl) ?_
            repeat (quiet_step ((go_at_call 19; exact quiet_b (rone_any l[m] b _))))
            refine wpQuiet_nil ?_
            intro _ hw'
            obtain ⟨⟨dq, osq⟩, hw''⟩ := hw'
            subst hw''
            have hb3 := below_regrown wr dq osq
            clear hgr
            generalize grow (redrawn wr dq) osq = w3 at hb3 ⊢
            have hz3 := hb3.size
            (try simp only [World.size_alloc, World.size_setCell, World.size_drew, size_drewN', size_grow, size_redrawn] at hz3)
            obtain ⟨hc3, hf3⟩ := bcellB (B := w.heap.size + 1) hb3 (by first | omega | (simp only [World.size_alloc, World.size_setCell, World.size_drew, size_drewN', size_grow, size_redrawn]; omega))
            have hown3 := row_below hown hb3
            go_wp2_with (at_builtin; go_loud (refine wpList_append_own _ rfl (.tmp 42) (.tmp 44) 36 rfl w2.heap.size 3 i0 (.int .i64 0) 1 8 Try.underlying36 ji jz0 jz1 jz2 rfl (by decide) _ _ _ rfl (hown3.alloc _) ⟨w3.heap.size, 0, none⟩ 1 1 [.int .i64 (one l[m] b).1] rfl rfl (cell_one_new _ _ _) (by simp [Value.oneCell']) (by simp only [maxLen]; omega) (by omega) (by simp; omega) ?_); intro v' w4 hown4 hgrow4 _)
            have hb4 : Below w2.heap.size w2 w4 := below_append ((below_up hbw hbz hb3).alloc (by omega) _) (hown3.alloc _) hgrow4 (by simp; omega)
            go_roundw
            case rel =>
              refine ⟨m + 1, by omega, by go_num, ?_, ?_, Lib.hid (fun j h hj => ?_), hb4⟩
              · rw [onesT_snoc hlt, List.sum_append]
                simp
              · rw [onesT_snoc hlt, List.map_append]
                exact hown4
              · by_cases e : j = m
                · subst e; exact HE.out
                · exact hn.out j h (by omega)
            case measure => simp [intOf]; omega
          · have hbe : ((one l[m] b).2 != 0) = true := by simpa using he
            have HE := Lib.hid he
            clear he
            go_wp2_with fail
            have hgr := regrown_cells wr (B := w.heap.size + 1) (by omega)
            refine wp_region_quiet_below (by kernel_rfl) (by kernel_rfl) ?_
            repeat (quiet_step ((go_at_call 19; exact quiet_b (rone_any l[m] b _))))
            refine wpQuiet_nil ?_
            intro _ hw'
            obtain ⟨⟨dq, osq⟩, hw''⟩ := hw'
            subst hw''
            have hb3 := below_regrown wr dq osq
            clear hgr
            generalize grow (redrawn wr dq) osq = w3 at hb3 ⊢
            have hz3 := hb3.size
            (try simp only [World.size_alloc, World.size_setCell, World.size_drew, size_drewN', size_grow, size_redrawn] at hz3)
            obtain ⟨hc3, hf3⟩ := bcellB (B := w.heap.size + 1) hb3 (by first | omega | (simp only [World.size_alloc, World.size_setCell, World.size_drew, size_drewN', size_grow, size_redrawn]; omega))
            go_wp2_with fail
            go_ret3
            refine ⟨ret3_nil (allT_err HOK.out hlt HE.out hn.out), ?_⟩
            repeat' (first
              | (with_reducible exact Below.refl _ _)
              | (with_reducible assumption)
              | (with_reducible refine below_drewN ?_ _)
              | (with_reducible refine Below.drew ?_)
              | (with_reducible refine below_regrown_up _ _ ?_ ?_)
              | (with_reducible refine Below.alloc ?_ ?_ _)
              | (with_reducible refine Below.setCell ?_ ?_ _)
              | (with_reducible refine below_up ?_ ?_ (by assumption))
              | (with_reducible exact Nat.le_refl _)
              | omega
              | (simp; done)
              | (simp; omega))
        · obtain rfl : m = l.length := by omega
          have hr := allT_ok (l := l) (b := b) HOK.out (fun j h => hn.out j h h)
          have HR := Lib.hid hr
          clear hr
          rw [List.take_of_length_le (Nat.le_refl _)] at hown ⊢
          have hlen : (onesT l b).length = l.length := by simp [onesT]
          by_cases hg : 1000000000 < (onesT l b).sum
          · go_wp2_with fail
            go_ret3
            refine ⟨ret3_nil (by rw [HR.out, if_pos hg]), ?_⟩
            repeat' (first
              | (with_reducible exact Below.refl _ _)
              | (with_reducible assumption)
              | (with_reducible refine below_drewN ?_ _)
              | (with_reducible refine Below.drew ?_)
              | (with_reducible refine below_regrown_up _ _ ?_ ?_)
              | (with_reducible refine Below.alloc ?_ ?_ _)
              | (with_reducible refine Below.setCell ?_ ?_ _)
              | (with_reducible refine below_up ?_ ?_ (by assumption))
              | (with_reducible exact Nat.le_refl _)
              | omega
              | (simp; done)
              | (simp; omega))
          · have hg2 : (onesT l b).sum ≤ 1000000000 := by omega
            clear hg
            go_wp2_with fail
            go_ret3
            refine ⟨?_, ?_⟩
            · rw [← hlen] at hown
              obtain ⟨A', c', hv', hsl⟩ := sl_of_row hown
              have e : allT l b = (onesT l b, (onesT l b).sum, 0) := by rw [HR.out, if_neg (by omega)]
              rw [e]
              exact ⟨A', c', by rw [← hv']; rfl, hsl⟩
            · repeat' (first
                | (with_reducible exact Below.refl _ _)
                | (with_reducible assumption)
                | (with_reducible refine below_drewN ?_ _)
                | (with_reducible refine Below.drew ?_)
                | (with_reducible refine below_regrown_up _ _ ?_ ?_)
                | (with_reducible refine Below.alloc ?_ ?_ _)
                | (with_reducible refine Below.setCell ?_ ?_ _)
                | (with_reducible refine below_up ?_ ?_ (by assumption))
                | (with_reducible exact Nat.le_refl _)
                | omega
                | (simp; done)
                | (simp; omega))
end Go.Proofs.Ytdbdjhgcmcbiaaa
