/-
  Texts, one behind the other: Tax2, Tax3.
-/
import Derived.Test.YtmlhoojcdidgkaaGreatM02
/-
  Contracts of package tax and of its reference: one tax of a bill.
-/
namespace Go.Proofs.YtmlhoojcdidgkaaGreat
set_option linter.unusedSimpArgs false
set_option linter.unusedVariables false
open Go.RowKit
open Go.Sort (grow size_grow)

set_option maxHeartbeats 2000000
set_option maxRecDepth 100000

/-- The bounds of what a well-formed tax of a well-formed bill comes to. -/
structure ExB (t : Tax) (b : Bill) : Prop where
  n1 : 1 ≤ b.til - b.frm
  n2 : b.til - b.frm ≤ 60
  f0 : 0 ≤ firstN t b
  f1 : firstN t b ≤ 60
  d0 : 1 ≤ t.d
  d1 : t.d ≤ 1000000
  x0 : 1 ≤ (b.til - b.frm) * t.d
  x1 : (b.til - b.frm) * t.d ≤ 60000000
  a0 : 0 ≤ t.night * firstN t b
  a1 : t.night * firstN t b ≤ 6000000
  c0 : 0 ≤ t.night * firstN t b * b.persons
  c1 : t.night * firstN t b * b.persons ≤ 48000000
  e0 : 0 ≤ t.night * firstN t b * b.persons * ((b.til - b.frm) * t.d)
  e1 : t.night * firstN t b * b.persons * ((b.til - b.frm) * t.d) ≤ 2880000000000000
  p0 : 0 ≤ t.n * b.price
  p1 : t.n * b.price ≤ 1000000000000000
  q0 : 0 ≤ t.n * b.price * firstN t b
  q1 : t.n * b.price * firstN t b ≤ 60000000000000000
theorem mul_bd {a b A B : Int} (ha0 : 0 ≤ a) (ha : a ≤ A) (hb0 : 0 ≤ b) (hb : b ≤ B) : 0 ≤ a * b ∧ a * b ≤ A * B :=
  ⟨Int.mul_nonneg ha0 hb0, Int.mul_le_mul ha hb hb0 (by omega)⟩
theorem exB {t : Tax} {b : Bill} (ht : t.ok = true) (hb : b.ok = true) : ExB t b := by
  obtain ⟨h1, h2, h3, h4, h5, h6, h7⟩ := Tax.ok_iff.1 ht
  obtain ⟨g1, g2, g3, g4, g5, g6, g7, g8⟩ := Bill.ok_iff.1 hb
  obtain ⟨r1, r2, r3, r4, r5⟩ := ratOk_iff.1 h1
  have hf0 : 0 ≤ firstN t b := by unfold firstN; split <;> omega
  have hf1 : firstN t b ≤ 60 := by unfold firstN; split <;> omega
  have x := mul_bd (a := b.til - b.frm) (b := t.d) (A := 60) (B := 1000000) (by omega) (by omega) (by omega) (by omega)
  have x1 : 1 * 1 ≤ (b.til - b.frm) * t.d := Int.mul_le_mul (by omega) (by omega) (by omega) (by omega)
  have a := mul_bd (a := t.night) (b := firstN t b) (A := 100000) (B := 60) (by omega) (by omega) hf0 hf1
  have c := mul_bd (b := b.persons) (B := 8) a.1 a.2 (by omega) (by omega)
  have e := mul_bd c.1 c.2 x.1 x.2
  have p := mul_bd (a := t.n) (b := b.price) (A := 1000000) (B := 1000000000) (by omega) (by omega) (by omega) (by omega)
  have q := mul_bd p.1 p.2 hf0 hf1
  exact ⟨by omega, by omega, hf0, hf1, by omega, by omega, by omega, by omega, a.1, by omega, c.1, by omega, e.1, by omega, p.1, by omega, q.1, by omega⟩

theorem exact_any (t : Tax) (b : Bill) (w : World) (ht : t.ok = true) (hb : b.ok = true) :
    Calls Tryz.prog 96 #[t.v, b.v] w fun e w' => e = .returned (.agg #[.int .i64 (exN t b), .int .i64 (exD t b)]) ∧ Below w.heap.size w w' := by
  obtain ⟨n1, n2, f0, f1, d0, d1, x0, x1, a0, a1, c0, c1, e0, e1, p0, p1, q0, q1⟩ := exB ht hb
  have hN : exN t b = t.night * firstN t b * b.persons * ((b.til - b.frm) * t.d) + t.n * b.price * firstN t b := rfl
  have hD : exD t b = (b.til - b.frm) * t.d := rfl
  have hF : firstN t b = if 0 < t.first then min (b.til - b.frm) t.first else b.til - b.frm := rfl
  have HN := Lib.hid hN
  have HD := Lib.hid hD
  clear hN hD
  clear ht hb
  generalize firstN t b = m at *
  by_cases h0 : 0 < t.first
  · rw [if_pos h0] at hF
    by_cases h1 : b.til - b.frm ≤ t.first
    · obtain rfl : m = b.til - b.frm := by omega
      clear hF
      go_enter Tryz.func96, Tryz.ntmps96
      go_wp2
      refine bodyPost_ret (v := .agg #[.int .i64 (exN t b), .int .i64 (exD t b)]) (by rw [HN.out, HD.out]; simp [results, Tryz.results96, go_sem]) rfl ⟨rfl, ?_⟩
      repeat' (first
        | (with_reducible exact Below.refl _ _)
        | (with_reducible assumption)
        | (with_reducible refine below_drewN ?_ _)
        | (with_reducible refine Below.drew ?_)
        | (with_reducible refine below_regrown_up _ _ ?_ ?_)
        | (with_reducible refine Below.alloc ?_ ?_ _)
        | (with_reducible refine Below.setCell ?_ ?_ _)
        | (with_reducible refine below_up ?_ ?_ (by assumption))
        | (with_reducible exact Nat.le_refl _)
        | omega
        | (simp; done)
        | (simp; omega))
    · obtain rfl : m = t.first := by omega
      have h2 : t.first < b.til - b.frm := by omega
      clear hF h1
      go_enter Tryz.func96, Tryz.ntmps96
      go_wp2
      refine bodyPost_ret (v := .agg #[.int .i64 (exN t b), .int .i64 (exD t b)]) (by rw [HN.out, HD.out]; simp [results, Tryz.results96, go_sem]) rfl ⟨rfl, ?_⟩
      repeat' (first
        | (with_reducible exact Below.refl _ _)
        | (with_reducible assumption)
        | (with_reducible refine below_drewN ?_ _)
        | (with_reducible refine Below.drew ?_)
        | (with_reducible refine below_regrown_up _ _ ?_ ?_)
        | (with_reducible refine Below.alloc ?_ ?_ _)
        | (with_reducible refine Below.setCell ?_ ?_ _)
        | (with_reducible refine below_up ?_ ?_ (by assumption))
        | (with_reducible exact Nat.le_refl _)
        | omega
        | (simp; done)
        | (simp; omega))
  · rw [if_neg h0] at hF
    obtain rfl : m = b.til - b.frm := by omega
    have h2 : t.first ≤ 0 := by omega
    clear hF h0
    go_enter Tryz.func96, Tryz.ntmps96
    go_wp2
    refine bodyPost_ret (v := .agg #[.int .i64 (exN t b), .int .i64 (exD t b)]) (by rw [HN.out, HD.out]; simp [results, Tryz.results96, go_sem]) rfl ⟨rfl, ?_⟩
    repeat' (first
      | (with_reducible exact Below.refl _ _)
      | (with_reducible assumption)
      | (with_reducible refine below_drewN ?_ _)
      | (with_reducible refine Below.drew ?_)
      | (with_reducible refine below_regrown_up _ _ ?_ ?_)
      | (with_reducible refine Below.alloc ?_ ?_ _)
      | (with_reducible refine Below.setCell ?_ ?_ _)
      | (with_reducible refine below_up ?_ ?_ (by assumption))
      | (with_reducible exact Nat.le_refl _)
      | omega
      | (simp; done)
      | (simp; omega))
theorem trounded_any (n d way : Int) (w : World) (h1 : 0 ≤ n) (h2 : n ≤ 9000000000000000000) (h3 : 1 ≤ d) (h4 : d ≤ 1000000000000000000) (hw1 : 1 ≤ way) (hw2 : way ≤ 3) :
    Calls Tryz.prog 95 #[.agg #[.int .i64 n, .int .i64 d], .int .i64 way] w fun e w' => e = .returned (.int .i64 (rnd n d way)) ∧ Below w.heap.size w w' := by
  have hr0 := Int.emod_nonneg n (show d ≠ 0 by omega)
  have hr1 := Int.emod_lt_of_pos n (show 0 < d by omega)
  have hq0 := Int.ediv_nonneg h1 (show 0 ≤ d by omega)
  have hq1 : n / d ≤ n := Int.ediv_le_self d h1
  have ht1 : n.tdiv d = n / d := tdiv_nn h1
  have ht2 : n.tmod d = n % d := tmod_nn h1
  have hd0 : (d == 0) = false := by rw [beq_eq_false_iff_ne]; omega
  generalize hqd : n / d = q at *
  generalize hrd : n % d = r at *
  have HR : Hid (rnd n d way = if (way = 2 ∧ 0 < r) ∨ (way = 3 ∧ (d < 2 * r ∨ (2 * r = d ∧ q % 2 ≠ 0))) then q + 1 else q) := by
    refine Lib.hid ?_
    unfold rnd
    rw [hqd, hrd]
  clear hqd hrd
  rcases (show way = 1 ∨ way = 2 ∨ way = 3 by omega) with rfl | rfl | rfl
  · by_cases g0 : 0 < r
    · go_enter Tryz.func95, Tryz.ntmps95
      go_wp2_with fail
      go_quiet (fail)
      go_wp2_with fail
      go_ret
      refine ⟨ret_int ?_, ?_⟩
      · rw [HR.out]
        rw [if_neg (by simp)]
      · repeat' (first
          | (with_reducible exact Below.refl _ _)
          | (with_reducible assumption)
          | (with_reducible refine below_drewN ?_ _)
          | (with_reducible refine Below.drew ?_)
          | (with_reducible refine below_regrown_up _ _ ?_ ?_)
          | (with_reducible refine Below.alloc ?_ ?_ _)
          | (with_reducible refine Below.setCell ?_ ?_ _)
          | (with_reducible refine below_up ?_ ?_ (by assumption))
          | (with_reducible exact Nat.le_refl _)
          | omega
          | (simp; done)
          | (simp; omega))
    · have g1 : r ≤ 0 := by omega
      clear g0
      go_enter Tryz.func95, Tryz.ntmps95
      go_wp2_with fail
      go_quiet (fail)
      go_wp2_with fail
      go_ret
      refine ⟨ret_int ?_, ?_⟩
      · rw [HR.out]
        rw [if_neg (by simp)]
      · repeat' (first
          | (with_reducible exact Below.refl _ _)
          | (with_reducible assumption)
          | (with_reducible refine below_drewN ?_ _)
          | (with_reducible refine Below.drew ?_)
          | (with_reducible refine below_regrown_up _ _ ?_ ?_)
          | (with_reducible refine Below.alloc ?_ ?_ _)
          | (with_reducible refine Below.setCell ?_ ?_ _)
          | (with_reducible refine below_up ?_ ?_ (by assumption))
          | (with_reducible exact Nat.le_refl _)
          | omega
          | (simp; done)
          | (simp; omega))
  · by_cases g0 : 0 < r
    · go_enter Tryz.func95, Tryz.ntmps95
      go_wp2_with fail
      go_quiet (fail)
      go_wp2_with fail
      go_ret
      refine ⟨ret_int ?_, ?_⟩
      · rw [HR.out]
        rw [if_pos (by simp; omega)]
      · repeat' (first
          | (with_reducible exact Below.refl _ _)
          | (with_reducible assumption)
          | (with_reducible refine below_drewN ?_ _)
          | (with_reducible refine Below.drew ?_)
          | (with_reducible refine below_regrown_up _ _ ?_ ?_)
          | (with_reducible refine Below.alloc ?_ ?_ _)
          | (with_reducible refine Below.setCell ?_ ?_ _)
          | (with_reducible refine below_up ?_ ?_ (by assumption))
          | (with_reducible exact Nat.le_refl _)
          | omega
          | (simp; done)
          | (simp; omega))
    · have g1 : r ≤ 0 := by omega
      clear g0
      go_enter Tryz.func95, Tryz.ntmps95
      go_wp2_with fail
      go_quiet (fail)
      go_wp2_with fail
      go_ret
      refine ⟨ret_int ?_, ?_⟩
      · rw [HR.out]
        rw [if_neg (by simp; omega)]
      · repeat' (first
          | (with_reducible exact Below.refl _ _)
          | (with_reducible assumption)
          | (with_reducible refine below_drewN ?_ _)
          | (with_reducible refine Below.drew ?_)
          | (with_reducible refine below_regrown_up _ _ ?_ ?_)
          | (with_reducible refine Below.alloc ?_ ?_ _)
          | (with_reducible refine Below.setCell ?_ ?_ _)
          | (with_reducible refine below_up ?_ ?_ (by assumption))
          | (with_reducible exact Nat.le_refl _)
          | omega
          | (simp; done)
          | (simp; omega))
  · by_cases g2 : 2 * r = d
    · have g3 : decide (2 * r = d) = true := by simpa using g2
      have g0 : 0 < r := by omega
      have g6 : q.tmod 2 = q % 2 := tmod_nn hq0
      have G2 := Lib.hid g2
      clear g2
      rcases (show q % 2 = 0 ∨ q % 2 = 1 by omega) with g4 | g4
      · have G4 := Lib.hid g4
        clear g4
        go_enter Tryz.func95, Tryz.ntmps95
        go_wp2_with fail
        go_quiet (fail)
        go_wp2_with fail
        go_ret
        refine ⟨ret_int ?_, ?_⟩
        · rw [HR.out]
          rw [if_neg (by have := G2.out; have := G4.out; simp; omega)]; have := G4.out; first | omega | (simp; omega)
        · repeat' (first
            | (with_reducible exact Below.refl _ _)
            | (with_reducible assumption)
            | (with_reducible refine below_drewN ?_ _)
            | (with_reducible refine Below.drew ?_)
            | (with_reducible refine below_regrown_up _ _ ?_ ?_)
            | (with_reducible refine Below.alloc ?_ ?_ _)
            | (with_reducible refine Below.setCell ?_ ?_ _)
            | (with_reducible refine below_up ?_ ?_ (by assumption))
            | (with_reducible exact Nat.le_refl _)
            | omega
            | (simp; done)
            | (simp; omega))
      · have G4 := Lib.hid g4
        clear g4
        go_enter Tryz.func95, Tryz.ntmps95
        go_wp2_with fail
        go_quiet (fail)
        go_wp2_with fail
        go_ret
        refine ⟨ret_int ?_, ?_⟩
        · rw [HR.out]
          rw [if_pos (by have := G2.out; have := G4.out; simp; omega)]; have := G4.out; first | omega | (simp; omega)
        · repeat' (first
            | (with_reducible exact Below.refl _ _)
            | (with_reducible assumption)
            | (with_reducible refine below_drewN ?_ _)
            | (with_reducible refine Below.drew ?_)
            | (with_reducible refine below_regrown_up _ _ ?_ ?_)
            | (with_reducible refine Below.alloc ?_ ?_ _)
            | (with_reducible refine Below.setCell ?_ ?_ _)
            | (with_reducible refine below_up ?_ ?_ (by assumption))
            | (with_reducible exact Nat.le_refl _)
            | omega
            | (simp; done)
            | (simp; omega))
    · have g3 : decide (2 * r = d) = false := by simpa using g2
      by_cases g5 : 2 * r < d
      · by_cases g0 : 0 < r
        · go_enter Tryz.func95, Tryz.ntmps95
          go_wp2_with fail
          go_quiet (fail)
          go_wp2_with fail
          go_ret
          refine ⟨ret_int ?_, ?_⟩
          · rw [HR.out]
            rw [if_neg (by simp; omega)]
          · repeat' (first
              | (with_reducible exact Below.refl _ _)
              | (with_reducible assumption)
              | (with_reducible refine below_drewN ?_ _)
              | (with_reducible refine Below.drew ?_)
              | (with_reducible refine below_regrown_up _ _ ?_ ?_)
              | (with_reducible refine Below.alloc ?_ ?_ _)
              | (with_reducible refine Below.setCell ?_ ?_ _)
              | (with_reducible refine below_up ?_ ?_ (by assumption))
              | (with_reducible exact Nat.le_refl _)
              | omega
              | (simp; done)
              | (simp; omega))
        · have g1 : r ≤ 0 := by omega
          clear g0
          go_enter Tryz.func95, Tryz.ntmps95
          go_wp2_with fail
          go_quiet (fail)
          go_wp2_with fail
          go_ret
          refine ⟨ret_int ?_, ?_⟩
          · rw [HR.out]
            rw [if_neg (by simp; omega)]
          · repeat' (first
              | (with_reducible exact Below.refl _ _)
              | (with_reducible assumption)
              | (with_reducible refine below_drewN ?_ _)
              | (with_reducible refine Below.drew ?_)
              | (with_reducible refine below_regrown_up _ _ ?_ ?_)
              | (with_reducible refine Below.alloc ?_ ?_ _)
              | (with_reducible refine Below.setCell ?_ ?_ _)
              | (with_reducible refine below_up ?_ ?_ (by assumption))
              | (with_reducible exact Nat.le_refl _)
              | omega
              | (simp; done)
              | (simp; omega))
      · have g6 : d ≤ 2 * r := by omega
        have g0 : 0 < r := by omega
        clear g5
        go_enter Tryz.func95, Tryz.ntmps95
        go_wp2_with fail
        go_quiet (fail)
        go_wp2_with fail
        go_ret
        refine ⟨ret_int ?_, ?_⟩
        · rw [HR.out]
          rw [if_pos (by simp; omega)]
        · repeat' (first
            | (with_reducible exact Below.refl _ _)
            | (with_reducible assumption)
            | (with_reducible refine below_drewN ?_ _)
            | (with_reducible refine Below.drew ?_)
            | (with_reducible refine below_regrown_up _ _ ?_ ?_)
            | (with_reducible refine Below.alloc ?_ ?_ _)
            | (with_reducible refine Below.setCell ?_ ?_ _)
            | (with_reducible refine below_up ?_ ?_ (by assumption))
            | (with_reducible exact Nat.le_refl _)
            | omega
            | (simp; done)
            | (simp; omega))
theorem one_any (t : Tax) (b : Bill) (w : World) :
    Calls Tryz.prog 65 #[t.v, b.v] w fun e w' => e = .returned (.tuple #[.int .i64 (one t b).1, .int .i64 (one t b).2]) ∧ Below w.heap.size w w' := by
  cases ht : t.ok with
  | false =>
    have h1 : one t b = (0, 1) := by unfold one; simp [ht]
    have H1 := Lib.hid h1
    clear h1
    go_enter Tryz.func65, Tryz.ntmps65
    go_wp2_with (first
      | (go_at_call 62; refine (wrong_any t _).mono ?_; rintro e w1 ⟨rfl, hb1⟩; have hz1 := hb1.size; (try simp only [World.size_alloc, World.size_setCell, World.size_drew, size_drewN', size_grow, size_redrawn] at hz1); obtain ⟨hc1, hf1⟩ := bcellB (B := w.heap.size + 1 + 1) hb1 (by first | omega | (simp only [World.size_alloc, World.size_setCell, World.size_drew, size_drewN', size_grow, size_redrawn]; omega)))
      | (go_at_call 28; refine (right_any b _).mono ?_; rintro e w2 ⟨rfl, hb2⟩; have hz2 := hb2.size; (try simp only [World.size_alloc, World.size_setCell, World.size_drew, size_drewN', size_grow, size_redrawn] at hz2); obtain ⟨hc2, hf2⟩ := bcellB (B := w.heap.size + 1 + 1) hb2 (by first | omega | (simp only [World.size_alloc, World.size_setCell, World.size_drew, size_drewN', size_grow, size_redrawn]; omega))))
    go_ret2
    refine ⟨by rw [H1.out]; rfl, ?_⟩
    repeat' (first
      | (with_reducible exact Below.refl _ _)
      | (with_reducible assumption)
      | (with_reducible refine below_drewN ?_ _)
      | (with_reducible refine Below.drew ?_)
      | (with_reducible refine below_regrown_up _ _ ?_ ?_)
      | (with_reducible refine Below.alloc ?_ ?_ _)
      | (with_reducible refine Below.setCell ?_ ?_ _)
      | (with_reducible refine below_up ?_ ?_ (by assumption))
      | (with_reducible exact Nat.le_refl _)
      | omega
      | (simp; done)
      | (simp; omega))
  | true =>
    cases hb : b.ok with
    | false =>
      have h1 : one t b = (0, 1) := by unfold one; simp [ht, hb]
      have H1 := Lib.hid h1
      clear h1
      go_enter Tryz.func65, Tryz.ntmps65
      go_wp2_with (first
        | (go_at_call 62; refine (wrong_any t _).mono ?_; rintro e w1 ⟨rfl, hb1⟩; have hz1 := hb1.size; (try simp only [World.size_alloc, World.size_setCell, World.size_drew, size_drewN', size_grow, size_redrawn] at hz1); obtain ⟨hc1, hf1⟩ := bcellB (B := w.heap.size + 1 + 1) hb1 (by first | omega | (simp only [World.size_alloc, World.size_setCell, World.size_drew, size_drewN', size_grow, size_redrawn]; omega)))
        | (go_at_call 28; refine (right_any b _).mono ?_; rintro e w2 ⟨rfl, hb2⟩; have hz2 := hb2.size; (try simp only [World.size_alloc, World.size_setCell, World.size_drew, size_drewN', size_grow, size_redrawn] at hz2); obtain ⟨hc2, hf2⟩ := bcellB (B := w.heap.size + 1 + 1) hb2 (by first | omega | (simp only [World.size_alloc, World.size_setCell, World.size_drew, size_drewN', size_grow, size_redrawn]; omega))))
      go_ret2
      refine ⟨by rw [H1.out]; rfl, ?_⟩
      repeat' (first
        | (with_reducible exact Below.refl _ _)
        | (with_reducible assumption)
        | (with_reducible refine below_drewN ?_ _)
        | (with_reducible refine Below.drew ?_)
        | (with_reducible refine below_regrown_up _ _ ?_ ?_)
        | (with_reducible refine Below.alloc ?_ ?_ _)
        | (with_reducible refine Below.setCell ?_ ?_ _)
        | (with_reducible refine below_up ?_ ?_ (by assumption))
        | (with_reducible exact Nat.le_refl _)
        | omega
        | (simp; done)
        | (simp; omega))
    | true =>
      obtain ⟨n1, n2, f0, f1, d0, d1, x0, x1, a0, a1, c0, c1, e0, e1, p0, p1, q0, q1⟩ := exB ht hb
      obtain ⟨_, _, _, _, _, _, hw1, hw2⟩ := Tax.ok_iff.1 ht
      have hN : 0 ≤ exN t b ∧ exN t b ≤ 62880000000000000 := by unfold exN exD; omega
      have hD : 1 ≤ exD t b ∧ exD t b ≤ 60000000 := by unfold exD; omega
      by_cases hp : t.place = b.place
      · have hp1 : (t.place != b.place) = false := by simpa using hp
        have h1 : one t b = if 1000000000 < rnd (exN t b) (exD t b) t.round then (0, 3) else (rnd (exN t b) (exD t b) t.round, 0) := by unfold one oneV; simp [ht, hb, hp]
        have H1 := Lib.hid h1
        clear h1 hp
        clear n1 n2 f0 f1 d0 d1 x0 x1 a0 a1 c0 c1 e0 e1 p0 p1 q0 q1
        by_cases hg : 1000000000 < rnd (exN t b) (exD t b) t.round
        · go_enter Tryz.func65, Tryz.ntmps65
          go_wp2_with (first
            | (go_at_call 62; refine (wrong_any t _).mono ?_; rintro e w1 ⟨rfl, hb1⟩; have hz1 := hb1.size; (try simp only [World.size_alloc, World.size_setCell, World.size_drew, size_drewN', size_grow, size_redrawn] at hz1); obtain ⟨hc1, hf1⟩ := bcellB (B := w.heap.size + 1 + 1) hb1 (by first | omega | (simp only [World.size_alloc, World.size_setCell, World.size_drew, size_drewN', size_grow, size_redrawn]; omega)))
            | (go_at_call 28; refine (right_any b _).mono ?_; rintro e w2 ⟨rfl, hb2⟩; have hz2 := hb2.size; (try simp only [World.size_alloc, World.size_setCell, World.size_drew, size_drewN', size_grow, size_redrawn] at hz2); obtain ⟨hc2, hf2⟩ := bcellB (B := w.heap.size + 1 + 1) hb2 (by first | omega | (simp only [World.size_alloc, World.size_setCell, World.size_drew, size_drewN', size_grow, size_redrawn]; omega))))
          have hgr := regrown_cells w2 (B := w.heap.size + 1 + 1) (by omega)
          refine wp_region_quiet_below (by kernel_rfl) (by kernel_rfl) ?_
          repeat (quiet_step ((first | (go_at_call 96; exact quiet_b (exact_any t b _ ht hb)) | (go_at_call 95; exact quiet_b (trounded_any (exN t b) (exD t b) t.round _ (by omega) (by omega) (by omega) (by omega) hw1 hw2)))))
          refine wpQuiet_nil ?_
          intro _ hw'
          obtain ⟨⟨dq, osq⟩, hw''⟩ := hw'
          subst hw''
          go_wp2
          go_ret2
          refine ⟨by rw [H1.out, if_pos hg]; rfl, ?_⟩
          repeat' (first
            | (with_reducible exact Below.refl _ _)
            | (with_reducible assumption)
            | (with_reducible refine below_drewN ?_ _)
            | (with_reducible refine Below.drew ?_)
            | (with_reducible refine below_regrown_up _ _ ?_ ?_)
            | (with_reducible refine Below.alloc ?_ ?_ _)
            | (with_reducible refine Below.setCell ?_ ?_ _)
            | (with_reducible refine below_up ?_ ?_ (by assumption))
            | (with_reducible exact Nat.le_refl _)
            | omega
            | (simp; done)
            | (simp; omega))
        · go_enter Tryz.func65, Tryz.ntmps65
          go_wp2_with (first
            | (go_at_call 62; refine (wrong_any t _).mono ?_; rintro e w1 ⟨rfl, hb1⟩; have hz1 := hb1.size; (try simp only [World.size_alloc, World.size_setCell, World.size_drew, size_drewN', size_grow, size_redrawn] at hz1); obtain ⟨hc1, hf1⟩ := bcellB (B := w.heap.size + 1 + 1) hb1 (by first | omega | (simp only [World.size_alloc, World.size_setCell, World.size_drew, size_drewN', size_grow, size_redrawn]; omega)))
            | (go_at_call 28; refine (right_any b _).mono ?_; rintro e w2 ⟨rfl, hb2⟩; have hz2 := hb2.size; (try simp only [World.size_alloc, World.size_setCell, World.size_drew, size_drewN', size_grow, size_redrawn] at hz2); obtain ⟨hc2, hf2⟩ := bcellB (B := w.heap.size + 1 + 1) hb2 (by first | omega | (simp only [World.size_alloc, World.size_setCell, World.size_drew, size_drewN', size_grow, size_redrawn]; omega))))
          have hgr := regrown_cells w2 (B := w.heap.size + 1 + 1) (by omega)
          refine wp_region_quiet_below (by kernel_rfl) (by kernel_rfl) ?_
          repeat (quiet_step ((first | (go_at_call 96; exact quiet_b (exact_any t b _ ht hb)) | (go_at_call 95; exact quiet_b (trounded_any (exN t b) (exD t b) t.round _ (by omega) (by omega) (by omega) (by omega) hw1 hw2)))))
          refine wpQuiet_nil ?_
          intro _ hw'
          obtain ⟨⟨dq, osq⟩, hw''⟩ := hw'
          subst hw''
          go_wp2
          go_ret2
          refine ⟨by rw [H1.out, if_neg (by omega)]; rfl, ?_⟩
          repeat' (first
            | (with_reducible exact Below.refl _ _)
            | (with_reducible assumption)
            | (with_reducible refine below_drewN ?_ _)
            | (with_reducible refine Below.drew ?_)
            | (with_reducible refine below_regrown_up _ _ ?_ ?_)
            | (with_reducible refine Below.alloc ?_ ?_ _)
            | (with_reducible refine Below.setCell ?_ ?_ _)
            | (with_reducible refine below_up ?_ ?_ (by assumption))
            | (with_reducible exact Nat.le_refl _)
            | omega
            | (simp; done)
            | (simp; omega))
      · have hp1 : (t.place != b.place) = true := by simpa using hp
        have h1 : one t b = (0, 0) := by unfold one; simp [ht, hb, hp]
        have H1 := Lib.hid h1
        clear h1
        go_enter Tryz.func65, Tryz.ntmps65
        go_wp2_with (first
          | (go_at_call 62; refine (wrong_any t _).mono ?_; rintro e w1 ⟨rfl, hb1⟩; have hz1 := hb1.size; (try simp only [World.size_alloc, World.size_setCell, World.size_drew, size_drewN', size_grow, size_redrawn] at hz1); obtain ⟨hc1, hf1⟩ := bcellB (B := w.heap.size + 1 + 1) hb1 (by first | omega | (simp only [World.size_alloc, World.size_setCell, World.size_drew, size_drewN', size_grow, size_redrawn]; omega)))
          | (go_at_call 28; refine (right_any b _).mono ?_; rintro e w2 ⟨rfl, hb2⟩; have hz2 := hb2.size; (try simp only [World.size_alloc, World.size_setCell, World.size_drew, size_drewN', size_grow, size_redrawn] at hz2); obtain ⟨hc2, hf2⟩ := bcellB (B := w.heap.size + 1 + 1) hb2 (by first | omega | (simp only [World.size_alloc, World.size_setCell, World.size_drew, size_drewN', size_grow, size_redrawn]; omega))))
        go_ret2
        refine ⟨by rw [H1.out]; rfl, ?_⟩
        repeat' (first
          | (with_reducible exact Below.refl _ _)
          | (with_reducible assumption)
          | (with_reducible refine below_drewN ?_ _)
          | (with_reducible refine Below.drew ?_)
          | (with_reducible refine below_regrown_up _ _ ?_ ?_)
          | (with_reducible refine Below.alloc ?_ ?_ _)
          | (with_reducible refine Below.setCell ?_ ?_ _)
          | (with_reducible refine below_up ?_ ?_ (by assumption))
          | (with_reducible exact Nat.le_refl _)
          | omega
          | (simp; done)
          | (simp; omega))
end Go.Proofs.YtmlhoojcdidgkaaGreat

/-
  Contracts of package tax and of its reference: lists of taxes.
-/
namespace Go.Proofs.YtmlhoojcdidgkaaGreat
set_option linter.unusedSimpArgs false
set_option linter.unusedVariables false
open Go.RowKit Go.Maps
open Go.Sort (grow size_grow)

set_option maxHeartbeats 2000000
set_option maxRecDepth 100000

def Tax.cs (t : Tax) : List Value := [.int .i64 t.id, .int .i64 t.place, .int .i64 t.night, .int .i64 t.n, .int .i64 t.d, .int .i64 t.first, .int .i64 t.round]
abbrev SlTax (w : World) (A : Option Addr) (l : List Tax) : Prop := Sl w w.heap.size 7 Tax.cs A l


theorem idx_tax_any (l : List Tax) (A : Option Addr) (c : Nat) (w : World) (hs : SlTax w A l) (hl : l.length ≤ 1000000000000) :
    Calls Tryz.prog 93 #[.slice A l.length c, .func (.func 62) #[] #[]] w fun e w' => e = .returned (.int .i64 (ixOf (fun t => !t.ok) l)) ∧ Below w.heap.size w w' := by
  go_enter Tryz.func93, Tryz.ntmps93
  go_wp2
  go_loopw [8] (fun k wr => ∃ m : Nat, m ≤ l.length ∧ k = .int .i64 m ∧ Hid (∀ j (h : j < l.length), j < m → (!l[j].ok) = false) ∧ Below w.heap.size w wr) (fun k _ => l.length - (intOf k).toNat)
  case atStart => exact ⟨0, by omega, rfl, Lib.hid (fun j _ h => absurd h (by omega)), Below.refl _ _⟩
  case round =>
    obtain ⟨m, hm, rfl, hn, hbw⟩ := hrel
    have hbz := hbw.size
    by_cases hlt : m < l.length
    · obtain ⟨b, off, rfl, hbl, hcell⟩ := (hs.below hbw).at_ hlt
      have q0 := hcell 0 _ rfl
      have q1 := hcell 1 _ rfl
      have q2 := hcell 2 _ rfl
      have q3 := hcell 3 _ rfl
      have q4 := hcell 4 _ rfl
      have q5 := hcell 5 _ rfl
      have q6 := hcell 6 _ rfl
      rw [Nat.add_zero] at q0
      have HC := Lib.hid hcell
      clear hcell
      go_wp2_with (go_at_call 62; refine (wrong_any l[m] _).mono ?_; rintro e w1 ⟨rfl, hb1⟩)
      · have hok : (!l[m].ok) = true := by first | assumption | simp [*]
        go_ret
        refine ⟨ret_int ?_, ?_⟩
        · exact (ixOf_found hlt hok hn.out).symm
        · repeat' (first
            | (with_reducible exact Below.refl _ _)
            | (with_reducible assumption)
            | (with_reducible refine below_drewN ?_ _)
            | (with_reducible refine Below.drew ?_)
            | (with_reducible refine below_regrown_up _ _ ?_ ?_)
            | (with_reducible refine Below.alloc ?_ ?_ _)
            | (with_reducible refine Below.setCell ?_ ?_ _)
            | (with_reducible refine below_up ?_ ?_ (by assumption))
            | (with_reducible exact Nat.le_refl _)
            | omega
            | (simp; done)
            | (simp; omega))
      · have hok : (!l[m].ok) = false := by first | assumption | simp [*]
        go_roundw
        case rel =>
          refine ⟨m + 1, by omega, by go_num, Lib.hid (fun j h hj => ?_), ?_⟩
          · by_cases e : j = m
            · subst e; exact hok
            · exact hn.out j h (by omega)
          · repeat' (first
              | (with_reducible exact Below.refl _ _)
              | (with_reducible assumption)
              | (with_reducible refine below_drewN ?_ _)
              | (with_reducible refine Below.drew ?_)
              | (with_reducible refine below_regrown_up _ _ ?_ ?_)
              | (with_reducible refine Below.alloc ?_ ?_ _)
              | (with_reducible refine Below.setCell ?_ ?_ _)
              | (with_reducible refine below_up ?_ ?_ (by assumption))
              | (with_reducible exact Nat.le_refl _)
              | omega
              | (simp; done)
              | (simp; omega))
        case measure => simp [intOf]; omega
    · obtain rfl : m = l.length := by omega
      go_wp2
      go_ret
      refine ⟨ret_int ?_, ?_⟩
      · exact (ixOf_none fun j h => hn.out j h h).symm
      · repeat' (first
          | (with_reducible exact Below.refl _ _)
          | (with_reducible assumption)
          | (with_reducible refine below_drewN ?_ _)
          | (with_reducible refine Below.drew ?_)
          | (with_reducible refine below_regrown_up _ _ ?_ ?_)
          | (with_reducible refine Below.alloc ?_ ?_ _)
          | (with_reducible refine Below.setCell ?_ ?_ _)
          | (with_reducible refine below_up ?_ ?_ (by assumption))
          | (with_reducible exact Nat.le_refl _)
          | omega
          | (simp; done)
          | (simp; omega))

theorem con_tax_any (l : List Tax) (A : Option Addr) (c : Nat) (w : World) (hs : SlTax w A l) (hl : l.length ≤ 1000000000000) :
    Calls Tryz.prog 61 #[.slice A l.length c, .func (.func 62) #[] #[]] w fun e w' => e = .returned (.bool (!l.all Tax.ok)) ∧ Below w.heap.size w w' := by
  have h := ixOf_any (fun t : Tax => !t.ok) l
  have h2 : (l.any fun t => !t.ok) = !l.all Tax.ok := by rw [List.not_all_eq_any_not]
  rw [h2] at h
  have H := Lib.hid h
  clear h h2
  go_enter Tryz.func61, Tryz.ntmps61
  go_wp2_with (go_at_call 93; refine (idx_tax_any l A c _ hs hl).mono ?_; rintro e w1 ⟨rfl, hb1⟩)
  go_ret
  refine ⟨ret_bool ?_, ?_⟩
  · exact H.out
  · repeat' (first
      | (with_reducible exact Below.refl _ _)
      | (with_reducible assumption)
      | (with_reducible refine below_drewN ?_ _)
      | (with_reducible refine Below.drew ?_)
      | (with_reducible refine below_regrown_up _ _ ?_ ?_)
      | (with_reducible refine Below.alloc ?_ ?_ _)
      | (with_reducible refine Below.setCell ?_ ?_ _)
      | (with_reducible refine below_up ?_ ?_ (by assumption))
      | (with_reducible exact Nat.le_refl _)
      | omega
      | (simp; done)
      | (simp; omega))

theorem keyed_int : Keyed Tryz.prog 3 := int_keyed Tryz.underlying3
theorem tvalid_any (l : List Tax) (A : Option Addr) (c : Nat) (w : World) (hs : SlTax w A l) (hl : l.length ≤ 1000000000000) :
    Calls Tryz.prog 27 #[.slice A l.length c] w fun e w' => e = .returned (.bool (taxesOk l)) ∧ Below w.heap.size w w' := by
  by_cases h50 : l.length ≤ 50
  · cases hall : l.all Tax.ok with
    | false =>
      have hv : taxesOk l = false := by unfold taxesOk; simp [hall]
      have HV := Lib.hid hv
      have h5 : (l.length : Int) ≤ 50 := by omega
      clear hv
      go_enter Tryz.func27, Tryz.ntmps27
      go_wp2_with (go_at_call 61; refine (con_tax_any l A c _ hs hl).mono ?_; rintro e w1 ⟨rfl, hb1⟩; rw [hall])
      go_ret
      refine ⟨ret_bool ?_, ?_⟩
      · rw [HV.out]
      · repeat' (first
          | (with_reducible exact Below.refl _ _)
          | (with_reducible assumption)
          | (with_reducible refine below_drewN ?_ _)
          | (with_reducible refine Below.drew ?_)
          | (with_reducible refine below_regrown_up _ _ ?_ ?_)
          | (with_reducible refine Below.alloc ?_ ?_ _)
          | (with_reducible refine Below.setCell ?_ ?_ _)
          | (with_reducible refine below_up ?_ ?_ (by assumption))
          | (with_reducible exact Nat.le_refl _)
          | omega
          | (simp; done)
          | (simp; omega))
    | true =>
      have hv : taxesOk l = decide ((l.map Tax.id).Nodup) := by unfold taxesOk; simp [hall, h50]
      have HV := Lib.hid hv
      have h5 : (l.length : Int) ≤ 50 := by omega
      have hwf : ∀ k (h : k < l.length), 1 ≤ l[k].id ∧ l[k].id ≤ 1000000 := fun k h => (Tax.ok_iff.1 (List.all_eq_true.1 hall _ (List.getElem_mem h))).2.2.1
      have HW := Lib.hid hwf
      clear hv hwf
      have hmm := @run_makeMap Tryz.prog
      go_enter Tryz.func27, Tryz.ntmps27
      go_wp2_with (go_at_call 61; refine (con_tax_any l A c _ hs hl).mono ?_; rintro e w1 ⟨rfl, hb1⟩; rw [hall])
      have hz1 := hb1.size
      go_loopw [16] (fun k wr => ∃ m : Nat, m ≤ l.length ∧ k = .int .i64 m ∧ wr.ownsMap Tryz.prog 3 (plainElem Tryz.prog 4) w1.heap.size m (idSet ((l.map Tax.id).take m)) ∧ Below w.heap.size w wr) (fun k _ => l.length - (intOf k).toNat)
      case atStart =>
        refine ⟨0, by omega, rfl, ?_, ?_⟩
        · exact World.ownsMap_made _ _ _ _
        · repeat' (first
            | (with_reducible exact Below.refl _ _)
            | (with_reducible assumption)
            | (with_reducible refine below_drewN ?_ _)
            | (with_reducible refine Below.drew ?_)
            | (with_reducible refine below_regrown_up _ _ ?_ ?_)
            | (with_reducible refine Below.alloc ?_ ?_ _)
            | (with_reducible refine Below.setCell ?_ ?_ _)
            | (with_reducible refine below_up ?_ ?_ (by assumption))
            | (with_reducible exact Nat.le_refl _)
            | omega
            | (simp; done)
            | (simp; omega))
      case round =>
        obtain ⟨m, hm, rfl, hown, hbw⟩ := hrel
        have hbz := hbw.size
        by_cases hlt : m < l.length
        · obtain ⟨b, off, rfl, hbl, hcell⟩ := (hs.below hbw).at_ hlt
          have q0 := hcell 0 _ rfl
          have q1 := hcell 1 _ rfl
          have q2 := hcell 2 _ rfl
          have q3 := hcell 3 _ rfl
          have q4 := hcell 4 _ rfl
          have q5 := hcell 5 _ rfl
          have q6 := hcell 6 _ rfl
          rw [Nat.add_zero] at q0
          have hid := HW.out m hlt
          have HC := Lib.hid hcell
          clear hcell
          go_wp2_with (at_mapUpdate; refine wpList_mapUpdate_own _ rfl _ _ _ 112 rfl 3 4 keyed_int Tryz.underlying112 _ w1.heap.size m _ rfl (hown.alloc _) (by unfold maxLen; omega) _ _ _ rfl rfl (keyOf_int_mk Tryz.underlying3 (WalkArith.wf_i64 (by omega))) _ [] (plainElem_bool Tryz.underlying4 true) ?_; intro w2 hown2 hgrow2)
          have hb2 : Below w.heap.size w w2 := (hbw.alloc hbz _).grown hgrow2 (by simp; omega) (fun j e => by cases e; exact hz1)
          go_roundw
          case rel =>
            refine ⟨m + 1, by omega, by go_num, ?_, hb2⟩
            have e : (l.map Tax.id).take (m + 1) = (l.map Tax.id).take m ++ [l[m].id] := by
              rw [List.take_succ_eq_append_getElem (by simpa using hlt)]
              simp
            rw [e, idSet_snoc]
            exact hown2
          case measure => simp [intOf]; omega
        · obtain rfl : m = l.length := by omega
          go_wp2_with (at_len; refine wpList_len_own _ rfl _ 112 rfl 3 4 Tryz.underlying112 _ w1.heap.size l.length _ rfl hown ?_)
          go_ret
          refine ⟨ret_bool ?_, ?_⟩
          · rw [HV.out]
            have h := idSet_size (l.map Tax.id)
            rw [List.length_map] at h
            rw [List.take_of_length_le (by simp)]
            first | exact h | (simpa using h)
          · repeat' (first
              | (with_reducible exact Below.refl _ _)
              | (with_reducible assumption)
              | (with_reducible refine below_drewN ?_ _)
              | (with_reducible refine Below.drew ?_)
              | (with_reducible refine below_regrown_up _ _ ?_ ?_)
              | (with_reducible refine Below.alloc ?_ ?_ _)
              | (with_reducible refine Below.setCell ?_ ?_ _)
              | (with_reducible refine below_up ?_ ?_ (by assumption))
              | (with_reducible exact Nat.le_refl _)
              | omega
              | (simp; done)
              | (simp; omega))
  · have hv : taxesOk l = false := by unfold taxesOk; simp [h50]
    have HV := Lib.hid hv
    have h5 : 50 < (l.length : Int) := by omega
    clear hv h50
    go_enter Tryz.func27, Tryz.ntmps27
    go_wp2_with fail
    go_ret
    refine ⟨ret_bool ?_, ?_⟩
    · rw [HV.out]
    · repeat' (first
        | (with_reducible exact Below.refl _ _)
        | (with_reducible assumption)
        | (with_reducible refine below_drewN ?_ _)
        | (with_reducible refine Below.drew ?_)
        | (with_reducible refine below_regrown_up _ _ ?_ ?_)
        | (with_reducible refine Below.alloc ?_ ?_ _)
        | (with_reducible refine Below.setCell ?_ ?_ _)
        | (with_reducible refine below_up ?_ ?_ (by assumption))
        | (with_reducible exact Nat.le_refl _)
        | omega
        | (simp; done)
        | (simp; omega))
end Go.Proofs.YtmlhoojcdidgkaaGreat
