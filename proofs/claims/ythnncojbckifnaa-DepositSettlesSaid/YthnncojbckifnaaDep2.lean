/-
  Contracts of package deposit and of its reference: entries.
-/
import Derived.Test.YthnncojbckifnaaDepP
import Derived.Deep.DeepCutAuto
namespace Go.Proofs.Ythnncojbckifnaa
set_option linter.unusedSimpArgs false
set_option linter.unusedVariables false
open Go.RowKit
open Go.Sort (grow size_grow)

set_option maxHeartbeats 4000000
set_option maxRecDepth 100000

theorem raccount_any (n : Int) (w : World) (h1 : 0 ≤ n) (h2 : n ≤ 1000000) :
    Calls Try.prog 37 #[.int .i64 n] w fun e w' => e = .returned (.int .i64 (500 + n % 100)) ∧ w = w' := by
  go_enter Try.func37, Try.ntmps37
  go_wp2
  go_ret
  exact ⟨rfl, rfl⟩
theorem rhouse_any (b : Bill) (w : World) (h1 : 1 ≤ b.place) (h2 : b.place ≤ 99) :
    Calls Try.prog 38 #[b.v] w fun e w' => e = .returned (.int .i64 (300 + b.place)) ∧ Below w.heap.size w w' := by
  go_enter Try.func38, Try.ntmps38
  go_wp2
  go_ret
  refine ⟨rfl, ?_⟩
  repeat' (first
    | (with_reducible exact Below.refl _ _)
    | (with_reducible assumption)
    | (with_reducible refine below_drewN ?_ _)
    | (with_reducible refine Below.drew ?_)
    | (with_reducible refine below_regrown_up _ _ ?_ ?_)
    | (with_reducible refine Below.alloc ?_ ?_ _)
    | (with_reducible refine Below.setCell ?_ ?_ _)
    | (with_reducible refine below_up ?_ ?_ (by assumption))
    | (with_reducible exact Nat.le_refl _)
    | omega
    | (simp; done)
    | (simp; omega))
theorem rrefund_lit {b : Bill} {paid x y z : Int} (h : refundR b paid = (x, y, z)) (w : World) :
    Calls Try.prog 15 #[b.v, .int .i64 paid] w fun e w' => e = .returned (.tuple #[.int .i64 x, .int .i64 y, .int .i64 z]) ∧ Below w.heap.size w w' := by
  have := rrefund_any b paid w
  rw [h] at this
  exact this
theorem refund_lit {b : Bill} {paid x y z : Int} (h : refundR b paid = (x, y, z)) (w : World) :
    Calls Try.prog 14 #[b.v, .int .i64 paid] w fun e w' => e = .returned (.tuple #[.int .i64 x, .int .i64 y, .int .i64 z]) ∧ Below w.heap.size w w' := by
  have := refund_any b paid w
  rw [h] at this
  exact this
theorem rentries_no (b : Bill) (paid day : Int) (w : World) (h : (!b.ok || !amt paid || !inB day 0 366) = true) :
    Calls Try.prog 19 #[b.v, .int .i64 paid, .int .i64 day] w fun e w' => RetE (entriesR b paid day) e w' ∧ Below w.heap.size w w' := by
  rw [entriesR_no h]
  by_cases h1 : (!b.ok || !amt paid) = true
  · go_enter Try.func19, Try.ntmps19
    go_wp2_with (go_at_call 15; refine (rrefund_lit (refundR_no h1) _).mono ?_; rintro e w1 ⟨rfl, hb1⟩; have hz1 := hb1.size; (try simp only [World.size_alloc, World.size_setCell, World.size_drew, size_drewN', size_grow, size_redrawn] at hz1); obtain ⟨hc1, hf1⟩ := bcellB (B := w.heap.size + 1) hb1 (by first | omega | (simp only [World.size_alloc, World.size_setCell, World.size_drew, size_drewN', size_grow, size_redrawn]; omega)))
    go_ret2
    refine ⟨retE_nil, ?_⟩
    repeat' (first
      | (with_reducible exact Below.refl _ _)
      | (with_reducible assumption)
      | (with_reducible refine below_drewN ?_ _)
      | (with_reducible refine Below.drew ?_)
      | (with_reducible refine below_regrown_up _ _ ?_ ?_)
      | (with_reducible refine Below.alloc ?_ ?_ _)
      | (with_reducible refine Below.setCell ?_ ?_ _)
      | (with_reducible refine below_up ?_ ?_ (by assumption))
      | (with_reducible exact Nat.le_refl _)
      | omega
      | (simp; done)
      | (simp; omega))
  · have h2 : b.ok = true ∧ amt paid = true := by simpa using h1
    have h3 : inB day 0 366 = false := by rw [h2.1, h2.2] at h; simpa using h
    have hr := refundR_ok h2.1 h2.2
    obtain ⟨x, hx⟩ : ∃ x, paid - min paid b.keep = x := ⟨_, rfl⟩
    obtain ⟨y, hy⟩ : ∃ y, min paid b.keep = y := ⟨_, rfl⟩
    rw [hx, hy] at hr
    clear hx hy h1
    have h4 : day < 0 ∨ 366 < day := by
      rcases Int.lt_or_le day 0 with h | h
      · exact .inl h
      · right
        rcases Int.lt_or_le 366 day with h' | h'
        · exact h'
        · rw [inB_t h h'] at h3; cases h3
    rcases h4 with h4 | h4
    all_goals
      go_enter Try.func19, Try.ntmps19
      go_wp2_with (go_at_call 15; refine (rrefund_lit hr _).mono ?_; rintro e w1 ⟨rfl, hb1⟩; have hz1 := hb1.size; (try simp only [World.size_alloc, World.size_setCell, World.size_drew, size_drewN', size_grow, size_redrawn] at hz1); obtain ⟨hc1, hf1⟩ := bcellB (B := w.heap.size + 1) hb1 (by first | omega | (simp only [World.size_alloc, World.size_setCell, World.size_drew, size_drewN', size_grow, size_redrawn]; omega)))
      go_ret2
      refine ⟨retE_nil, ?_⟩
      repeat' (first
        | (with_reducible exact Below.refl _ _)
        | (with_reducible assumption)
        | (with_reducible refine below_drewN ?_ _)
        | (with_reducible refine Below.drew ?_)
        | (with_reducible refine below_regrown_up _ _ ?_ ?_)
        | (with_reducible refine Below.alloc ?_ ?_ _)
        | (with_reducible refine Below.setCell ?_ ?_ _)
        | (with_reducible refine below_up ?_ ?_ (by assumption))
        | (with_reducible exact Nat.le_refl _)
        | omega
        | (simp; done)
        | (simp; omega))
theorem rentries_ok (b : Bill) (paid day x y : Int) (w : World) (h1 : b.ok = true) (h3 : inB day 0 366 = true) (hr : refundR b paid = (x, y, 0)) :
    Calls Try.prog 19 #[b.v, .int .i64 paid, .int .i64 day] w fun e w' => RetE (entriesL b x y day, 0) e w' ∧ Below w.heap.size w w' := by
  have g := Bill.ok_iff.1 h1
  obtain ⟨_, _, _, ⟨s0, s1⟩, _, ⟨p0, p1⟩, _, _⟩ := g
  have d := inB_iff.1 h3
  obtain ⟨d0, d1⟩ := d
  have s2 : b.stay ≤ 9223372036854775807 := by omega
  have HR := Lib.hid hr
  clear hr
  go_enter Try.func19, Try.ntmps19
  go_upto_if 30 with (go_at_call 15; refine (rrefund_lit HR.out _).mono ?_; rintro e w1 ⟨rfl, hb1⟩; have hz1 := hb1.size; (try simp only [World.size_alloc, World.size_setCell, World.size_drew, size_drewN', size_grow, size_redrawn] at hz1); obtain ⟨hc1, hf1⟩ := bcellB (B := w.heap.size + 1) hb1 (by first | omega | (simp only [World.size_alloc, World.size_setCell, World.size_drew, size_drewN', size_grow, size_redrawn]; omega)))
  go_cut [11] (fun v11 wc => OwnE wc w1.heap.size v11 (if 0 < y then [keptE b y day] else []) ∧ Below w1.heap.size w1 wc)
  case first =>
    by_cases hy : 0 < y
    · go_wp2_with fail
      go_region_law (first
        | (go_simp; go_at_call 37; go_loud (refine (raccount_any _ _ (by omega) (by omega)).mono ?_); rintro e w' ⟨rfl, rfl⟩)
        | (go_simp; go_at_call 38; go_loud (refine (rhouse_any b _ p0 p1).mono ?_); rintro e w2 ⟨rfl, hb2⟩; have hz2 := hb2.size; (try simp only [World.size_alloc, World.size_setCell, World.size_drew, size_drewN', size_grow, size_redrawn] at hz2); obtain ⟨hc2, hf2⟩ := bcellB (B := w.heap.size + 1) hb2 (by first | omega | (simp only [World.size_alloc, World.size_setCell, World.size_drew, size_drewN', size_grow, size_redrawn]; omega)))
        | (go_loud (refine step_push _ (by rfl) (.tmp 31) (.tmp 42) 31 63 (by rfl) w1.heap.size 5 40 Entry.cs elemEnt ent_len ent_one _ [] (by rfl) OwnL.nil_ _ 1 (keptE b y day) (by rfl) (by first | exact news_new _ _ _ _ rfl | exact fun j u hu => (hb2.cell (p := ⟨_, j, none⟩) (by simp)).trans (news_new _ _ _ _ rfl j u hu)) (by simp) (by omega) (by first | omega | (simp; done) | (simp; omega)) _ (by first | rfl | (simp; done)) ?_); intro gg cap w4 hown4 hgrow4 hat4 hlt4))
      all_goals
        go_wp2_with fail
        go_meet
        rw [if_pos hy]
        exact ⟨hown4, below_push (e := 63) (size := 5) (enc := Entry.cs) (L := []) (by repeat' (first | (with_reducible exact Below.refl _ _) | (with_reducible assumption) | (with_reducible refine below_drewN ?_ _) | (with_reducible refine Below.drew ?_) | (with_reducible refine below_regrown_up _ _ ?_ ?_) | (with_reducible refine Below.alloc ?_ ?_ _) | (with_reducible refine Below.setCell ?_ ?_ _) | (with_reducible refine below_up ?_ ?_ (by assumption)) | (with_reducible exact Nat.le_refl _) | omega | (simp; done) | (simp; omega))) OwnL.nil_ hgrow4 (by first | omega | (simp; done) | (simp; omega))⟩
    · go_wp2_with fail
      go_meet
      rw [if_neg (by omega)]
      exact ⟨OwnL.nil_, Below.refl _ _⟩
  case rest =>
    obtain ⟨hown, hbc⟩ := hcut
    have hzc := hbc.size
    obtain ⟨hcc, hfc⟩ := bcellB (B := w.heap.size + 1) hbc (by omega)
    obtain ⟨out, hout⟩ : ∃ out, (if 0 < y then [keptE b y day] else []) = out := ⟨_, rfl⟩
    have hlen : out.length ≤ 1 := by rw [← hout]; split <;> simp
    rw [hout] at hown
    have HOUT := Lib.hid hout
    clear hout
    go_upto_if 45 with fail
    go_cut [11] (fun v11 wd => OwnE wd w1.heap.size v11 (out ++ (if 0 < x then [backE b x day] else [])) ∧ Below w1.heap.size w1 wd)
    case first =>
      by_cases hx : 0 < x
      · go_wp2_with fail
        go_region_law (first
          | (go_simp; go_at_call 37; go_loud (refine (raccount_any _ _ (by omega) (by omega)).mono ?_); rintro e w' ⟨rfl, rfl⟩)
          | (go_loud (refine step_push _ (by rfl) (.tmp 46) (.tmp 55) 31 63 (by rfl) w1.heap.size 5 40 Entry.cs elemEnt ent_len ent_one _ out (by rfl) (hown.alloc _) _ 1 (backE b x day) (by rfl) (by exact news_new _ _ _ _ rfl) (by omega) (by omega) (by first | omega | (simp; done) | (simp; omega)) _ (by first | rfl | (simp; done)) ?_); intro gg cap w4 hown4 hgrow4 hat4 hlt4))
        all_goals
          go_wp2_with fail
          go_meet
          rw [if_pos hx]
          refine ⟨hown4, ?_⟩
          refine below_push (e := 63) (size := 5) (enc := Entry.cs) (L := out) ?_ ?_ hgrow4 ?_
          · repeat' (first
              | (with_reducible exact Below.refl _ _)
              | (with_reducible assumption)
              | (with_reducible refine below_drewN ?_ _)
              | (with_reducible refine Below.drew ?_)
              | (with_reducible refine below_regrown_up _ _ ?_ ?_)
              | (with_reducible refine Below.alloc ?_ ?_ _)
              | (with_reducible refine Below.setCell ?_ ?_ _)
              | (with_reducible refine below_up ?_ ?_ (by assumption))
              | (with_reducible exact Nat.le_refl _)
              | omega
              | (simp; done)
              | (simp; omega))
          · first | exact hown.alloc _ | exact (hown.alloc _).drew | exact ((hown.alloc _).drew).drew | exact (((hown.alloc _).drew).drew).drew
          · first | omega | (simp; done) | (simp; omega)
      · go_wp2_with fail
        go_meet
        rw [if_neg (by omega), List.append_nil]
        exact ⟨hown, hbc⟩
    case rest =>
      obtain ⟨hown2, hbd⟩ := hcut
      have hm : entriesL b x y day = out ++ (if 0 < x then [backE b x day] else []) := by unfold entriesL; rw [HOUT.out]
      generalize out ++ (if 0 < x then [backE b x day] else []) = m at *
      have HM := Lib.hid hm
      clear hm
      obtain ⟨A2, c2, rfl, hc2, _, hsl2⟩ := hown2.sl ent_len
      go_wp2_with fail
      go_ret2
      rw [HM.out]
      exact ⟨⟨A2, c2, rfl, hc2, hsl2⟩, below_up (by repeat' (first | (with_reducible exact Below.refl _ _) | (with_reducible assumption) | (with_reducible refine below_drewN ?_ _) | (with_reducible refine Below.drew ?_) | (with_reducible refine below_regrown_up _ _ ?_ ?_) | (with_reducible refine Below.alloc ?_ ?_ _) | (with_reducible refine Below.setCell ?_ ?_ _) | (with_reducible refine below_up ?_ ?_ (by assumption)) | (with_reducible exact Nat.le_refl _) | omega | (simp; done) | (simp; omega))) (by omega) hbd⟩
end Go.Proofs.Ythnncojbckifnaa
