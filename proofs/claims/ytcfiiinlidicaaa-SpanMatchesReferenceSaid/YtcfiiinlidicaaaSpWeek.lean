/-
  The law 'SpanWeekdays': the walk.
-/
import Derived.Test.YtcfiiinlidicaaaSpHead
namespace Go.Proofs.Ytcfiiinlidicaaa
set_option linter.unusedSimpArgs false
set_option linter.unusedVariables false
open Go.RowKit
open Go.Sort (grow size_grow)

set_option maxHeartbeats 1000000
set_option maxRecDepth 100000
theorem wk_lit {n a er : Int} (h : wkR n = (a, er)) (w : World) : Calls Try.prog 24 #[.int .i64 n] w fun e w' => e = .returned (.tuple #[.int .i64 a, .int .i64 er]) ∧ Below w.heap.size w w' := by
  have := wkday_any n w
  rw [h] at this
  exact this
theorem wk_in {n : Int} (h0 : 0 ≤ n) (h1 : n ≤ 366) : wkR n = ((n + 3) % 7, 0) := by unfold wkR; rw [if_neg (by omega)]
theorem law_week (u : Int) (w : World) (u0 : 0 ≤ u) (u1 : u ≤ 65535) : Calls Try.prog 9 #[.int .u16 u] w fun e w' => e = .returned (.bool true) ∧ Below w.heap.size w w' := by
  obtain ⟨n, hkk⟩ : ∃ n, u % 366 = n := ⟨_, rfl⟩
  have n0 : 0 ≤ n := by rw [← hkk]; exact Int.emod_nonneg _ (by omega)
  have n1 : n < 366 := by rw [← hkk]; exact Int.emod_lt_of_pos _ (by omega)
  have HA := wk_in n0 (by omega)
  have HB := wk_in (n := n + 1) (by omega) (by omega)
  obtain ⟨a, ha⟩ : ∃ a, (n + 3) % 7 = a := ⟨_, rfl⟩
  obtain ⟨b, hb⟩ : ∃ b, (n + 1 + 3) % 7 = b := ⟨_, rfl⟩
  rw [ha] at HA
  rw [hb] at HB
  have a0 : 0 ≤ a := by omega
  have a7 : a < 7 := by omega
  have hbe : b = (a + 1) % 7 := by omega
  have hbb : (b == (a + 1) % 7) = true := by rw [beq_iff_eq]; exact hbe
  have w1' : IntKind.i64.wrap (a + 1) = a + 1 := IntWalk.i64_in _ (by omega)
  have w2' : IntKind.i64.wrap (n + 1) = n + 1 := IntWalk.i64_in _ (by omega)
  have w3' : IntKind.i64.wrap (n - 7) = n - 7 := IntWalk.i64_in _ (by omega)
  have a1 : 0 ≤ a + 1 := by omega
  by_cases h7 : n < 7
  · have h7b : decide (n < 7) = true := by simpa using h7
    have hmx : max 0 (n - 7) = 0 := by omega
    have HC : wkR 0 = (3, 0) := by decide
    have HA' := Lib.hid HA
    have HB' := Lib.hid HB
    have HC' := Lib.hid HC
    clear HA HB HC ha hb hbe
    go_enter Try.func9, Try.ntmps9
    go_wp2_with fail
    refine (head02_any _).mono ?_
    rintro e w1 ⟨rfl, hb1⟩; have hz1 := hb1.size; (try simp only [World.size_alloc, World.size_setCell, World.size_drew, size_drewN', size_grow, size_redrawn] at hz1); obtain ⟨hc1, hf1⟩ := bcellB (B := w.heap.size) hb1 (by first | omega | (simp only [World.size_alloc, World.size_setCell, World.size_drew, size_drewN', size_grow, size_redrawn]; omega))
    go_wp2_with fail
    refine (wk_lit HA'.out _).mono ?_
    rintro e w2 ⟨rfl, hb2⟩; have hz2 := hb2.size; (try simp only [World.size_alloc, World.size_setCell, World.size_drew, size_drewN', size_grow, size_redrawn] at hz2); obtain ⟨hc2, hf2⟩ := bcellB (B := w.heap.size) hb2 (by first | omega | (simp only [World.size_alloc, World.size_setCell, World.size_drew, size_drewN', size_grow, size_redrawn]; omega))
    have B2 := below_up hb1 hz1 hb2
    go_wp2_with fail
    refine (wk_lit HB'.out _).mono ?_
    rintro e w3 ⟨rfl, hb3⟩
    have B3 := below_up B2 B2.size hb3
    go_wp2_with fail
    refine (wk_lit HC'.out _).mono ?_
    rintro e w4 ⟨rfl, hb4⟩
    have B4 := below_up B3 B3.size hb4
    go_wp2_with fail
    go_ret
    refine ⟨ret_bool (by simp), B4⟩
  · have h7b : decide (n < 7) = false := by simpa using h7
    have hmx : max 0 (n - 7) = n - 7 := by omega
    have HC : wkR (n - 7) = (a, 0) := by rw [wk_in (by omega) (by omega)]; congr 1; omega
    have HA' := Lib.hid HA
    have HB' := Lib.hid HB
    have HC' := Lib.hid HC
    clear HA HB HC ha hb hbe
    go_enter Try.func9, Try.ntmps9
    go_wp2_with fail
    refine (head02_any _).mono ?_
    rintro e w1 ⟨rfl, hb1⟩; have hz1 := hb1.size; (try simp only [World.size_alloc, World.size_setCell, World.size_drew, size_drewN', size_grow, size_redrawn] at hz1); obtain ⟨hc1, hf1⟩ := bcellB (B := w.heap.size) hb1 (by first | omega | (simp only [World.size_alloc, World.size_setCell, World.size_drew, size_drewN', size_grow, size_redrawn]; omega))
    go_wp2_with fail
    refine (wk_lit HA'.out _).mono ?_
    rintro e w2 ⟨rfl, hb2⟩; have hz2 := hb2.size; (try simp only [World.size_alloc, World.size_setCell, World.size_drew, size_drewN', size_grow, size_redrawn] at hz2); obtain ⟨hc2, hf2⟩ := bcellB (B := w.heap.size) hb2 (by first | omega | (simp only [World.size_alloc, World.size_setCell, World.size_drew, size_drewN', size_grow, size_redrawn]; omega))
    have B2 := below_up hb1 hz1 hb2
    go_wp2_with fail
    refine (wk_lit HB'.out _).mono ?_
    rintro e w3 ⟨rfl, hb3⟩
    have B3 := below_up B2 B2.size hb3
    go_wp2_with fail
    refine (wk_lit HC'.out _).mono ?_
    rintro e w4 ⟨rfl, hb4⟩
    have B4 := below_up B3 B3.size hb4
    go_wp2_with fail
    go_ret
    refine ⟨ret_bool (by simp), B4⟩
end Go.Proofs.Ytcfiiinlidicaaa
