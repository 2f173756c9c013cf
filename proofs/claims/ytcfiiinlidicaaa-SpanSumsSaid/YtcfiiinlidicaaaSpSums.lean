/-
  The laws 'SpanSums' and 'SpanThree': the walks.
-/
import Derived.Test.YtcfiiinlidicaaaSpSets
namespace Go.Proofs.Ytcfiiinlidicaaa
set_option linter.unusedSimpArgs false
set_option linter.unusedVariables false
open Go.RowKit
open Go.Sort (grow size_grow)

set_option maxHeartbeats 1000000
set_option maxRecDepth 100000
theorem count_lit (l : List Spn) (A : Option Addr) (c : Nat) (w : World) (hs : SlSpn w A l) (hv : setOk l = true) :
    Calls Try.prog 20 #[.slice A l.length c] w fun e w' => e = .returned (.tuple #[.int .i64 (cntL l), .int .i64 0]) ∧ Below w.heap.size w w' := by
  have h := count_any l A c w hs (by have := (setOk_iff.1 hv).2.2; omega)
  unfold cntR at h
  rw [if_pos hv] at h
  exact h
theorem set_bd {l : List Spn} (hv : setOk l = true) : ∀ s ∈ l, 0 ≤ s.frm ∧ s.til ≤ 1000000000 := fun s hs => by
  have := Spn.ok_iff.1 ((setOk_iff.1 hv).1 s hs)
  omega
theorem cnt_bd {l : List Spn} (hv : setOk l = true) : 0 ≤ cntL l ∧ cntL l ≤ 1000000000000 := by
  have h1 := cntL_bd (setOk_iff.1 hv).1
  have h2 := (setOk_iff.1 hv).2.2
  omega
theorem sums_yes (a b : List Spn) (A B : Option Addr) (c d : Nat) (w : World) (ha : SlSpn w A a) (hb : SlSpn w B b) (hu : use02 a b = true) :
    Calls Try.prog 6 #[.slice A a.length c, .slice B b.length d] w fun e w' => e = .returned (.bool true) ∧ Below w.heap.size w w' := by
  obtain ⟨h6, hva, hvb⟩ := use02_iff.1 hu
  have hla : a.length ≤ 140737488355328 := by omega
  have hlb : b.length ≤ 140737488355328 := by omega
  have hlen : 2 * (a.length + b.length) ≤ 1000 := by omega
  go_enter Try.func6, Try.ntmps6
  go_wp2_with fail
  refine (head02_any _).mono ?_
  rintro e w1 ⟨rfl, B1⟩
  go_wp2_with fail
  refine (usable_any a b A B c d _ (ha.up B1) (hb.up B1) hla hlb).mono ?_
  rintro e w2 ⟨rfl, b2⟩
  rw [hu]
  have B2 := below_up B1 B1.size b2
  go_wp2_with fail
  refine (union_ex a b A B c d _ (ha.up B2) (hb.up B2) hva hvb hlen).mono ?_
  rintro e w3 ⟨⟨x, A3, c3, rfl, s3, hx, lx⟩, b3⟩
  have B3 := below_up B2 B2.size b3
  go_wp2_with fail
  refine (meet_ex a b A B c d _ (ha.up B3) (hb.up B3) hva hvb hlen).mono ?_
  rintro e w4 ⟨⟨y, A4, c4, rfl, s4, hy, ly⟩, b4⟩
  have B4 := below_up B3 B3.size b4
  go_wp2_with fail
  refine (less_ex a b A B c d _ (ha.up B4) (hb.up B4) hva hvb hlen).mono ?_
  rintro e w5 ⟨⟨z, A5, c5, rfl, s5, hz, lz⟩, b5⟩
  have B5 := below_up B4 B4.size b5
  have vx := comb_set hx (by omega)
  have vy := comb_set hy (by omega)
  have vz := comb_set hz (by omega)
  have s35 := (s3.up b4).up b5
  have s45 := s4.up b5
  have HS := Lib.hid (sums_count (setOk_norm hva) (setOk_norm hvb) (set_bd hva) (set_bd hvb) hx hy)
  have ca := cnt_bd hva
  have cb := cnt_bd hvb
  have cx := cnt_bd vx
  have cy := cnt_bd vy
  go_wp2_with fail
  refine (count_lit a A c _ (ha.up B5) hva).mono ?_
  rintro e w6 ⟨rfl, b6⟩
  have B6 := below_up B5 B5.size b6
  go_wp2_with fail
  refine (count_lit b B d _ (hb.up B6) hvb).mono ?_
  rintro e w7 ⟨rfl, b7⟩
  have B7 := below_up B6 B6.size b7
  have b57 : Below w5.heap.size w5 w7 := below_up b6 b6.size b7
  go_wp2_with fail
  refine (count_lit x _ _ _ (s35.up b57) vx).mono ?_
  rintro e w8 ⟨rfl, b8⟩
  have B8 := below_up B7 B7.size b8
  have b58 : Below w5.heap.size w5 w8 := below_up b57 b57.size b8
  go_wp2_with fail
  refine (count_lit y _ _ _ (s45.up b58) vy).mono ?_
  rintro e w9 ⟨rfl, b9⟩
  have B9 := below_up B8 B8.size b9
  have b59 : Below w5.heap.size w5 w9 := below_up b58 b58.size b9
  go_wp2_with fail
  refine (union_ex y z _ _ _ _ _ (s45.up b59) (s5.up b59) vy vz (by omega)).mono ?_
  rintro e w10 ⟨⟨r, A10, c10, rfl, s10, hr, lr⟩, b10⟩
  have B10 := below_up B9 B9.size b10
  obtain rfl := sums_again (setOk_norm hva) hy hz hr
  generalize cntL r = na at *
  generalize cntL b = nb at *
  generalize cntL x = nx at *
  generalize cntL y = ny at *
  have k1 : IntKind.i64.wrap (na + nb) = na + nb := IntWalk.i64_in _ (by omega)
  have k2 : IntKind.i64.wrap (nx + ny) = nx + ny := IntWalk.i64_in _ (by omega)
  have hd : (na + nb == nx + ny) = true := by rw [beq_iff_eq]; exact HS.out
  have hd2 : decide (na + nb = nx + ny) = true := by rw [decide_eq_true_eq]; exact HS.out
  go_wp2_with fail
  refine (same_any r r _ _ _ _ _ s10 (ha.up B10) hla hla).mono ?_
  rintro e w11 ⟨rfl, b11⟩
  rw [decide_eq_true rfl]
  have B11 := below_up B10 B10.size b11
  go_wp2_with fail
  go_ret
  exact ⟨ret_bool (by simp), B11⟩
theorem sums_no (a b : List Spn) (A B : Option Addr) (c d : Nat) (w : World) (ha : SlSpn w A a) (hb : SlSpn w B b) (hla : a.length ≤ 140737488355328) (hlb : b.length ≤ 140737488355328) (hu : use02 a b = false) :
    Calls Try.prog 6 #[.slice A a.length c, .slice B b.length d] w fun e w' => e = .returned (.bool true) ∧ Below w.heap.size w w' := by
  go_enter Try.func6, Try.ntmps6
  go_wp2_with fail
  refine (head02_any _).mono ?_
  rintro e w1 ⟨rfl, hb1⟩; have hz1 := hb1.size; (try simp only [World.size_alloc, World.size_setCell, World.size_drew, size_drewN', size_grow, size_redrawn] at hz1); obtain ⟨hc1, hf1⟩ := bcellB (B := w.heap.size) hb1 (by first | omega | (simp only [World.size_alloc, World.size_setCell, World.size_drew, size_drewN', size_grow, size_redrawn]; omega))
  go_wp2_with fail
  refine (usable_any a b A B c d _ (ha.up hb1) (hb.up hb1) hla hlb).mono ?_
  rintro e w2 ⟨rfl, hb2⟩; have hz2 := hb2.size; (try simp only [World.size_alloc, World.size_setCell, World.size_drew, size_drewN', size_grow, size_redrawn] at hz2); obtain ⟨hc2, hf2⟩ := bcellB (B := w.heap.size) hb2 (by first | omega | (simp only [World.size_alloc, World.size_setCell, World.size_drew, size_drewN', size_grow, size_redrawn]; omega))
  rw [hu]
  go_wp2_with fail
  go_ret
  exact ⟨ret_bool (by simp), below_up hb1 hz1 hb2⟩
theorem law_sums (a b : List Spn) (A B : Option Addr) (c d : Nat) (w : World) (ha : SlSpn w A a) (hb : SlSpn w B b) (hla : a.length ≤ 140737488355328) (hlb : b.length ≤ 140737488355328) :
    Calls Try.prog 6 #[.slice A a.length c, .slice B b.length d] w fun e w' => e = .returned (.bool true) ∧ Below w.heap.size w w' := by
  cases hu : use02 a b
  · exact sums_no a b A B c d w ha hb hla hlb hu
  · exact sums_yes a b A B c d w ha hb hu
end Go.Proofs.Ytcfiiinlidicaaa
