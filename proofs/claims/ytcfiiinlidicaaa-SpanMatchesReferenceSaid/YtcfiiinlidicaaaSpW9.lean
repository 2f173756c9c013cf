/-
  Package span: what compares for Most; cmp.Or.
-/
import Derived.Test.YtcfiiinlidicaaaSpP3
import Derived.Deep.RegionLaw
namespace Go.Proofs.Ytcfiiinlidicaaa
set_option linter.unusedSimpArgs false
set_option linter.unusedVariables false
open Go.RowKit
open Go.Sort (grow size_grow)

set_option maxHeartbeats 1000000
set_option maxRecDepth 100000
def orI (x y : Int) : Int := if x ≠ 0 then x else y
theorem or_any (x y : Int) (b c : Nat) (w : World) (h0 : w.cell? ⟨b, 0, none⟩ = some (.int .i64 x)) (h1 : w.cell? ⟨b, 1, none⟩ = some (.int .i64 y)) :
    Calls Try.prog 41 #[.slice (some ⟨b, 0, none⟩) 2 c] w fun e w' => e = .returned (.int .i64 (orI x y)) ∧ w' = w := by
  go_enter Try.func41, Try.ntmps41
  go_wp2
  go_loopw [8] (fun i wr => ∃ m : Nat, m ≤ 2 ∧ i = .int .i64 m ∧ (0 < m → x = 0) ∧ (1 < m → y = 0) ∧ w = wr) (fun i _ => 2 - (intOf i).toNat)
  case atStart => exact ⟨0, by omega, rfl, fun h => by omega, fun h => by omega, rfl⟩
  case round =>
    obtain ⟨m, hm, rfl, hx, hy, rfl⟩ := hrel
    have hm3 : m = 0 ∨ m = 1 ∨ m = 2 := by omega
    rcases hm3 with rfl | rfl | rfl
    · clear hx hy
      by_cases hz : x = 0
      · have hzb : (x != 0) = false := by simpa using hz
        have HZ := Lib.hid hz
        clear hz
        go_wp2
        go_roundw
        case rel => exact ⟨1, by omega, by first | rfl | trivial, by first | exact HZ.out | (intro _; exact HZ.out), by first | trivial | (intro h; omega), by first | rfl | trivial⟩
        case measure => simp [intOf]
      · have hzb : (x != 0) = true := by simpa using hz
        have HZ : Hid (orI x y = x) := Lib.hid (if_pos hz)
        clear hz
        go_wp2
        go_ret
        exact ⟨by rw [HZ.out]; rfl, rfl⟩
    · have hx0 := hx (by omega)
      clear hx hy
      subst hx0
      by_cases hz : y = 0
      · have hzb : (y != 0) = false := by simpa using hz
        have HZ := Lib.hid hz
        clear hz
        go_wp2
        go_roundw
        case rel => exact ⟨2, by omega, by first | rfl | trivial, by first | trivial | (intro _; rfl), by first | exact HZ.out | (intro _; exact HZ.out), by first | rfl | trivial⟩
        case measure => simp [intOf]
      · have hzb : (y != 0) = true := by simpa using hz
        clear hz
        have HO : Hid (orI 0 y = y) := Lib.hid (if_neg (by simp))
        go_wp2
        go_ret
        exact ⟨by rw [HO.out]; rfl, rfl⟩
    · have hx0 := hx (by omega)
      have hy0 := hy (by omega)
      clear hx hy
      subst hx0
      subst hy0
      have HO : Hid (orI 0 0 = 0) := Lib.hid rfl
      go_wp2
      go_ret
      exact ⟨by rw [HO.out]; rfl, rfl⟩
theorem grow3 (W : World) (a b c : Obj) : (((W.alloc a).alloc b).alloc c).drew = grow (W.drewN 1) #[a, b, c] := by
  have e : ((W.alloc a).alloc b).alloc c = grow W #[a, b, c] := by rw [Go.Sort.alloc_eq_grow, Go.Sort.alloc_eq_grow, Go.Sort.alloc_eq_grow, Go.Sort.grow_grow, Go.Sort.grow_grow]; rfl
  rw [e]
  rfl
theorem cmp_deep : CmpOf 40 cmpD := ⟨enters_of Try.func40 (by kernel_rfl) rfl, fun x y W => by
  have HD : Hid (cmpD x y = orI (Lib.compareInt x.1 y.1) (Lib.compareInt x.2.2 y.2.2)) := Lib.hid rfl
  generalize cmpD x y = r at *
  go_enter Try.func40, Try.ntmps40
  go_wp2_with fail
  go_region_law (first
    | (go_simp; go_at_call 42; refine (cmp_any _ _ _).mono ?_; rintro e w1 ⟨rfl, rfl⟩)
    | (go_simp; go_at_call 41; go_loud (refine (or_any (Lib.compareInt x.1 y.1) (Lib.compareInt x.2.2 y.2.2) _ _ _ (by go_simp) (by go_simp)).mono ?_); rintro e w1 ⟨rfl, rfl⟩))
  all_goals
    go_wp2_with fail
    go_ret
    exact ⟨by rw [HD.out]; rfl, 1, _, grow3 W _ _ _⟩⟩
end Go.Proofs.Ytcfiiinlidicaaa
