/-
  Package returns: three questions, one after the other; the sums that are moved, by accounts and stays; the third question.
-/
import Derived.Test.YtmlhoojcdidgkaaGreatRet2
namespace Go.Proofs.YtmlhoojcdidgkaaGreat
set_option linter.unusedSimpArgs false
set_option linter.unusedVariables false
open Go.RowKit Go.Maps
open Go.Sort (grow size_grow)


set_option maxHeartbeats 4000000
set_option maxRecDepth 100000
def everyR (r1 r2 r3 : Bool × Int) : Bool × Int := if r1.2 ≠ 0 then (false, r1.2) else if r2.2 ≠ 0 then (false, r2.2) else if r3.2 ≠ 0 then (false, r3.2) else (r1.1 && r2.1 && r3.1, 0)
theorem every_any (x1 x2 x3 y1 y2 y3 z1 z2 z3 : Nat) (r1 r2 r3 : Bool × Int) (B : Nat) (w : World) (hB : B < w.heap.size)
    (c0 : w.cell? ⟨B, 0, none⟩ = some (.func (.func 38) #[] #[.pointer (some ⟨x1, 0, none⟩), .pointer (some ⟨x2, 0, none⟩), .pointer (some ⟨x3, 0, none⟩)]))
    (c1 : w.cell? ⟨B, 1, none⟩ = some (.func (.func 40) #[] #[.pointer (some ⟨y1, 0, none⟩), .pointer (some ⟨y2, 0, none⟩), .pointer (some ⟨y3, 0, none⟩)]))
    (c2 : w.cell? ⟨B, 2, none⟩ = some (.func (.func 43) #[] #[.pointer (some ⟨z1, 0, none⟩), .pointer (some ⟨z2, 0, none⟩), .pointer (some ⟨z3, 0, none⟩)]))
    (H1 : Hid (∀ W, Below w.heap.size w W → Calls Tryz.prog 38 #[.pointer (some ⟨x1, 0, none⟩), .pointer (some ⟨x2, 0, none⟩), .pointer (some ⟨x3, 0, none⟩)] W fun e W' => e = .returned (.tuple #[.bool r1.1, .int .i64 r1.2]) ∧ Below W.heap.size W W'))
    (H2 : Hid (∀ W, Below w.heap.size w W → Calls Tryz.prog 40 #[.pointer (some ⟨y1, 0, none⟩), .pointer (some ⟨y2, 0, none⟩), .pointer (some ⟨y3, 0, none⟩)] W fun e W' => e = .returned (.tuple #[.bool r2.1, .int .i64 r2.2]) ∧ Below W.heap.size W W'))
    (H3 : Hid (∀ W, Below w.heap.size w W → Calls Tryz.prog 43 #[.pointer (some ⟨z1, 0, none⟩), .pointer (some ⟨z2, 0, none⟩), .pointer (some ⟨z3, 0, none⟩)] W fun e W' => e = .returned (.tuple #[.bool r3.1, .int .i64 r3.2]) ∧ Below W.heap.size W W')) :
    Calls Tryz.prog 37 #[.slice (some ⟨B, 0, none⟩) 3 3] w fun e w' => e = .returned (.tuple #[.bool (everyR r1 r2 r3).1, .int .i64 (everyR r1 r2 r3).2]) ∧ Below w.heap.size w w' := by
  obtain ⟨p1, e1⟩ := r1
  obtain ⟨p2, e2⟩ := r2
  obtain ⟨p3, e3⟩ := r3
  simp only at H1 H2 H3
  have HR : Hid (everyR (p1, e1) (p2, e2) (p3, e3) = if e1 ≠ 0 then (false, e1) else if e2 ≠ 0 then (false, e2) else if e3 ≠ 0 then (false, e3) else (p1 && p2 && p3, 0)) := Lib.hid rfl
  generalize everyR (p1, e1) (p2, e2) (p3, e3) = rr at *
  go_enter Tryz.func37, Tryz.ntmps37
  go_wp2_with fail
  go_loopw [4, 11] (fun up i wr => Below w.heap.size w wr ∧ ((i = .int .i64 0 ∧ up = .bool true) ∨ (i = .int .i64 1 ∧ up = .bool p1 ∧ e1 = 0) ∨ (i = .int .i64 2 ∧ up = .bool (p1 && p2) ∧ e1 = 0 ∧ e2 = 0) ∨ (i = .int .i64 3 ∧ up = .bool (p1 && p2 && p3) ∧ e1 = 0 ∧ e2 = 0 ∧ e3 = 0))) (fun _ i _ => 3 - (intOf i).toNat)
  case atStart => exact ⟨Below.refl _ _, .inl ⟨rfl, rfl⟩⟩
  case round =>
    obtain ⟨hbw, hi⟩ := hrel
    have hbz := hbw.size
    rcases hi with ⟨rfl, rfl⟩ | ⟨rfl, rfl, h1⟩ | ⟨rfl, rfl, h1, h2⟩ | ⟨rfl, rfl, h1, h2, h3⟩
    · have E1 : Hid True := Lib.hid trivial
      have E2 : Hid True := Lib.hid trivial
      have g := (hbw.cell (p := ⟨B, 0, none⟩) hB).trans c0
      by_cases he : e1 = 0
      · have HE := Lib.hid he
        clear he
        go_wp2_with fail
        refine (H1.out wr hbw).mono ?_
        rintro e w1 ⟨rfl, b1⟩
        rw [HE.out]
        cases p1
        all_goals
          go_wp2_with fail
          go_roundw
          case rel => exact ⟨below_up hbw hbz b1, by simp [HE.out, E1.out, E2.out]⟩
          case measure => simp [intOf]
      · have heb : (e1 != 0) = true := by simpa using he
        have HE := Lib.hid he
        clear he
        go_wp2_with fail
        refine (H1.out wr hbw).mono ?_
        rintro e w1 ⟨rfl, b1⟩
        go_wp2_with fail
        go_ret2
        exact ⟨by rw [HR.out]; simp [HE.out, E1.out, E2.out], below_up hbw hbz b1⟩
    · have E1 := Lib.hid h1
      have E2 : Hid True := Lib.hid trivial
      clear h1
      cases hp1 : p1
      · subst hp1
        have g := (hbw.cell (p := ⟨B, 1, none⟩) hB).trans c1
        by_cases he : e2 = 0
        · have HE := Lib.hid he
          clear he
          go_wp2_with fail
          refine (H2.out wr hbw).mono ?_
          rintro e w1 ⟨rfl, b1⟩
          rw [HE.out]
          cases p2
          all_goals
            go_wp2_with fail
            go_roundw
            case rel => exact ⟨below_up hbw hbz b1, by simp [HE.out, E1.out, E2.out]⟩
            case measure => simp [intOf]
        · have heb : (e2 != 0) = true := by simpa using he
          have HE := Lib.hid he
          clear he
          go_wp2_with fail
          refine (H2.out wr hbw).mono ?_
          rintro e w1 ⟨rfl, b1⟩
          go_wp2_with fail
          go_ret2
          exact ⟨by rw [HR.out]; simp [HE.out, E1.out, E2.out], below_up hbw hbz b1⟩
      · subst hp1
        have g := (hbw.cell (p := ⟨B, 1, none⟩) hB).trans c1
        by_cases he : e2 = 0
        · have HE := Lib.hid he
          clear he
          go_wp2_with fail
          refine (H2.out wr hbw).mono ?_
          rintro e w1 ⟨rfl, b1⟩
          rw [HE.out]
          cases p2
          all_goals
            go_wp2_with fail
            go_roundw
            case rel => exact ⟨below_up hbw hbz b1, by simp [HE.out, E1.out, E2.out]⟩
            case measure => simp [intOf]
        · have heb : (e2 != 0) = true := by simpa using he
          have HE := Lib.hid he
          clear he
          go_wp2_with fail
          refine (H2.out wr hbw).mono ?_
          rintro e w1 ⟨rfl, b1⟩
          go_wp2_with fail
          go_ret2
          exact ⟨by rw [HR.out]; simp [HE.out, E1.out, E2.out], below_up hbw hbz b1⟩
    · have E1 := Lib.hid h1
      have E2 := Lib.hid h2
      clear h1 h2
      cases hp1 : (p1 && p2)
      · have HP := Lib.hid hp1
        have g := (hbw.cell (p := ⟨B, 2, none⟩) hB).trans c2
        by_cases he : e3 = 0
        · have HE := Lib.hid he
          clear he
          go_wp2_with fail
          refine (H3.out wr hbw).mono ?_
          rintro e w1 ⟨rfl, b1⟩
          rw [HE.out]
          cases p3
          all_goals
            go_wp2_with fail
            go_roundw
            case rel => exact ⟨below_up hbw hbz b1, by simp [HE.out, E1.out, E2.out]⟩
            case measure => simp [intOf]
        · have heb : (e3 != 0) = true := by simpa using he
          have HE := Lib.hid he
          clear he
          go_wp2_with fail
          refine (H3.out wr hbw).mono ?_
          rintro e w1 ⟨rfl, b1⟩
          go_wp2_with fail
          go_ret2
          exact ⟨by rw [HR.out]; simp [HE.out, E1.out, E2.out], below_up hbw hbz b1⟩
      · have HP := Lib.hid hp1
        have g := (hbw.cell (p := ⟨B, 2, none⟩) hB).trans c2
        by_cases he : e3 = 0
        · have HE := Lib.hid he
          clear he
          go_wp2_with fail
          refine (H3.out wr hbw).mono ?_
          rintro e w1 ⟨rfl, b1⟩
          rw [HE.out]
          cases p3
          all_goals
            go_wp2_with fail
            go_roundw
            case rel => exact ⟨below_up hbw hbz b1, by simp [HE.out, E1.out, E2.out]⟩
            case measure => simp [intOf]
        · have heb : (e3 != 0) = true := by simpa using he
          have HE := Lib.hid he
          clear he
          go_wp2_with fail
          refine (H3.out wr hbw).mono ?_
          rintro e w1 ⟨rfl, b1⟩
          go_wp2_with fail
          go_ret2
          exact ⟨by rw [HR.out]; simp [HE.out, E1.out, E2.out], below_up hbw hbz b1⟩
    · have HE := Lib.hid (And.intro h1 (And.intro h2 h3))
      clear h1 h2 h3
      go_wp2_with fail
      go_ret2
      exact ⟨by rw [HR.out]; simp [HE.out.1, HE.out.2.1, HE.out.2.2], hbw⟩
end Go.Proofs.YtmlhoojcdidgkaaGreat
