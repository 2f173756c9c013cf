/-
  The laws of package returns: what each of them asks first.
-/
import Derived.Test.YtmlhoojcdidgkaaGreatRet8
import Derived.Test.YtmlhoojcdidgkaaGreatM25
import Derived.Test.YtmlhoojcdidgkaaGreatM26
namespace Go.Proofs.YtmlhoojcdidgkaaGreat
set_option linter.unusedSimpArgs false
set_option linter.unusedVariables false
open Go.RowKit Go.Maps
open Go.Sort (grow size_grow)


set_option maxHeartbeats 4000000
set_option maxRecDepth 100000
theorem in26_any (n lo hi : Int) (w : World) : Calls Tryz.prog 66 #[.int .i64 n, .int .i64 lo, .int .i64 hi] w fun e w' => e = .returned (.bool (inB n lo hi)) ∧ w = w' := by
  unfold inB
  by_cases h1 : lo ≤ n
  · by_cases h2 : n ≤ hi
    · go_enter Tryz.func66, Tryz.ntmps66
      go_wp2
      go_ret
      exact ⟨ret_bool (by simp [h1, h2]), rfl⟩
    · go_enter Tryz.func66, Tryz.ntmps66
      go_wp2
      go_ret
      exact ⟨ret_bool (by simp [h1, h2]), rfl⟩
  · go_enter Tryz.func66, Tryz.ntmps66
    go_wp2
    go_ret
    exact ⟨ret_bool (by simp; omega), rfl⟩
theorem rcon_any (k : Con) (w : World) : Calls Tryz.prog 34 #[k.v] w fun e w' => e = .returned (.bool (conOk k)) ∧ Below w.heap.size w w' := by
  have hw0 : w.heap.size < (w.alloc (.cells #[.int .i64 k.fx, .int .i64 k.n, .int .i64 k.d, .int .i64 k.most] 42)).heap.size := by simp
  obtain ⟨fx, n, d, most⟩ := k
  cases hr : ratOk n d
  · have hc : conOk ⟨fx, n, d, most⟩ = false := by unfold conOk; simp [hr]
    rw [hc]
    go_enter Tryz.func34, Tryz.ntmps34
    go_wp2_with fail
    refine (rvalid_any n d _).mono ?_
    rintro e w1 ⟨rfl, b1⟩
    have c0 := (b1.cell (p := ⟨w.heap.size, 0, none⟩) hw0).trans (World.cell?_alloc_new _ _ _ _)
    have c1 := (b1.cell (p := ⟨w.heap.size, 1, none⟩) hw0).trans (World.cell?_alloc_new _ _ _ _)
    have c2 := (b1.cell (p := ⟨w.heap.size, 2, none⟩) hw0).trans (World.cell?_alloc_new _ _ _ _)
    have c3 := (b1.cell (p := ⟨w.heap.size, 3, none⟩) hw0).trans (World.cell?_alloc_new _ _ _ _)
    simp only [List.getElem?_toArray, List.getElem?_cons_zero, List.getElem?_cons_succ, List.size_toArray] at c0 c1 c2 c3
    have B1 : Below w.heap.size w w1 := below_up ((Below.refl _ w).alloc (Nat.le_refl _) _) (by simp) b1
    rw [hr]
    go_wp2_with fail
    go_ret
    exact ⟨rfl, B1⟩
  · by_cases h1 : 0 ≤ n
    · by_cases h2 : n ≤ d
      · cases h3 : inB fx 0 1000000000
        · have hc : conOk ⟨fx, n, d, most⟩ = false := by unfold conOk; simp [h3]
          rw [hc]
          go_enter Tryz.func34, Tryz.ntmps34
          go_wp2_with fail
          refine (rvalid_any n d _).mono ?_
          rintro e w1 ⟨rfl, b1⟩
          have c0 := (b1.cell (p := ⟨w.heap.size, 0, none⟩) hw0).trans (World.cell?_alloc_new _ _ _ _)
          have c1 := (b1.cell (p := ⟨w.heap.size, 1, none⟩) hw0).trans (World.cell?_alloc_new _ _ _ _)
          have c2 := (b1.cell (p := ⟨w.heap.size, 2, none⟩) hw0).trans (World.cell?_alloc_new _ _ _ _)
          have c3 := (b1.cell (p := ⟨w.heap.size, 3, none⟩) hw0).trans (World.cell?_alloc_new _ _ _ _)
          simp only [List.getElem?_toArray, List.getElem?_cons_zero, List.getElem?_cons_succ, List.size_toArray] at c0 c1 c2 c3
          have B1 : Below w.heap.size w w1 := below_up ((Below.refl _ w).alloc (Nat.le_refl _) _) (by simp) b1
          rw [hr]
          go_wp2_with fail
          refine (in26_any fx 0 1000000000 _).mono ?_
          rintro e w2 ⟨rfl, rfl⟩
          rw [h3]
          go_wp2_with fail
          go_ret
          exact ⟨rfl, B1⟩
        · have hc : conOk ⟨fx, n, d, most⟩ = inB most 0 1000 := by unfold conOk; simp [hr, h3, inB_iff.2 ⟨h1, h2⟩]
          rw [hc]
          go_enter Tryz.func34, Tryz.ntmps34
          go_wp2_with fail
          refine (rvalid_any n d _).mono ?_
          rintro e w1 ⟨rfl, b1⟩
          have c0 := (b1.cell (p := ⟨w.heap.size, 0, none⟩) hw0).trans (World.cell?_alloc_new _ _ _ _)
          have c1 := (b1.cell (p := ⟨w.heap.size, 1, none⟩) hw0).trans (World.cell?_alloc_new _ _ _ _)
          have c2 := (b1.cell (p := ⟨w.heap.size, 2, none⟩) hw0).trans (World.cell?_alloc_new _ _ _ _)
          have c3 := (b1.cell (p := ⟨w.heap.size, 3, none⟩) hw0).trans (World.cell?_alloc_new _ _ _ _)
          simp only [List.getElem?_toArray, List.getElem?_cons_zero, List.getElem?_cons_succ, List.size_toArray] at c0 c1 c2 c3
          have B1 : Below w.heap.size w w1 := below_up ((Below.refl _ w).alloc (Nat.le_refl _) _) (by simp) b1
          rw [hr]
          go_wp2_with fail
          refine (in26_any fx 0 1000000000 _).mono ?_
          rintro e w2 ⟨rfl, rfl⟩
          rw [h3]
          go_wp2_with fail
          refine (in26_any most 0 1000 _).mono ?_
          rintro e w2 ⟨rfl, rfl⟩
          go_wp2_with fail
          go_ret
          exact ⟨rfl, B1⟩
      · have hc : conOk ⟨fx, n, d, most⟩ = false := by unfold conOk; simp [show inB n 0 d = false by have := mt inB_iff.1 (show ¬ (0 ≤ n ∧ n ≤ d) by omega); simpa using this]
        rw [hc]
        go_enter Tryz.func34, Tryz.ntmps34
        go_wp2_with fail
        refine (rvalid_any n d _).mono ?_
        rintro e w1 ⟨rfl, b1⟩
        have c0 := (b1.cell (p := ⟨w.heap.size, 0, none⟩) hw0).trans (World.cell?_alloc_new _ _ _ _)
        have c1 := (b1.cell (p := ⟨w.heap.size, 1, none⟩) hw0).trans (World.cell?_alloc_new _ _ _ _)
        have c2 := (b1.cell (p := ⟨w.heap.size, 2, none⟩) hw0).trans (World.cell?_alloc_new _ _ _ _)
        have c3 := (b1.cell (p := ⟨w.heap.size, 3, none⟩) hw0).trans (World.cell?_alloc_new _ _ _ _)
        simp only [List.getElem?_toArray, List.getElem?_cons_zero, List.getElem?_cons_succ, List.size_toArray] at c0 c1 c2 c3
        have B1 : Below w.heap.size w w1 := below_up ((Below.refl _ w).alloc (Nat.le_refl _) _) (by simp) b1
        rw [hr]
        go_wp2_with fail
        refine (in26_any fx 0 1000000000 _).mono ?_
        rintro e w2 ⟨rfl, rfl⟩
        cases h3 : inB fx 0 1000000000
        all_goals
          go_wp2_with fail
          go_ret
          exact ⟨rfl, B1⟩
    · have hc : conOk ⟨fx, n, d, most⟩ = false := by unfold conOk; simp [show inB n 0 d = false by have := mt inB_iff.1 (show ¬ (0 ≤ n ∧ n ≤ d) by omega); simpa using this]
      rw [hc]
      go_enter Tryz.func34, Tryz.ntmps34
      go_wp2_with fail
      refine (rvalid_any n d _).mono ?_
      rintro e w1 ⟨rfl, b1⟩
      have c0 := (b1.cell (p := ⟨w.heap.size, 0, none⟩) hw0).trans (World.cell?_alloc_new _ _ _ _)
      have c1 := (b1.cell (p := ⟨w.heap.size, 1, none⟩) hw0).trans (World.cell?_alloc_new _ _ _ _)
      have c2 := (b1.cell (p := ⟨w.heap.size, 2, none⟩) hw0).trans (World.cell?_alloc_new _ _ _ _)
      have c3 := (b1.cell (p := ⟨w.heap.size, 3, none⟩) hw0).trans (World.cell?_alloc_new _ _ _ _)
      simp only [List.getElem?_toArray, List.getElem?_cons_zero, List.getElem?_cons_succ, List.size_toArray] at c0 c1 c2 c3
      have B1 : Below w.heap.size w w1 := below_up ((Below.refl _ w).alloc (Nat.le_refl _) _) (by simp) b1
      rw [hr]
      go_wp2_with fail
      refine (in26_any fx 0 1000000000 _).mono ?_
      rintro e w2 ⟨rfl, rfl⟩
      cases h3 : inB fx 0 1000000000
      all_goals
        go_wp2_with fail
        go_ret
        exact ⟨rfl, B1⟩
def few33 (a b c : Nat) : Bool := decide (a ≤ 30) && decide (b ≤ 60) && decide (c ≤ 200)
theorem few33_any (a b c : Nat) (A B C : Option Addr) (x y z : Nat) (w : World) :
    Calls Tryz.prog 9 #[.slice A a x, .slice B b y, .slice C c z] w fun e w' => e = .returned (.bool (few33 a b c)) ∧ w = w' := by
  unfold few33
  by_cases h1 : a ≤ 30
  · have g1 : (a : Int) ≤ 30 := by omega
    by_cases h2 : b ≤ 60
    · have g2 : (b : Int) ≤ 60 := by omega
      by_cases h3 : c ≤ 200
      · have g3 : (c : Int) ≤ 200 := by omega
        go_enter Tryz.func9, Tryz.ntmps9
        go_wp2
        go_ret
        exact ⟨ret_bool (by simp [h1, h2, h3]), rfl⟩
      · have g3 : ¬ (c : Int) ≤ 200 := by omega
        go_enter Tryz.func9, Tryz.ntmps9
        go_wp2
        go_ret
        exact ⟨ret_bool (by simp [h1, h2, h3]), rfl⟩
    · have g2 : ¬ (b : Int) ≤ 60 := by omega
      go_enter Tryz.func9, Tryz.ntmps9
      go_wp2
      go_ret
      exact ⟨ret_bool (by simp [h1, h2]), rfl⟩
  · have g1 : ¬ (a : Int) ≤ 30 := by omega
    go_enter Tryz.func9, Tryz.ntmps9
    go_wp2
    go_ret
    exact ⟨ret_bool (by simp [h1]), rfl⟩
/-- What Broke answers. -/
def brokeR (es : List Entry) (c : Int) : Int × Int := if (!ledOk es || !inB c 1 29) = true then (0, 1) else (bal (fun z => z == 800 + c) es 366 + max 0 (bal (fun z => z == 200 + c) es 366), 0)
theorem rbroke_any (es : List Entry) (E : Option Addr) (cE : Nat) (c : Int) (w : World) (he : SlEnt w E es) (hl : es.length ≤ 140737488355328) :
    Calls Tryz.prog 19 #[.slice E es.length cE, .int .i64 c] w fun e w' => e = .returned (.tuple #[.int .i64 (brokeR es c).1, .int .i64 (brokeR es c).2]) ∧ Below w.heap.size w w' := by
  cases hk : ledOk es
  · have hr : brokeR es c = (0, 1) := by unfold brokeR; rw [hk]; rfl
    rw [hr]
    go_enter Tryz.func19, Tryz.ntmps19
    go_wp2_with fail
    refine (lvalid_any es E cE _ he hl).mono ?_
    rintro e w1 ⟨rfl, b1⟩
    rw [hk]
    go_wp2_with fail
    go_ret2
    exact ⟨rfl, b1⟩
  · cases hc : inB c 1 29
    · have hr : brokeR es c = (0, 1) := by unfold brokeR; rw [hk, hc]; rfl
      have hcc : c < 1 ∨ (1 ≤ c ∧ 30 ≤ c) := by
        have := mt inB_iff.2 (by rw [hc]; simp)
        omega
      rw [hr]
      rcases hcc with hcc | ⟨hcc, hcd⟩
      all_goals
        go_enter Tryz.func19, Tryz.ntmps19
        go_wp2_with fail
        refine (lvalid_any es E cE _ he hl).mono ?_
        rintro e w1 ⟨rfl, b1⟩
        rw [hk]
        go_wp2_with fail
        go_ret2
        exact ⟨rfl, b1⟩
    · obtain ⟨c0, c1⟩ := inB_iff.1 hc
      have hr : brokeR es c = (bal (fun z => z == 800 + c) es 366 + max 0 (bal (fun z => z == 200 + c) es 366), 0) := by unfold brokeR; rw [hk, hc]; rfl
      have HR := Lib.hid hr
      have bp := bal_bd (fun z => z == 800 + c) (day := 366) hk
      have bq := bal_bd (fun z => z == 200 + c) (day := 366) hk
      have hb1 := lbalance_any es E cE (800 + c) 366
      rw [balR_ok hk (by omega) (by omega)] at hb1
      have hb2 := lbalance_any es E cE (200 + c) 366
      rw [balR_ok hk (by omega) (by omega)] at hb2
      have HB1 := Lib.hid hb1
      have HB2 := Lib.hid hb2
      clear hb1 hb2 hr
      generalize bal (fun z => z == 800 + c) es 366 = P at *
      generalize bal (fun z => z == 200 + c) es 366 = Q at *
      go_enter Tryz.func19, Tryz.ntmps19
      go_wp2_with fail
      refine (lvalid_any es E cE _ he hl).mono ?_
      rintro e w1 ⟨rfl, b1⟩
      rw [hk]
      go_wp2_with fail
      refine (HB1.out w1 (he.up b1) hl).mono ?_
      rintro e w2 ⟨rfl, b2⟩
      have B2 := below_up b1 b1.size b2
      go_wp2_with fail
      refine (HB2.out w2 (he.up B2) hl).mono ?_
      rintro e w3 ⟨rfl, b3⟩
      have B3 := below_up B2 B2.size b3
      by_cases hq : 0 ≤ Q
      · have hm : max 0 Q = Q := by omega
        go_wp2_with fail
        all_goals
          go_ret2
          refine ⟨?_, B3⟩
          rw [HR.out, hm]
          first | rfl | (simp; done) | (simp; omega)
      · have hm : max 0 Q = 0 := by omega
        go_wp2_with fail
        all_goals
          go_ret2
          refine ⟨?_, B3⟩
          rw [HR.out, hm]
          first | rfl | (simp; done) | (simp; omega)
end Go.Proofs.YtmlhoojcdidgkaaGreat
