/-
  The law 'SpanMost': the walk.
-/
import Derived.Test.YtcfiiinlidicaaaSpSets
namespace Go.Proofs.Ytcfiiinlidicaaa
set_option linter.unusedSimpArgs false
set_option linter.unusedVariables false
open Go.RowKit
open Go.Sort (grow size_grow)

set_option maxHeartbeats 1000000
set_option maxRecDepth 100000
theorem law_most (l : List Spn) (A : Option Addr) (c : Nat) (n : Int) (w : World) (hs : SlSpn w A l) (hl : l.length ≤ 140737488355328) :
    Calls Try.prog 8 #[.slice A l.length c, .int .i64 n] w fun e w' => e = .returned (.bool true) ∧ Below w.heap.size w w' := by
  by_cases h6 : l.length ≤ 60
  · have h6' : decide ((60 : Int) < (l.length : Int)) = false := by simp; omega
    have h3000 : l.length ≤ 3000 := by omega
    cases hall : l.all Spn.ok
    · go_enter Try.func8, Try.ntmps8
      go_wp2_with fail
      refine (head02_any _).mono ?_
      rintro e w1 ⟨rfl, B1⟩
      go_wp2_with fail
      refine (most_bad l A c _ (hs.up B1) hl (by rw [hall]; simp)).mono ?_
      rintro e w2 ⟨rfl, b2⟩
      have B2 := below_up B1 B1.size b2
      go_wp2_with fail
      go_ret
      exact ⟨ret_bool (by simp), B2⟩
    · by_cases h0 : l.length = 0
      · have h0' : ((l.length : Int) == 0) = true := by rw [beq_iff_eq]; omega
        have H0 := Lib.hid h0
        clear h0
        go_enter Try.func8, Try.ntmps8
        go_wp2_with fail
        refine (head02_any _).mono ?_
        rintro e w1 ⟨rfl, B1⟩
        go_wp2_with fail
        refine (most_any l A c _ (hs.up B1) h3000 hall).mono ?_
        rintro e w2 ⟨⟨at_, many, rfl, hm⟩, b2⟩
        have B2 := below_up B1 B1.size b2
        obtain ⟨rfl, rfl⟩ : at_ = 0 ∧ many = 0 := by
          rcases hm with ⟨_, h1, h2⟩ | ⟨h, _⟩
          · exact ⟨h1, h2⟩
          · exact absurd (List.eq_nil_of_length_eq_zero H0.out) h
        go_wp2_with fail
        go_ret
        exact ⟨ret_bool (by simp), B2⟩
      · have h0' : ((l.length : Int) == 0) = false := by rw [beq_eq_false_iff_ne]; omega
        go_enter Try.func8, Try.ntmps8
        go_wp2_with fail
        refine (head02_any _).mono ?_
        rintro e w1 ⟨rfl, B1⟩
        go_wp2_with fail
        refine (most_any l A c _ (hs.up B1) h3000 hall).mono ?_
        rintro e w2 ⟨⟨at_, many, rfl, hm⟩, b2⟩
        have B2 := below_up B1 B1.size b2
        obtain ⟨m1, m2, m3⟩ : 1 ≤ many ∧ deep l at_ = many ∧ ∀ n, deep l n ≤ many ∧ (deep l n = many → at_ ≤ n) := by
          rcases hm with ⟨h, _⟩ | ⟨_, h⟩
          · exact absurd (by rw [h]; rfl) h0
          · exact h
        obtain ⟨m4, m5⟩ := m3 n
        clear m3
        go_wp2_with fail
        refine (deep_any l A c n _ (hs.up B2) hl).mono ?_
        rintro e w3 ⟨rfl, b3⟩
        have B3 := below_up B2 B2.size b3
        go_wp2_with fail
        refine (deep_any l A c at_ _ (hs.up B3) hl).mono ?_
        rintro e w4 ⟨rfl, b4⟩
        have B4 := below_up B3 B3.size b4
        rw [m2]
        generalize deep l n = k at *
        by_cases hk : k < many
        · go_wp2_with fail
          go_ret
          exact ⟨ret_bool (by first | (simp; done) | (simp; omega)), B4⟩
        · have hn : at_ ≤ n := m5 (by omega)
          go_wp2_with fail
          go_ret
          exact ⟨ret_bool (by first | (simp; done) | (simp; omega)), B4⟩
  · have h6' : decide ((60 : Int) < (l.length : Int)) = true := by simp; omega
    go_enter Try.func8, Try.ntmps8
    go_wp2_with fail
    refine (head02_any _).mono ?_
    rintro e w1 ⟨rfl, B1⟩
    go_wp2_with fail
    go_ret
    exact ⟨ret_bool (by simp), B1⟩
end Go.Proofs.Ytcfiiinlidicaaa
