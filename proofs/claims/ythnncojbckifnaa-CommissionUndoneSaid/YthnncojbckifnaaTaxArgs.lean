/-
  The laws of package tax: their arguments; plain words on rounding.
-/
import Derived.Test.YthnncojbckifnaaFrame
import Derived.Test.YthnncojbckifnaaTaxHead
namespace Go.Proofs.Ythnncojbckifnaa
set_option linter.unusedSimpArgs false
set_option linter.unusedVariables false
open Go.ChangeShapes Go.WideShapes Go.ChangeAt Go.RowKit Go.Deep
set_option maxRecDepth 100000

theorem dec_tax (cs : List Value) (h : cs.length = 7) (hc : ∀ (i : Nat) (c : Value), cs[i]? = some c → isI64 c) : ∃ t : Tax, cs = t.cs := by
  match cs, h with
  | [a, b, c, d, e, f, g], _ =>
    obtain ⟨a, rfl, _⟩ := hc 0 _ rfl
    obtain ⟨b, rfl, _⟩ := hc 1 _ rfl
    obtain ⟨c, rfl, _⟩ := hc 2 _ rfl
    obtain ⟨d, rfl, _⟩ := hc 3 _ rfl
    obtain ⟨e, rfl, _⟩ := hc 4 _ rfl
    obtain ⟨f, rfl, _⟩ := hc 5 _ rfl
    obtain ⟨g, rfl, _⟩ := hc 6 _ rfl
    exact ⟨⟨a, b, c, d, e, f, g⟩, rfl⟩
theorem dec_bill (cs : List Value) (h : cs.length = 9) (hc : ∀ (i : Nat) (c : Value), cs[i]? = some c → isI64 c) : ∃ b : Bill, Value.agg cs.toArray = b.v := by
  match cs, h with
  | [a, b, c, d, e, f, g, x, y], _ =>
    obtain ⟨a, rfl, _⟩ := hc 0 _ rfl
    obtain ⟨b, rfl, _⟩ := hc 1 _ rfl
    obtain ⟨c, rfl, _⟩ := hc 2 _ rfl
    obtain ⟨d, rfl, _⟩ := hc 3 _ rfl
    obtain ⟨e, rfl, _⟩ := hc 4 _ rfl
    obtain ⟨f, rfl, _⟩ := hc 5 _ rfl
    obtain ⟨g, rfl, _⟩ := hc 6 _ rfl
    obtain ⟨x, rfl, _⟩ := hc 7 _ rfl
    obtain ⟨y, rfl, _⟩ := hc 8 _ rfl
    exact ⟨⟨a, b, c, d, e, f, g, x, y⟩, rfl⟩
section
variable {H : Type} {enc : TypeId × Value → H} {w : World} {r : Reach} {b0 : Nat} {v : Value} {d : DataW H} {p : List MemPlace}
theorem arg_tax (hv : Value.okWide Try.prog w r b0 125 v) (h : DataW.Trod enc Try.prog w 0 (fun _ => true) true 125 v d p) : ∃ t : Tax, v = t.v := by
  obtain ⟨cs, rfl, hsz, hc⟩ := open_ints (n := 4) Try.underlying125 (by kernel_rfl) hv h
  obtain ⟨l⟩ := cs
  obtain ⟨t, ht⟩ := dec_tax l (hsz.trans (by kernel_rfl)) (fun i c hi => hc i c (by simpa using hi))
  exact ⟨t, by rw [ht]; rfl⟩
theorem arg_bill (hv : Value.okWide Try.prog w r b0 25 v) (h : DataW.Trod enc Try.prog w 0 (fun _ => true) true 25 v d p) : ∃ b : Bill, v = b.v := by
  obtain ⟨cs, rfl, hsz, hc⟩ := open_ints (n := 4) Try.underlying25 (by kernel_rfl) hv h
  obtain ⟨l⟩ := cs
  exact dec_bill l (hsz.trans (by kernel_rfl)) (fun i c hi => hc i c (by simpa using hi))
theorem arg_taxes (hv : Value.okWide Try.prog w r b0 115 v) (h : DataW.Trod enc Try.prog w 0 (fun _ => true) true 115 v d p) : ∃ (A : Option Addr) (l : List Tax) (c : Nat), v = .slice A l.length c ∧ SlTax w A l ∧ l.length ≤ maxLen :=
  open_slice_ints (n := 4) (size := 7) (code := Tax.cs) Try.underlying115 (by kernel_rfl) (by kernel_rfl) (by decide) dec_tax hv h
end

theorem one_any' {t : Tax} {b : Bill} {m e : Int} (h : one t b = (m, e)) (w : World) : Calls Try.prog 109 #[t.v, b.v] w fun x w' => x = .returned (.tuple #[.int .i64 m, .int .i64 e]) ∧ Below w.heap.size w w' := by
  have := one_any t b w
  rwa [h] at this
/-- What one tax of a bill may be: refused; far; too great; the rounded number. -/
theorem one_cases (t : Tax) (b : Bill) : one t b = (0, 1) ∨ (t.ok = true ∧ b.ok = true ∧ t.place ≠ b.place ∧ one t b = (0, 0)) ∨ one t b = (0, 3) ∨ (t.ok = true ∧ b.ok = true ∧ t.place = b.place ∧ one t b = (oneV t b, 0) ∧ 0 ≤ oneV t b ∧ oneV t b ≤ 1000000000) := by
  have hb := one_bd t b
  unfold one at hb ⊢
  split
  · exact .inl rfl
  · rename_i h1
    simp at h1
    split
    · rename_i h2
      exact .inr (.inl ⟨h1.1, h1.2, h2, rfl⟩)
    · rename_i h2
      split
      · exact .inr (.inr (.inl rfl))
      · rename_i h3
        rw [if_neg (by simp [h1]), if_neg h2, if_neg h3] at hb
        exact .inr (.inr (.inr ⟨h1.1, h1.2, by simpa using h2, rfl, hb⟩))
/-- Rounding, read off the remainder. -/
theorem rnd_spec (n way : Int) {d : Int} (hd : 1 ≤ d) : ((way = 1 → rnd n d way * d - n ≤ 0 ∧ -d < rnd n d way * d - n) ∧ (way = 2 → 0 ≤ rnd n d way * d - n ∧ rnd n d way * d - n < d)) ∧
    (way = 3 → 2 * (rnd n d way * d - n) ≤ d ∧ -d ≤ 2 * (rnd n d way * d - n) ∧ ((2 * (rnd n d way * d - n) ≠ d ∧ 2 * (rnd n d way * d - n) ≠ -d) ∨ rnd n d way % 2 = 0)) := by
  have h1 := Int.emod_add_mul_ediv n d
  have h2 := Int.emod_nonneg n (show d ≠ 0 by omega)
  have h3 := Int.emod_lt_of_pos n (show 0 < d by omega)
  have e1 : (n / d + 1) * d = d * (n / d) + d := by rw [Int.add_mul, Int.mul_comm]; omega
  have e2 : n / d * d = d * (n / d) := Int.mul_comm _ _
  unfold rnd
  refine ⟨⟨fun h => ?_, fun h => ?_⟩, fun h => ?_⟩
  all_goals subst h
  · rw [if_neg (by simp)]
    omega
  · by_cases h0 : 0 < n % d
    · rw [if_pos (.inl ⟨rfl, h0⟩)]
      omega
    · rw [if_neg (by simp [h0])]
      omega
  · by_cases h0 : d < 2 * (n % d)
    · rw [if_pos (.inr ⟨rfl, .inl h0⟩)]
      omega
    · by_cases h4 : 2 * (n % d) = d
      · by_cases h5 : (n / d) % 2 = 0
        · rw [if_neg (by simp [h5]; omega)]
          omega
        · rw [if_pos (.inr ⟨rfl, .inr ⟨h4, h5⟩⟩)]
          omega
      · rw [if_neg (by simp [h4]; omega)]
        omega
end Go.Proofs.Ythnncojbckifnaa
