/-
  The law 'LedgerDays': the walk.
-/
import Derived.Test.YthnncojbckifnaaLedPosts
namespace Go.Proofs.Ythnncojbckifnaa
set_option linter.unusedSimpArgs false
set_option linter.unusedVariables false
open Go.RowKit
open Go.Sort (grow size_grow)

set_option maxHeartbeats 4000000
set_option maxRecDepth 100000
theorem ledOk_sub {l m : List Entry} (h : ledOk l = true) (hm : m.Sublist l) : ledOk m = true := by
  obtain ⟨h1, h2, h3⟩ := ledOk_iff.1 h
  have := hm.length_le
  exact ledOk_iff.2 ⟨by omega, fun e he => h2 e (hm.subset he), h3.sublist hm⟩
theorem upto_sub (l : List Entry) (d : Int) : (upto l d).Sublist l := List.filter_sublist
theorem bal_upto {p : Int → Bool} {l : List Entry} {d : Int} (h : ledOk l = true) : bal p (upto l d) 366 = bal p l d := by
  unfold bal
  congr 1
  unfold upto
  rw [List.filter_filter]
  refine List.filter_congr fun e he => ?_
  have := (Entry.ok_iff.1 ((ledOk_iff.1 h).2.1 e he)).1
  have h2 : decide (e.day ≤ 366) = true := by simpa using this.2
  rw [h2, Bool.true_and]
theorem upto_step {l : List Entry} {d : Int} {j : Nat} (h : j < l.length) : upto (l.take (j + 1)) d = if l[j].day ≤ d then upto (l.take j) d ++ [l[j]] else upto (l.take j) d := by
  unfold upto
  rw [List.take_succ_eq_append_getElem h, List.filter_append]
  by_cases hd : l[j].day ≤ d
  · rw [if_pos hd]; simp [hd]
  · rw [if_neg hd]; simp [hd]
open Go.ChangeShapes Go.WideShapes Go.ChangeAt Go.Deep in
theorem slice_room {H : Type} {enc : TypeId × Value → H} {P : Program} {w : World} {spare : Nat → Bool} {held : Bool} {r : Reach} {b0 : Nat} {t e : TypeId} {v : Value} {d : DataW H} {p : List MemPlace} (hs : P.underlying t = some (.slice e)) (hv : Value.okWide P w r b0 t v) (h : DataW.Trod enc P w 0 spare held t v d p) :
    ∀ (A : Option Addr) (n c : Nat), v = .slice A n c → n ≤ c ∧ (A = none → c = 0) := by
  obtain ⟨a, len, cap, rfl⟩ := okWide_slice hs hv
  obtain ⟨fuel, hf⟩ := h
  intro A n c hA
  injection hA with e1 e2 e3
  subst e1 e2 e3
  rcases open_slice hs hf with ⟨h1, _⟩ | ⟨a', len', cap', m, n', D, Pl, h1, _, hlc, hcm, hm, _, hel⟩
  · simp [Value.cells] at h1
    obtain ⟨rfl, rfl, rfl⟩ := h1
    exact ⟨Nat.le_refl _, fun _ => rfl⟩
  · simp [Value.cells] at h1
    obtain ⟨rfl, rfl, rfl⟩ := h1
    exact ⟨hlc, fun h => by cases h⟩
theorem Sl.nil_' {α : Type} {w : World} {B size : Nat} {enc : α → List Value} {A : Option Addr} : Sl w B size enc A ([] : List α) := fun h => absurd rfl h
end Go.Proofs.Ythnncojbckifnaa
