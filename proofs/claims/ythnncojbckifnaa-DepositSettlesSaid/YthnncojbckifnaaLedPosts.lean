/-
  The law 'LedgerPosts': the walk.
-/
import Derived.Test.YthnncojbckifnaaLedZero
namespace Go.Proofs.Ythnncojbckifnaa
set_option linter.unusedSimpArgs false
set_option linter.unusedVariables false
open Go.RowKit
open Go.Sort (grow size_grow)

set_option maxHeartbeats 4000000
set_option maxRecDepth 100000
theorem begun_false {l : List Entry} {day : Int} (h : begun l day = false) (hr : Rises l) : ∀ e ∈ l, e.day ≤ day := by
  intro e he
  obtain ⟨j, hj, rfl⟩ := List.getElem_of_mem he
  rw [begun_at (by omega), decide_eq_false_iff_not] at h
  have h1 : l[j].day ≤ l[l.length - 1].day := by
    rcases Nat.lt_or_ge j (l.length - 1) with h2 | h2
    · exact (List.pairwise_iff_getElem.1 hr) j (l.length - 1) hj (by omega) h2
    · have : j = l.length - 1 := by omega
      subst this
      exact Int.le_refl _
  omega
theorem ledOk_snoc {l : List Entry} {x : Entry} (h : ledOk l = true) (hx : x.ok = true) (hb : begun l x.day = false) (hl : l.length < 5000) : ledOk (l ++ [x]) = true := by
  obtain ⟨h1, h2, h3⟩ := ledOk_iff.1 h
  refine ledOk_iff.2 ⟨by simp; omega, fun e he => ?_, ?_⟩
  · rcases List.mem_append.1 he with he | he
    · exact h2 e he
    · simp at he
      subst he
      exact hx
  · unfold Rises
    rw [List.pairwise_append]
    refine ⟨h3, by simp, fun a ha b hb' => ?_⟩
    simp at hb'
    subst hb'
    exact begun_false hb h3 a ha
theorem bal_one (p : Int → Bool) (l : List Entry) (x : Entry) (d : Int) : bal p (l ++ [x]) d = bal p l d + if x.day ≤ d then mv p x else 0 := by
  rw [bal_append]
  congr 1
  unfold bal upto mvs
  by_cases hd : x.day ≤ d
  · rw [List.filter_cons, if_pos (by simpa using hd), if_pos hd]; simp
  · rw [List.filter_cons, if_neg (by simpa using hd), if_neg hd]; simp
end Go.Proofs.Ythnncojbckifnaa
