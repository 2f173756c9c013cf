/-
  The law 'ReturnsBroke': the plain part (no Go in sight).
-/
import Derived.Test.YtmlhoojcdidgkaaGreatRetQ
import Derived.Test.YtmlhoojcdidgkaaGreatFoBrokeP
import Derived.Test.YtmlhoojcdidgkaaGreatRet9
namespace Go.Proofs.YtmlhoojcdidgkaaGreat
set_option linter.unusedSimpArgs false
set_option linter.unusedVariables false
set_option maxHeartbeats 1000000
theorem left_broke {bills : List Bill} {l : List Deed} {errs : List Int} (h : errs.length = l.length) (day c n er : Int) : leftF bills (l ++ [⟨9, day, c, n⟩]) (errs ++ [er]) = leftF bills l errs := by
  unfold leftF
  refine List.filter_congr fun b _ => ?_
  exact didR_broke h day c n er 5 b.stay (by decide)
/-- What the law says of a channel that breaks. -/
theorem rebroke_run {V : Env} {bills : List Bill} {l : List Deed} (hok : runOk V bills = true) (hl : l.length ≤ 60) {cc : Int} (c0 : 1 ≤ cc) (c1 : cc ≤ 29) :
    ∃ er, (runAll V bills (l ++ [⟨9, 366, cc, 0⟩])).2 = (runAll V bills l).2 ++ [er] ∧
      ((er ≠ 0 ∧ (runAll V bills (l ++ [⟨9, 366, cc, 0⟩])).1.es = (runAll V bills l).1.es) ∨
       (er = 0 ∧ ∃ a n, brokeR (runAll V bills l).1.es cc = (a, 0) ∧ brokeR (runAll V bills (l ++ [⟨9, 366, cc, 0⟩])).1.es cc = (a, 0) ∧ balR (runAll V bills (l ++ [⟨9, 366, cc, 0⟩])).1.es (200 + cc) 366 = (n, 0) ∧ n ≤ 0 ∧
        agreeR (runAll V bills (l ++ [⟨9, 366, cc, 0⟩])).1.es (leftF bills l (runAll V bills l).2) V.ts V.p V.d = agreeR (runAll V bills l).1.es (leftF bills l (runAll V bills l).2) V.ts V.p V.d)) := by
  obtain ⟨hV, hb, hbl, hts⟩ := runOk_iff.1 hok
  obtain ⟨er, her, hS⟩ := broke_run (V := V) (bills := bills) l hV hb c0 c1
  have hled := run_led hok (l := l) (by omega)
  have hled2 := run_led hok (l := l ++ [⟨9, 366, cc, 0⟩]) (by simp; omega)
  have hag := agree_run hok (l := l) (by omega)
  have hag2 := agree_run hok (l := l ++ [⟨9, 366, cc, 0⟩]) (by simp; omega)
  rw [her, left_broke (run_len l)] at hag2
  refine ⟨er, her, ?_⟩
  rcases hS with ⟨hh, rfl, hs⟩ | ⟨hh, rfl, hsx, hax, hkx⟩
  · exact .inl ⟨by decide, hs⟩
  · refine .inr ⟨rfl, balA (800 + cc) (runAll V bills l).1.es + max 0 (balA (200 + cc) (runAll V bills l).1.es), min (balA (200 + cc) (runAll V bills l).1.es) 0, ?_, ?_, ?_, by omega, by rw [hag2, hag]⟩
    · unfold brokeR
      rw [hled, inB_iff.2 ⟨c0, c1⟩]
      rfl
    · unfold brokeR
      rw [hled2, inB_iff.2 ⟨c0, c1⟩]
      show (balA (800 + cc) _ + max 0 (balA (200 + cc) _), (0 : Int)) = _
      rw [hsx]
      congr 1
      omega
    · rw [balR_ok hled2 (by omega) (by omega)]
      show (balA (200 + cc) _, (0 : Int)) = _
      rw [hsx]
end Go.Proofs.YtmlhoojcdidgkaaGreat
