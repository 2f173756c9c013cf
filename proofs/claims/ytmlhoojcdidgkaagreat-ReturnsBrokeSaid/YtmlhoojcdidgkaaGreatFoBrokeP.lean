/-
  The law 'FolioBroke': the plain part (no Go in sight).
-/
import Derived.Test.YtmlhoojcdidgkaaGreatFoLedgers
namespace Go.Proofs.YtmlhoojcdidgkaaGreat
set_option linter.unusedSimpArgs false
set_option linter.unusedVariables false
set_option maxHeartbeats 1000000
def balA (a : Int) (es : List Entry) : Int := bal (fun x => x == a) es 366
inductive BrokeS (es es' : List Entry) (er cc : Int) : Prop
  | full (h : 1000000000 < balA (200 + cc) es) (e : er = 3) (s : es' = es) : BrokeS es es' er cc
  | done (h : balA (200 + cc) es ≤ 1000000000) (e : er = 0) (hs : balA (200 + cc) es' = min (balA (200 + cc) es) 0) (ha : balA (800 + cc) es' - balA (800 + cc) es = max (balA (200 + cc) es) 0) (hk : ∀ k : Int, (k = 3 ∨ k = 4 ∨ k = 5 ∨ k = 6 ∨ k = 7 ∨ k = 9) → bal (ofKind k) es' 366 = bal (ofKind k) es 366) : BrokeS es es' er cc
theorem bal_mvL (p : Int → Bool) (frm tgt cents ref : Int) : bal p (mvL 366 frm tgt cents ref) 366 = if 0 < cents then (if p tgt = true then cents else 0) - (if p frm = true then cents else 0) else 0 := by
  unfold mvL
  split
  · simp [bal, upto, mvs, mv]
  · simp [bal, upto, mvs]
theorem broke_run {V : Env} {bills : List Bill} (l : List Deed) {cc : Int} (hV : EnvOk V) (hb : billsOk bills = true) (c0 : 1 ≤ cc) (c1 : cc ≤ 29) :
    ∃ er, (runAll V bills (l ++ [⟨9, 366, cc, 0⟩])).2 = (runAll V bills l).2 ++ [er] ∧ BrokeS (runAll V bills l).1.es (runAll V bills (l ++ [⟨9, 366, cc, 0⟩])).1.es er cc := by
  have hO := (run_ok hV hb l).1
  rw [runAll_snoc]
  generalize runAll V bills l = s at hO ⊢
  obtain ⟨c, errs⟩ := s
  have hO : CrsOk c l.length := hO
  have hd := hO.day
  have hup : upto c.es 366 = c.es := List.filter_eq_self.2 fun e he => by
    have := (hO.es e he).2
    simp
    omega
  have hsum : sumE (200 + cc) (fun _ => true) c.es = balA (200 + cc) c.es := by
    rw [sumE_mvs fun e he => (hO.es e he).1]
    unfold balA bal
    rw [hup, List.filter_eq_self.2 (fun _ _ => rfl)]
  have hf : formedD c.day ⟨9, 366, cc, 0⟩ = true := formed_iff.2 ⟨by simp, by simp only; omega, by simp, fun _ => ⟨c0, c1⟩⟩
  unfold runD
  simp only
  rw [if_pos hf]
  unfold stepD brokeD
  simp only [if_true]
  rw [hsum]
  by_cases h : 1000000000 < balA (200 + cc) c.es
  · rw [if_pos h]
    exact ⟨3, rfl, .full h rfl rfl⟩
  · rw [if_neg h]
    refine ⟨0, rfl, .done (by omega) rfl ?_ ?_ ?_⟩
    · show balA (200 + cc) (mvE 366 (200 + cc) (800 + cc) (balA (200 + cc) c.es) 0 c.es) = _
      rw [mvE_eq]
      generalize hH : balA (200 + cc) c.es = H
      unfold balA at hH ⊢
      rw [bal_append, bal_mvL, hH]
      have e1 : (800 + cc == 200 + cc) = false := by rw [beq_eq_false_iff_ne]; omega
      simp only [e1, beq_self_eq_true, if_true]
      simp
      split <;> omega
    · show balA (800 + cc) (mvE 366 (200 + cc) (800 + cc) (balA (200 + cc) c.es) 0 c.es) - _ = _
      rw [mvE_eq]
      generalize balA (200 + cc) c.es = H
      unfold balA
      rw [bal_append, bal_mvL]
      have e1 : (200 + cc == 800 + cc) = false := by rw [beq_eq_false_iff_ne]; omega
      simp only [e1, beq_self_eq_true, if_true]
      simp
      split <;> omega
    · intro k hk
      show bal (ofKind k) (mvE 366 (200 + cc) (800 + cc) (balA (200 + cc) c.es) 0 c.es) 366 = _
      rw [mvE_eq, bal_append, bal_mvL]
      have e1 : ofKind k (800 + cc) = false := by
        unfold ofKind
        cases hh : inB (800 + cc) (100 * k) (100 * k + 99)
        · rfl
        · have := inB_iff.1 hh; omega
      have e2 : ofKind k (200 + cc) = false := by
        unfold ofKind
        cases hh : inB (200 + cc) (100 * k) (100 * k + 99)
        · rfl
        · have := inB_iff.1 hh; omega
      rw [e1, e2]
      simp
end Go.Proofs.YtmlhoojcdidgkaaGreat
