/-
  The law 'FolioLeft': the walk.
-/
import Derived.Test.YtmlhoojcdidgkaaGreatM28
import Derived.Test.YtmlhoojcdidgkaaGreatFoLedgers
import Derived.Test.YtmlhoojcdidgkaaGreatDep2
namespace Go.Proofs.YtmlhoojcdidgkaaGreat
set_option linter.unusedSimpArgs false
set_option linter.unusedVariables false
open Go.RowKit
open Go.Sort (grow size_grow)


set_option maxHeartbeats 4000000
set_option maxRecDepth 100000
/-- What the law says of one bill. -/
inductive LeftR (V : Env) (l : List Deed) (errs : List Int) (es : List Entry) (b : Bill) : Prop
  | gone (n fee : Int) (r : List Int) (d5 : didR l errs 5 b.stay = true) (h1 : allT V.ts b = (r, n, 0)) (h2 : oneR V.p V.d b = (fee, 0)) (h3 : movedR es (300 + b.place) b.stay = -b.price - fee) (h4 : movedR es (700 + b.channel) b.stay = fee) (h5 : movedR es (400 + b.place) b.stay = -n) (h6 : 0 ≤ fee ∧ fee ≤ 1000000000 ∧ 0 ≤ n ∧ n ≤ 1000000000) : LeftR V l errs es b
  | canc (d5 : didR l errs 5 b.stay = false) (d3 : didR l errs 3 b.stay = true) (h1 : movedR es (300 + b.place) b.stay ≤ 0) (h2 : -b.keep ≤ movedR es (300 + b.place) b.stay) (h4 : movedR es (700 + b.channel) b.stay = 0) (h5 : movedR es (400 + b.place) b.stay = 0) : LeftR V l errs es b
  | none_ (d5 : didR l errs 5 b.stay = false) (d3 : didR l errs 3 b.stay = false) (h3 : movedR es (300 + b.place) b.stay = 0) (h4 : movedR es (700 + b.channel) b.stay = 0) (h5 : movedR es (400 + b.place) b.stay = 0) : LeftR V l errs es b
theorem left_of {V : Env} {bills : List Bill} {l : List Deed} (hV : EnvOk V) (hb : billsOk bills = true) {m : Nat} (hm : m < bills.length) : LeftR V l (runAll V bills l).2 (runAll V bills l).1.es bills[m] := by
  have hR := run_all hV hb l
  obtain ⟨a, ha, hab⟩ := hR.at_ hm
  have hA := hR.acct a ha
  have hD := hR.did a ha
  have hO := hR.ok.ac a ha
  have hbo := hO.b
  have hone := oneR_ok hV.p hbo
  have hcm := comm_bd hV.p (Bill.ok_iff.1 hbo).2.2.2.2.2.2.1.1
  have hpr := (Bill.ok_iff.1 hbo).2.2.2.2.2.2.1
  obtain ⟨dl, dc, dw⟩ := hD
  obtain ⟨pos, pre, left, canc, walk⟩ := hA
  rw [← hab]
  have hst := hO.st
  by_cases h3 : a.st = 3
  · obtain ⟨n, c, l1, l2, l3, l4, _, _⟩ := left h3
    obtain ⟨r, hr⟩ := comes_all l1
    have hbd := comes_bd hbo l1
    have hf : feeA V a.b = comm V.p V.d a.b.price := by unfold feeA; rw [hone]
    rw [hf] at l2 l3
    exact .gone n _ r (by rw [dl, decide_eq_true h3]) hr hone l2 l3 l4 (by omega)
  · by_cases h4 : a.st = 4
    · obtain ⟨_, c2, c3, c4, c5⟩ := canc h4
      exact .canc (by rw [dl, decide_eq_false h3]) (by rw [dc, decide_eq_true h4]) c2 c3 c4 c5
    · have hz : movedR (runAll V bills l).1.es (300 + a.b.place) a.b.stay = 0 ∧ movedR (runAll V bills l).1.es (700 + a.b.channel) a.b.stay = 0 ∧ movedR (runAll V bills l).1.es (400 + a.b.place) a.b.stay = 0 := by
        by_cases h5 : a.st = 5
        · exact (walk h5).2
        · obtain ⟨_, _, _, _, _, p6, p7, p8⟩ := pre (by omega)
          exact ⟨p6, p7, p8⟩
      exact .none_ (by rw [dl, decide_eq_false h3]) (by rw [dc, decide_eq_false h4]) hz.1 hz.2.1 hz.2.2
end Go.Proofs.YtmlhoojcdidgkaaGreat
