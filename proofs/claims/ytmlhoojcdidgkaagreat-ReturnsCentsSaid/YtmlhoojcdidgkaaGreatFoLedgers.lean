/-
  The law 'FolioLedgers': the walk.
-/
import Derived.Test.YtmlhoojcdidgkaaGreatM28
import Derived.Test.YtmlhoojcdidgkaaGreatM15
namespace Go.Proofs.YtmlhoojcdidgkaaGreat
set_option linter.unusedSimpArgs false
set_option linter.unusedVariables false
open Go.RowKit
open Go.Sort (grow size_grow)


set_option maxHeartbeats 4000000
set_option maxRecDepth 100000
theorem run_led {V : Env} {bills : List Bill} {l : List Deed} (hok : runOk V bills = true) (hl : l.length ≤ 500) : ledOk (runAll V bills l).1.es = true := by
  obtain ⟨hV, hb, _, _⟩ := runOk_iff.1 hok
  have h := (run_ok hV hb l).1
  exact ledOk_iff.2 ⟨by have := h.len; omega, fun e he => (h.es e he).1, h.rises⟩
def upK (l : List Entry) (day : Int) (k : Nat) : Int := bal (fun a => inB a 100 (100 * (k : Int) - 1)) l day
theorem upK_one (l : List Entry) (day : Int) : upK l day 1 = 0 := bal_none (fun a => inB_f (by omega)) l day
theorem upK_next (l : List Entry) (day : Int) {k : Nat} (h : 1 ≤ k) : upK l day (k + 1) = upK l day k + bal (ofKind k) l day := by
  have := bal_next (lo := 100) (mid := 100 * (k : Int) - 1) (hi := 100 * ((k + 1 : Nat) : Int) - 1) (by omega) (by omega) l day
  unfold upK
  rw [this]
  congr 2
  funext a
  unfold ofKind
  congr 1 <;> omega
theorem upK_ten {l : List Entry} (h : ledOk l = true) (day : Int) : upK l day 10 = 0 := bal_all (fun a h1 h2 => inB_t h1 (by omega)) (ledOk_iff.1 h).2.1 day
end Go.Proofs.YtmlhoojcdidgkaaGreat
