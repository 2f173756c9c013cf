/-
  The laws of package commission: their arguments.
-/
import Derived.Test.YthnncojbckifnaaFrame
import Derived.Test.YthnncojbckifnaaTaxArgs
import Derived.Test.YthnncojbckifnaaCom2
namespace Go.Proofs.Ythnncojbckifnaa
set_option linter.unusedSimpArgs false
set_option linter.unusedVariables false
open Go.ChangeShapes Go.WideShapes Go.ChangeAt Go.RowKit Go.Deep
set_option maxRecDepth 100000
theorem dec_billC (cs : List Value) (h : cs.length = 9) (hc : ∀ (i : Nat) (c : Value), cs[i]? = some c → isI64 c) : ∃ b : Bill, cs = b.cs := by
  match cs, h with
  | [a, b, c, d, e, f, g, x, y], _ =>
    obtain ⟨a, rfl, _⟩ := hc 0 _ rfl
    obtain ⟨b, rfl, _⟩ := hc 1 _ rfl
    obtain ⟨c, rfl, _⟩ := hc 2 _ rfl
    obtain ⟨d, rfl, _⟩ := hc 3 _ rfl
    obtain ⟨e, rfl, _⟩ := hc 4 _ rfl
    obtain ⟨f, rfl, _⟩ := hc 5 _ rfl
    obtain ⟨g, rfl, _⟩ := hc 6 _ rfl
    obtain ⟨x, rfl, _⟩ := hc 7 _ rfl
    obtain ⟨y, rfl, _⟩ := hc 8 _ rfl
    exact ⟨⟨a, b, c, d, e, f, g, x, y⟩, rfl⟩
theorem dec_rat (cs : List Value) (h : cs.length = 2) (hc : ∀ (i : Nat) (c : Value), cs[i]? = some c → isI64 c) : ∃ t : Int × Int, Value.agg cs.toArray = .agg #[.int .i64 t.1, .int .i64 t.2] := by
  match cs, h with
  | [a, b], _ =>
    obtain ⟨a, rfl, _⟩ := hc 0 _ rfl
    obtain ⟨b, rfl, _⟩ := hc 1 _ rfl
    exact ⟨(a, b), rfl⟩
section
variable {H : Type} {enc : TypeId × Value → H} {w : World} {r : Reach} {b0 : Nat} {v : Value} {d : DataW H} {p : List MemPlace}
theorem arg_rat (hv : Value.okWide Try.prog w r b0 43 v) (h : DataW.Trod enc Try.prog w 0 (fun _ => true) true 43 v d p) : ∃ t : Int × Int, v = .agg #[.int .i64 t.1, .int .i64 t.2] := by
  obtain ⟨cs, rfl, hsz, hc⟩ := open_ints (n := 4) Try.underlying43 (by kernel_rfl) hv h
  obtain ⟨l⟩ := cs
  exact dec_rat l (hsz.trans (by kernel_rfl)) (fun i c hi => hc i c (by simpa using hi))
theorem arg_bills (hv : Value.okWide Try.prog w r b0 44 v) (h : DataW.Trod enc Try.prog w 0 (fun _ => true) true 44 v d p) : ∃ (A : Option Addr) (l : List Bill) (c : Nat), v = .slice A l.length c ∧ SlBill w A l ∧ l.length ≤ maxLen :=
  open_slice_ints (n := 4) (size := 9) (code := Bill.cs) Try.underlying44 (by kernel_rfl) (by kernel_rfl) (by decide) dec_billC hv h
end
end Go.Proofs.Ythnncojbckifnaa
