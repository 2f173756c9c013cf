/-
  Texts, one behind the other: FoArgs.
-/
import Derived.Test.YtmlhoojcdidgkaaM24
import Derived.Test.YtmlhoojcdidgkaaM22
/-
  The laws of package folio: their arguments.
-/
namespace Go.Proofs.Ytmlhoojcdidgkaa
set_option linter.unusedSimpArgs false
set_option linter.unusedVariables false
open Go.ChangeShapes Go.WideShapes Go.ChangeAt Go.RowKit Go.Deep
set_option maxRecDepth 100000
def DeedB : Type := { x : Deed // -9223372036854775808 ≤ x.stay ∧ x.stay ≤ 9223372036854775807 }
theorem dec_deed (cs : List Value) (h : cs.length = 4) (hc : ∀ (i : Nat) (c : Value), cs[i]? = some c → isI64 c) : ∃ x : DeedB, cs = x.1.cs := by
  match cs, h with
  | [a, b, c, d], _ =>
    obtain ⟨a, rfl, _⟩ := hc 0 _ rfl
    obtain ⟨b, rfl, _⟩ := hc 1 _ rfl
    obtain ⟨c, rfl, wc⟩ := hc 2 _ rfl
    obtain ⟨d, rfl, _⟩ := hc 3 _ rfl
    have := (wf_int_iff .i64 c).1 wc
    exact ⟨⟨⟨a, b, c, d⟩, this⟩, rfl⟩
theorem dec_con (cs : List Value) (h : cs.length = 4) (hc : ∀ (i : Nat) (c : Value), cs[i]? = some c → isI64 c) : ∃ k : Con, Value.agg cs.toArray = k.v := by
  match cs, h with
  | [a, b, c, d], _ =>
    obtain ⟨a, rfl, _⟩ := hc 0 _ rfl
    obtain ⟨b, rfl, _⟩ := hc 1 _ rfl
    obtain ⟨c, rfl, _⟩ := hc 2 _ rfl
    obtain ⟨d, rfl, _⟩ := hc 3 _ rfl
    exact ⟨⟨a, b, c, d⟩, rfl⟩
section
variable {H : Type} {enc : TypeId × Value → H} {w : World} {r : Reach} {b0 : Nat} {v : Value} {d : DataW H} {p : List MemPlace}
theorem arg_con (hv : Value.okWide Try.prog w r b0 27 v) (h : DataW.Trod enc Try.prog w 0 (fun _ => true) true 27 v d p) : ∃ k : Con, v = k.v := by
  obtain ⟨cs, rfl, hsz, hc⟩ := open_ints (n := 6) Try.underlying27 (by kernel_rfl) hv h
  obtain ⟨l⟩ := cs
  exact dec_con l (hsz.trans (by kernel_rfl)) (fun i c hi => hc i c (by simpa using hi))
theorem arg_deeds (hv : Value.okWide Try.prog w r b0 28 v) (h : DataW.Trod enc Try.prog w 0 (fun _ => true) true 28 v d p) : ∃ (A : Option Addr) (l : List Deed) (c : Nat), v = .slice A l.length c ∧ SlDeed w A l ∧ ∀ x ∈ l, -9223372036854775808 ≤ x.stay ∧ x.stay ≤ 9223372036854775807 := by
  obtain ⟨A, l, c, rfl, hs, _⟩ := open_slice_ints (n := 4) (size := 4) (code := fun x : DeedB => x.1.cs) Try.underlying28 (by kernel_rfl) (by kernel_rfl) (by decide) dec_deed hv h
  refine ⟨A, l.map (·.1), c, by simp, fun hne => ?_, fun x hx => ?_⟩
  · obtain ⟨b, off, e, hb, hc⟩ := hs (by rintro rfl; simp at hne)
    refine ⟨b, off, e, hb, fun k hk j v hv => hc k (by simpa using hk) j v (by simpa using hv)⟩
  · obtain ⟨y, _, rfl⟩ := List.mem_map.1 hx
    exact y.2
end
end Go.Proofs.Ytmlhoojcdidgkaa
