/-
  No cell of these rows narrows 'for every input' (looked for: loops, veiled, ifaces, maps, wideKeys, modest, calm, conditions, laid).
  DERIVED. THE GIVEN ROWS OF THIS SEAT. 5 by the template 'for every input the law returns true; each argument reads behind the call as it read before'; 0 by the template 'total and deterministic' (their statements: YtmlhoojcdidgkaaGreatTotals.lean).
  GIVEN WITH THE SEED: the statements are not yours to turn. If you find one false, say at which input.
  Laid BY PROGRAM, IN A SANDBOX (cutbox-rows.mjs): the forced cells as the released guide's own fill.sh prints them over the translation a978893b004a8dac… (all of the seat's roots in one cut). By AI agents, Wed Nov 11 2026. No macro, syntax, notation, axiom, sorry.
-/
import Derived.Test.YtmlhoojcdidgkaaGreatChecked
import GoSem.Claim
import GoSem.ClaimJoined
import GoSem.ClaimMapViews
import Derived.JoinedTies
import Derived.KernelRfl
namespace Go.Proofs.YtmlhoojcdidgkaaGreat
/- THE CELL 'sum', in the pinned program and in every row, IS THE sha256 OF THE DUMP (.gsa) THAT YtmlhoojcdidgkaaGreatProg.lean LOADS. Nothing in Lean hashes anything: it is a label: what it is worth is what the hold of that sum in a sandbox is worth. -/
noncomputable def Tryz.pinned : Pinned := { name := "ytmlhoojcdidgkaagreat", sum := "a978893b004a8dac127fea063ebc055ef3cacdea8e42700c928f66d2eeae3894", checked := Tryz.checked }
namespace Rows
def none {H : Type} : Left H := { results := [], args := [] }

/-- 'innkeeperlaw33.ReturnsPlaces': WHATEVER THE INPUT: true; the input reads as it did. -/
def returnsPlacesSpec : ChangeSpec := { name := "returnsPlaces", fn := fun _ => fun
  | [d1, d2, d3, d4] => { results := [.lit (.bool true)], args := [d1, d2, d3, d4] }
  | _ => none }
def returnsPlacesRow : OpenClaim := { program := "ytmlhoojcdidgkaagreat", sum := "a978893b004a8dac127fea063ebc055ef3cacdea8e42700c928f66d2eeae3894", func := "innkeeper/innkeeperlaw33.ReturnsPlaces", spec := "returnsPlaces", unfollowed := true, recurses := true, plainKeys := false, apart := false }
def ReturnsPlacesSaid : Prop := returnsPlacesRow.holds Tryz.pinned (OpenSpec.ofChange returnsPlacesSpec)

/-- ITS FALSE NEIGHBOUR: 'it returns false'. Refute it at one input. -/
def returnsPlacesWrong : ChangeSpec := { name := "returnsPlaces", fn := fun _ => fun
  | [d1, d2, d3, d4] => { results := [.lit (.bool false)], args := [d1, d2, d3, d4] }
  | _ => none }
def ReturnsPlacesWrongFalsely : Prop := returnsPlacesRow.holds Tryz.pinned (OpenSpec.ofChange returnsPlacesWrong)

/-- 'innkeeperlaw33.ReturnsDepartures': WHATEVER THE INPUT: true; the input reads as it did. -/
def returnsDeparturesSpec : ChangeSpec := { name := "returnsDepartures", fn := fun _ => fun
  | [d1, d2, d3, d4, d5] => { results := [.lit (.bool true)], args := [d1, d2, d3, d4, d5] }
  | _ => none }
def returnsDeparturesRow : OpenClaim := { program := "ytmlhoojcdidgkaagreat", sum := "a978893b004a8dac127fea063ebc055ef3cacdea8e42700c928f66d2eeae3894", func := "innkeeper/innkeeperlaw33.ReturnsDepartures", spec := "returnsDepartures", unfollowed := true, recurses := true, plainKeys := false, apart := false }
def ReturnsDeparturesSaid : Prop := returnsDeparturesRow.holds Tryz.pinned (OpenSpec.ofChange returnsDeparturesSpec)

/-- ITS FALSE NEIGHBOUR: 'it returns false'. Refute it at one input. -/
def returnsDeparturesWrong : ChangeSpec := { name := "returnsDepartures", fn := fun _ => fun
  | [d1, d2, d3, d4, d5] => { results := [.lit (.bool false)], args := [d1, d2, d3, d4, d5] }
  | _ => none }
def ReturnsDeparturesWrongFalsely : Prop := returnsDeparturesRow.holds Tryz.pinned (OpenSpec.ofChange returnsDeparturesWrong)

/-- 'innkeeperlaw33.ReturnsBroke': WHATEVER THE INPUT: true; the input reads as it did. -/
def returnsBrokeSpec : ChangeSpec := { name := "returnsBroke", fn := fun _ => fun
  | [d1, d2, d3, d4, d5, d6] => { results := [.lit (.bool true)], args := [d1, d2, d3, d4, d5, d6] }
  | _ => none }
def returnsBrokeRow : OpenClaim := { program := "ytmlhoojcdidgkaagreat", sum := "a978893b004a8dac127fea063ebc055ef3cacdea8e42700c928f66d2eeae3894", func := "innkeeper/innkeeperlaw33.ReturnsBroke", spec := "returnsBroke", unfollowed := true, recurses := true, plainKeys := false, apart := false }
def ReturnsBrokeSaid : Prop := returnsBrokeRow.holds Tryz.pinned (OpenSpec.ofChange returnsBrokeSpec)

/-- ITS FALSE NEIGHBOUR: 'it returns false'. Refute it at one input. -/
def returnsBrokeWrong : ChangeSpec := { name := "returnsBroke", fn := fun _ => fun
  | [d1, d2, d3, d4, d5, d6] => { results := [.lit (.bool false)], args := [d1, d2, d3, d4, d5, d6] }
  | _ => none }
def ReturnsBrokeWrongFalsely : Prop := returnsBrokeRow.holds Tryz.pinned (OpenSpec.ofChange returnsBrokeWrong)

/-- 'innkeeperlaw33.ReturnsCents': WHATEVER THE INPUT: true; the input reads as it did. -/
def returnsCentsSpec : ChangeSpec := { name := "returnsCents", fn := fun _ => fun
  | [d1, d2, d3, d4, d5, d6, d7, d8] => { results := [.lit (.bool true)], args := [d1, d2, d3, d4, d5, d6, d7, d8] }
  | _ => none }
def returnsCentsRow : OpenClaim := { program := "ytmlhoojcdidgkaagreat", sum := "a978893b004a8dac127fea063ebc055ef3cacdea8e42700c928f66d2eeae3894", func := "innkeeper/innkeeperlaw33.ReturnsCents", spec := "returnsCents", unfollowed := true, recurses := true, plainKeys := false, apart := false }
def ReturnsCentsSaid : Prop := returnsCentsRow.holds Tryz.pinned (OpenSpec.ofChange returnsCentsSpec)

/-- ITS FALSE NEIGHBOUR: 'it returns false'. Refute it at one input. -/
def returnsCentsWrong : ChangeSpec := { name := "returnsCents", fn := fun _ => fun
  | [d1, d2, d3, d4, d5, d6, d7, d8] => { results := [.lit (.bool false)], args := [d1, d2, d3, d4, d5, d6, d7, d8] }
  | _ => none }
def ReturnsCentsWrongFalsely : Prop := returnsCentsRow.holds Tryz.pinned (OpenSpec.ofChange returnsCentsWrong)

/-- 'innkeeperlaw33.ReturnsUndone': WHATEVER THE INPUT: true; the input reads as it did. -/
def returnsUndoneSpec : ChangeSpec := { name := "returnsUndone", fn := fun _ => fun
  | [d1, d2, d3, d4, d5, d6] => { results := [.lit (.bool true)], args := [d1, d2, d3, d4, d5, d6] }
  | _ => none }
def returnsUndoneRow : OpenClaim := { program := "ytmlhoojcdidgkaagreat", sum := "a978893b004a8dac127fea063ebc055ef3cacdea8e42700c928f66d2eeae3894", func := "innkeeper/innkeeperlaw33.ReturnsUndone", spec := "returnsUndone", unfollowed := true, recurses := true, plainKeys := false, apart := false }
def ReturnsUndoneSaid : Prop := returnsUndoneRow.holds Tryz.pinned (OpenSpec.ofChange returnsUndoneSpec)

/-- ITS FALSE NEIGHBOUR: 'it returns false'. Refute it at one input. -/
def returnsUndoneWrong : ChangeSpec := { name := "returnsUndone", fn := fun _ => fun
  | [d1, d2, d3, d4, d5, d6] => { results := [.lit (.bool false)], args := [d1, d2, d3, d4, d5, d6] }
  | _ => none }
def ReturnsUndoneWrongFalsely : Prop := returnsUndoneRow.holds Tryz.pinned (OpenSpec.ofChange returnsUndoneWrong)

/- THE SECOND FORM. 'bulk': how many values and letters a reading holds, each counted each time it is reached (what is shared counts as often as it is met; a slice's spare places count too). A statement '..UptoSaid' is the law's where the arguments, and the package variables that the reading takes, are together of bulk at most 1048576: NARROWER than '..Said'. Prove '..Said' where nothing that the law and all that it calls make is longer than what came in: it says more and counts as full. Else prove '..UptoSaid'. A law counts once. -/
mutual
def uptoBulk {H : Type} : DataW H → Nat
  | .lit (.string bytes) => bytes.length + 1
  | .lit _ => 1
  | .nil => 1
  | .ptr d => uptoBulk d + 1
  | .slice elems spare => uptoBulkAll elems + uptoBulkAll spare + 1
  | .agg parts => uptoBulkAll parts + 1
  | .iface _ d => uptoBulk d + 1
  | .map entries => uptoBulkEntries entries + 1
  | .held _ => 1
def uptoBulkAll {H : Type} : List (DataW H) → Nat
  | [] => 0
  | d :: r => uptoBulk d + uptoBulkAll r
def uptoBulkEntries {H : Type} : List (Lit × DataW H) → Nat
  | [] => 0
  | x :: r => uptoBulkEntry x + uptoBulkEntries r
def uptoBulkEntry {H : Type} : Lit × DataW H → Nat
  | (.string bytes, d) => bytes.length + uptoBulk d + 1
  | (_, d) => uptoBulk d + 1
 end
def uptoSmall : (H : Type) → List (DataW H) → Bool := fun _ ds => decide (uptoBulkAll ds ≤ 1048576)
def OpenSpec.upto (s : _root_.Go.ChangeSpec) : _root_.Go.OpenSpec := { _root_.Go.OpenSpec.ofChange s with cond := some uptoSmall }

/-- 'innkeeperlaw33.ReturnsPlaces', WHERE WHAT IT READS IS OF BULK AT MOST 1048576: true; the input reads as it did. -/
def returnsPlacesUptoRow : OpenClaim := { program := "ytmlhoojcdidgkaagreat", sum := "a978893b004a8dac127fea063ebc055ef3cacdea8e42700c928f66d2eeae3894", func := "innkeeper/innkeeperlaw33.ReturnsPlaces", spec := "returnsPlaces", unfollowed := true, recurses := true, plainKeys := false, apart := false, narrowed := true }
def ReturnsPlacesUptoSaid : Prop := returnsPlacesUptoRow.holds Tryz.pinned (OpenSpec.upto returnsPlacesSpec)

/-- 'innkeeperlaw33.ReturnsDepartures', WHERE WHAT IT READS IS OF BULK AT MOST 1048576: true; the input reads as it did. -/
def returnsDeparturesUptoRow : OpenClaim := { program := "ytmlhoojcdidgkaagreat", sum := "a978893b004a8dac127fea063ebc055ef3cacdea8e42700c928f66d2eeae3894", func := "innkeeper/innkeeperlaw33.ReturnsDepartures", spec := "returnsDepartures", unfollowed := true, recurses := true, plainKeys := false, apart := false, narrowed := true }
def ReturnsDeparturesUptoSaid : Prop := returnsDeparturesUptoRow.holds Tryz.pinned (OpenSpec.upto returnsDeparturesSpec)

/-- 'innkeeperlaw33.ReturnsBroke', WHERE WHAT IT READS IS OF BULK AT MOST 1048576: true; the input reads as it did. -/
def returnsBrokeUptoRow : OpenClaim := { program := "ytmlhoojcdidgkaagreat", sum := "a978893b004a8dac127fea063ebc055ef3cacdea8e42700c928f66d2eeae3894", func := "innkeeper/innkeeperlaw33.ReturnsBroke", spec := "returnsBroke", unfollowed := true, recurses := true, plainKeys := false, apart := false, narrowed := true }
def ReturnsBrokeUptoSaid : Prop := returnsBrokeUptoRow.holds Tryz.pinned (OpenSpec.upto returnsBrokeSpec)

/-- 'innkeeperlaw33.ReturnsCents', WHERE WHAT IT READS IS OF BULK AT MOST 1048576: true; the input reads as it did. -/
def returnsCentsUptoRow : OpenClaim := { program := "ytmlhoojcdidgkaagreat", sum := "a978893b004a8dac127fea063ebc055ef3cacdea8e42700c928f66d2eeae3894", func := "innkeeper/innkeeperlaw33.ReturnsCents", spec := "returnsCents", unfollowed := true, recurses := true, plainKeys := false, apart := false, narrowed := true }
def ReturnsCentsUptoSaid : Prop := returnsCentsUptoRow.holds Tryz.pinned (OpenSpec.upto returnsCentsSpec)

/-- 'innkeeperlaw33.ReturnsUndone', WHERE WHAT IT READS IS OF BULK AT MOST 1048576: true; the input reads as it did. -/
def returnsUndoneUptoRow : OpenClaim := { program := "ytmlhoojcdidgkaagreat", sum := "a978893b004a8dac127fea063ebc055ef3cacdea8e42700c928f66d2eeae3894", func := "innkeeper/innkeeperlaw33.ReturnsUndone", spec := "returnsUndone", unfollowed := true, recurses := true, plainKeys := false, apart := false, narrowed := true }
def ReturnsUndoneUptoSaid : Prop := returnsUndoneUptoRow.holds Tryz.pinned (OpenSpec.upto returnsUndoneSpec)

end Rows
end Go.Proofs.YtmlhoojcdidgkaaGreat
