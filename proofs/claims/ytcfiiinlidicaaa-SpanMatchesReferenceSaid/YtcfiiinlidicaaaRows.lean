/-
  No cell of these rows narrows 'for every input' (looked for: loops, veiled, ifaces, maps, wideKeys, modest, calm, conditions, laid).
  DERIVED. THE GIVEN ROWS OF THIS SEAT. 7 by the template 'for every input the law returns true; each argument reads behind the call as it read before'; 0 by the template 'total and deterministic' (their statements: YtcfiiinlidicaaaTotals.lean).
  GIVEN WITH THE SEED: the statements are not yours to turn. If you find one false, say at which input.
  Laid BY PROGRAM, IN A SANDBOX (cutbox-rows.mjs): the forced cells as the released guide's own fill.sh prints them over the translation 4f106cee07a0299a… (all of the seat's roots in one cut). By AI agents, Wed Nov 11 2026. No macro, syntax, notation, axiom, sorry.
-/
import Derived.Test.YtcfiiinlidicaaaChecked
import GoSem.Claim
import GoSem.ClaimJoined
import GoSem.ClaimMapViews
import Derived.JoinedTies
import Derived.KernelRfl
namespace Go.Proofs.Ytcfiiinlidicaaa
/- THE CELL 'sum', in the pinned program and in every row, IS THE sha256 OF THE DUMP (.gsa) THAT YtcfiiinlidicaaaProg.lean LOADS. Nothing in Lean hashes anything: it is a label: what it is worth is what the hold of that sum in a sandbox is worth. -/
noncomputable def Try.pinned : Pinned := { name := "ytcfiiinlidicaaa", sum := "4f106cee07a0299aceec648f9f62324044493bd41d5fd8df870b5e218711c776", checked := Try.checked }
namespace Rows
def none {H : Type} : Left H := { results := [], args := [] }

/-- 'innkeeperlaw02.SpanMatchesReference': WHATEVER THE INPUT: true; the input reads as it did. -/
def spanMatchesReferenceSpec : ChangeSpec := { name := "spanMatchesReference", fn := fun _ => fun
  | [d1, d2, d3] => { results := [.lit (.bool true)], args := [d1, d2, d3] }
  | _ => none }
def spanMatchesReferenceRow : OpenClaim := { program := "ytcfiiinlidicaaa", sum := "4f106cee07a0299aceec648f9f62324044493bd41d5fd8df870b5e218711c776", func := "innkeeper/innkeeperlaw02.SpanMatchesReference", spec := "spanMatchesReference", unfollowed := true, recurses := true, apart := false }
def SpanMatchesReferenceSaid : Prop := spanMatchesReferenceRow.holds Try.pinned (OpenSpec.ofChange spanMatchesReferenceSpec)

/-- ITS FALSE NEIGHBOUR: 'it returns false'. Refute it at one input. -/
def spanMatchesReferenceWrong : ChangeSpec := { name := "spanMatchesReference", fn := fun _ => fun
  | [d1, d2, d3] => { results := [.lit (.bool false)], args := [d1, d2, d3] }
  | _ => none }
def SpanMatchesReferenceWrongFalsely : Prop := spanMatchesReferenceRow.holds Try.pinned (OpenSpec.ofChange spanMatchesReferenceWrong)

/-- 'innkeeperlaw02.SpanSets': WHATEVER THE INPUT: true; the input reads as it did. -/
def spanSetsSpec : ChangeSpec := { name := "spanSets", fn := fun _ => fun
  | [d1, d2, d3] => { results := [.lit (.bool true)], args := [d1, d2, d3] }
  | _ => none }
def spanSetsRow : OpenClaim := { program := "ytcfiiinlidicaaa", sum := "4f106cee07a0299aceec648f9f62324044493bd41d5fd8df870b5e218711c776", func := "innkeeper/innkeeperlaw02.SpanSets", spec := "spanSets", unfollowed := true, recurses := true, apart := false }
def SpanSetsSaid : Prop := spanSetsRow.holds Try.pinned (OpenSpec.ofChange spanSetsSpec)

/-- ITS FALSE NEIGHBOUR: 'it returns false'. Refute it at one input. -/
def spanSetsWrong : ChangeSpec := { name := "spanSets", fn := fun _ => fun
  | [d1, d2, d3] => { results := [.lit (.bool false)], args := [d1, d2, d3] }
  | _ => none }
def SpanSetsWrongFalsely : Prop := spanSetsRow.holds Try.pinned (OpenSpec.ofChange spanSetsWrong)

/-- 'innkeeperlaw02.SpanOne': WHATEVER THE INPUT: true; the input reads as it did. -/
def spanOneSpec : ChangeSpec := { name := "spanOne", fn := fun _ => fun
  | [d1, d2] => { results := [.lit (.bool true)], args := [d1, d2] }
  | _ => none }
def spanOneRow : OpenClaim := { program := "ytcfiiinlidicaaa", sum := "4f106cee07a0299aceec648f9f62324044493bd41d5fd8df870b5e218711c776", func := "innkeeper/innkeeperlaw02.SpanOne", spec := "spanOne", unfollowed := true, recurses := true, apart := false }
def SpanOneSaid : Prop := spanOneRow.holds Try.pinned (OpenSpec.ofChange spanOneSpec)

/-- ITS FALSE NEIGHBOUR: 'it returns false'. Refute it at one input. -/
def spanOneWrong : ChangeSpec := { name := "spanOne", fn := fun _ => fun
  | [d1, d2] => { results := [.lit (.bool false)], args := [d1, d2] }
  | _ => none }
def SpanOneWrongFalsely : Prop := spanOneRow.holds Try.pinned (OpenSpec.ofChange spanOneWrong)

/-- 'innkeeperlaw02.SpanSums': WHATEVER THE INPUT: true; the input reads as it did. -/
def spanSumsSpec : ChangeSpec := { name := "spanSums", fn := fun _ => fun
  | [d1, d2] => { results := [.lit (.bool true)], args := [d1, d2] }
  | _ => none }
def spanSumsRow : OpenClaim := { program := "ytcfiiinlidicaaa", sum := "4f106cee07a0299aceec648f9f62324044493bd41d5fd8df870b5e218711c776", func := "innkeeper/innkeeperlaw02.SpanSums", spec := "spanSums", unfollowed := true, recurses := true, apart := false }
def SpanSumsSaid : Prop := spanSumsRow.holds Try.pinned (OpenSpec.ofChange spanSumsSpec)

/-- ITS FALSE NEIGHBOUR: 'it returns false'. Refute it at one input. -/
def spanSumsWrong : ChangeSpec := { name := "spanSums", fn := fun _ => fun
  | [d1, d2] => { results := [.lit (.bool false)], args := [d1, d2] }
  | _ => none }
def SpanSumsWrongFalsely : Prop := spanSumsRow.holds Try.pinned (OpenSpec.ofChange spanSumsWrong)

/-- 'innkeeperlaw02.SpanThree': WHATEVER THE INPUT: true; the input reads as it did. -/
def spanThreeSpec : ChangeSpec := { name := "spanThree", fn := fun _ => fun
  | [d1, d2, d3] => { results := [.lit (.bool true)], args := [d1, d2, d3] }
  | _ => none }
def spanThreeRow : OpenClaim := { program := "ytcfiiinlidicaaa", sum := "4f106cee07a0299aceec648f9f62324044493bd41d5fd8df870b5e218711c776", func := "innkeeper/innkeeperlaw02.SpanThree", spec := "spanThree", unfollowed := true, recurses := true, apart := false }
def SpanThreeSaid : Prop := spanThreeRow.holds Try.pinned (OpenSpec.ofChange spanThreeSpec)

/-- ITS FALSE NEIGHBOUR: 'it returns false'. Refute it at one input. -/
def spanThreeWrong : ChangeSpec := { name := "spanThree", fn := fun _ => fun
  | [d1, d2, d3] => { results := [.lit (.bool false)], args := [d1, d2, d3] }
  | _ => none }
def SpanThreeWrongFalsely : Prop := spanThreeRow.holds Try.pinned (OpenSpec.ofChange spanThreeWrong)

/-- 'innkeeperlaw02.SpanMost': WHATEVER THE INPUT: true; the input reads as it did. -/
def spanMostSpec : ChangeSpec := { name := "spanMost", fn := fun _ => fun
  | [d1, d2] => { results := [.lit (.bool true)], args := [d1, d2] }
  | _ => none }
def spanMostRow : OpenClaim := { program := "ytcfiiinlidicaaa", sum := "4f106cee07a0299aceec648f9f62324044493bd41d5fd8df870b5e218711c776", func := "innkeeper/innkeeperlaw02.SpanMost", spec := "spanMost", unfollowed := true, recurses := true, apart := false }
def SpanMostSaid : Prop := spanMostRow.holds Try.pinned (OpenSpec.ofChange spanMostSpec)

/-- ITS FALSE NEIGHBOUR: 'it returns false'. Refute it at one input. -/
def spanMostWrong : ChangeSpec := { name := "spanMost", fn := fun _ => fun
  | [d1, d2] => { results := [.lit (.bool false)], args := [d1, d2] }
  | _ => none }
def SpanMostWrongFalsely : Prop := spanMostRow.holds Try.pinned (OpenSpec.ofChange spanMostWrong)

/-- 'innkeeperlaw02.SpanWeekdays': WHATEVER THE INPUT: true; the input reads as it did. -/
def spanWeekdaysSpec : ChangeSpec := { name := "spanWeekdays", fn := fun _ => fun
  | [d] => { results := [.lit (.bool true)], args := [d] }
  | _ => none }
def spanWeekdaysRow : OpenClaim := { program := "ytcfiiinlidicaaa", sum := "4f106cee07a0299aceec648f9f62324044493bd41d5fd8df870b5e218711c776", func := "innkeeper/innkeeperlaw02.SpanWeekdays", spec := "spanWeekdays", unfollowed := true, recurses := true, apart := false }
def SpanWeekdaysSaid : Prop := spanWeekdaysRow.holds Try.pinned (OpenSpec.ofChange spanWeekdaysSpec)

/-- ITS FALSE NEIGHBOUR: 'it returns false'. Refute it at one input. -/
def spanWeekdaysWrong : ChangeSpec := { name := "spanWeekdays", fn := fun _ => fun
  | [d] => { results := [.lit (.bool false)], args := [d] }
  | _ => none }
def SpanWeekdaysWrongFalsely : Prop := spanWeekdaysRow.holds Try.pinned (OpenSpec.ofChange spanWeekdaysWrong)

/- THE SECOND FORM. 'bulk': how many values and letters a reading holds, each counted each time it is reached (what is shared counts as often as it is met; a slice's spare places count too). A statement '..UptoSaid' is the law's where the arguments, and the package variables that the reading takes, are together of bulk at most 1048576: NARROWER than '..Said'. Prove '..Said' where nothing that the law and all that it calls make is longer than what came in: it says more and counts as full. Else prove '..UptoSaid'. A law counts once. -/
mutual
def uptoBulk {H : Type} : DataW H → Nat
  | .lit (.string bytes) => bytes.length + 1
  | .lit _ => 1
  | .nil => 1
  | .ptr d => uptoBulk d + 1
  | .slice elems spare => uptoBulkAll elems + uptoBulkAll spare + 1
  | .agg parts => uptoBulkAll parts + 1
  | .iface _ d => uptoBulk d + 1
  | .map entries => uptoBulkEntries entries + 1
  | .held _ => 1
def uptoBulkAll {H : Type} : List (DataW H) → Nat
  | [] => 0
  | d :: r => uptoBulk d + uptoBulkAll r
def uptoBulkEntries {H : Type} : List (Lit × DataW H) → Nat
  | [] => 0
  | x :: r => uptoBulkEntry x + uptoBulkEntries r
def uptoBulkEntry {H : Type} : Lit × DataW H → Nat
  | (.string bytes, d) => bytes.length + uptoBulk d + 1
  | (_, d) => uptoBulk d + 1
 end
def uptoSmall : (H : Type) → List (DataW H) → Bool := fun _ ds => decide (uptoBulkAll ds ≤ 1048576)
def OpenSpec.upto (s : _root_.Go.ChangeSpec) : _root_.Go.OpenSpec := { _root_.Go.OpenSpec.ofChange s with cond := some uptoSmall }

/-- 'innkeeperlaw02.SpanMatchesReference', WHERE WHAT IT READS IS OF BULK AT MOST 1048576: true; the input reads as it did. -/
def spanMatchesReferenceUptoRow : OpenClaim := { program := "ytcfiiinlidicaaa", sum := "4f106cee07a0299aceec648f9f62324044493bd41d5fd8df870b5e218711c776", func := "innkeeper/innkeeperlaw02.SpanMatchesReference", spec := "spanMatchesReference", unfollowed := true, recurses := true, apart := false, narrowed := true }
def SpanMatchesReferenceUptoSaid : Prop := spanMatchesReferenceUptoRow.holds Try.pinned (OpenSpec.upto spanMatchesReferenceSpec)

/-- 'innkeeperlaw02.SpanSets', WHERE WHAT IT READS IS OF BULK AT MOST 1048576: true; the input reads as it did. -/
def spanSetsUptoRow : OpenClaim := { program := "ytcfiiinlidicaaa", sum := "4f106cee07a0299aceec648f9f62324044493bd41d5fd8df870b5e218711c776", func := "innkeeper/innkeeperlaw02.SpanSets", spec := "spanSets", unfollowed := true, recurses := true, apart := false, narrowed := true }
def SpanSetsUptoSaid : Prop := spanSetsUptoRow.holds Try.pinned (OpenSpec.upto spanSetsSpec)

/-- 'innkeeperlaw02.SpanOne', WHERE WHAT IT READS IS OF BULK AT MOST 1048576: true; the input reads as it did. -/
def spanOneUptoRow : OpenClaim := { program := "ytcfiiinlidicaaa", sum := "4f106cee07a0299aceec648f9f62324044493bd41d5fd8df870b5e218711c776", func := "innkeeper/innkeeperlaw02.SpanOne", spec := "spanOne", unfollowed := true, recurses := true, apart := false, narrowed := true }
def SpanOneUptoSaid : Prop := spanOneUptoRow.holds Try.pinned (OpenSpec.upto spanOneSpec)

/-- 'innkeeperlaw02.SpanSums', WHERE WHAT IT READS IS OF BULK AT MOST 1048576: true; the input reads as it did. -/
def spanSumsUptoRow : OpenClaim := { program := "ytcfiiinlidicaaa", sum := "4f106cee07a0299aceec648f9f62324044493bd41d5fd8df870b5e218711c776", func := "innkeeper/innkeeperlaw02.SpanSums", spec := "spanSums", unfollowed := true, recurses := true, apart := false, narrowed := true }
def SpanSumsUptoSaid : Prop := spanSumsUptoRow.holds Try.pinned (OpenSpec.upto spanSumsSpec)

/-- 'innkeeperlaw02.SpanThree', WHERE WHAT IT READS IS OF BULK AT MOST 1048576: true; the input reads as it did. -/
def spanThreeUptoRow : OpenClaim := { program := "ytcfiiinlidicaaa", sum := "4f106cee07a0299aceec648f9f62324044493bd41d5fd8df870b5e218711c776", func := "innkeeper/innkeeperlaw02.SpanThree", spec := "spanThree", unfollowed := true, recurses := true, apart := false, narrowed := true }
def SpanThreeUptoSaid : Prop := spanThreeUptoRow.holds Try.pinned (OpenSpec.upto spanThreeSpec)

/-- 'innkeeperlaw02.SpanMost', WHERE WHAT IT READS IS OF BULK AT MOST 1048576: true; the input reads as it did. -/
def spanMostUptoRow : OpenClaim := { program := "ytcfiiinlidicaaa", sum := "4f106cee07a0299aceec648f9f62324044493bd41d5fd8df870b5e218711c776", func := "innkeeper/innkeeperlaw02.SpanMost", spec := "spanMost", unfollowed := true, recurses := true, apart := false, narrowed := true }
def SpanMostUptoSaid : Prop := spanMostUptoRow.holds Try.pinned (OpenSpec.upto spanMostSpec)

/-- 'innkeeperlaw02.SpanWeekdays', WHERE WHAT IT READS IS OF BULK AT MOST 1048576: true; the input reads as it did. -/
def spanWeekdaysUptoRow : OpenClaim := { program := "ytcfiiinlidicaaa", sum := "4f106cee07a0299aceec648f9f62324044493bd41d5fd8df870b5e218711c776", func := "innkeeper/innkeeperlaw02.SpanWeekdays", spec := "spanWeekdays", unfollowed := true, recurses := true, apart := false, narrowed := true }
def SpanWeekdaysUptoSaid : Prop := spanWeekdaysUptoRow.holds Try.pinned (OpenSpec.upto spanWeekdaysSpec)

end Rows
end Go.Proofs.Ytcfiiinlidicaaa
