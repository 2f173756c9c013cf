/-
  No cell of these rows narrows 'for every input' (looked for: loops, veiled, ifaces, maps, wideKeys, modest, calm, conditions, laid).
  DERIVED. THE GIVEN ROWS OF THIS SEAT. 6 by the template 'for every input the law returns true; each argument reads behind the call as it read before'; 0 by the template 'total and deterministic' (their statements: YtphapnooonjnmaaTotals.lean).
  GIVEN WITH THE SEED: the statements are not yours to turn. If you find one false, say at which input.
  Laid BY PROGRAM, IN A SANDBOX (cutbox-rows.mjs): the forced cells as the released guide's own fill.sh prints them over the translation 90a2b7335971ca27… (all of the seat's roots in one cut). By AI agents, Wed Nov 11 2026. No macro, syntax, notation, axiom, sorry.
-/
import Derived.Test.YtphapnooonjnmaaChecked
import GoSem.Claim
import GoSem.ClaimJoined
import GoSem.ClaimMapViews
import Derived.JoinedTies
import Derived.KernelRfl
namespace Go.Proofs.Ytphapnooonjnmaa
/- THE CELL 'sum', in the pinned program and in every row, IS THE sha256 OF THE DUMP (.gsa) THAT YtphapnooonjnmaaProg.lean LOADS. Nothing in Lean hashes anything: it is a label: what it is worth is what the hold of that sum in a sandbox is worth. -/
noncomputable def Try.pinned : Pinned := { name := "ytphapnooonjnmaa", sum := "90a2b7335971ca2741ad9cdbf2685acec5a28b6b943203c5f16110726e52f8f0", checked := Try.checked }
namespace Rows
def none {H : Type} : Left H := { results := [], args := [] }

/-- 'innkeeperlaw16.RoomsMatchesReference': WHATEVER THE INPUT: true; the input reads as it did. -/
def roomsMatchesReferenceSpec : ChangeSpec := { name := "roomsMatchesReference", fn := fun _ => fun
  | [d1, d2, d3, d4, d5, d6, d7] => { results := [.lit (.bool true)], args := [d1, d2, d3, d4, d5, d6, d7] }
  | _ => none }
def roomsMatchesReferenceRow : OpenClaim := { program := "ytphapnooonjnmaa", sum := "90a2b7335971ca2741ad9cdbf2685acec5a28b6b943203c5f16110726e52f8f0", func := "innkeeper/innkeeperlaw16.RoomsMatchesReference", spec := "roomsMatchesReference", unfollowed := true, recurses := true, apart := false }
def RoomsMatchesReferenceSaid : Prop := roomsMatchesReferenceRow.holds Try.pinned (OpenSpec.ofChange roomsMatchesReferenceSpec)

/-- ITS FALSE NEIGHBOUR: 'it returns false'. Refute it at one input. -/
def roomsMatchesReferenceWrong : ChangeSpec := { name := "roomsMatchesReference", fn := fun _ => fun
  | [d1, d2, d3, d4, d5, d6, d7] => { results := [.lit (.bool false)], args := [d1, d2, d3, d4, d5, d6, d7] }
  | _ => none }
def RoomsMatchesReferenceWrongFalsely : Prop := roomsMatchesReferenceRow.holds Try.pinned (OpenSpec.ofChange roomsMatchesReferenceWrong)

/-- 'innkeeperlaw16.RoomsBlocks': WHATEVER THE INPUT: true; the input reads as it did. -/
def roomsBlocksSpec : ChangeSpec := { name := "roomsBlocks", fn := fun _ => fun
  | [d1, d2, d3, d4] => { results := [.lit (.bool true)], args := [d1, d2, d3, d4] }
  | _ => none }
def roomsBlocksRow : OpenClaim := { program := "ytphapnooonjnmaa", sum := "90a2b7335971ca2741ad9cdbf2685acec5a28b6b943203c5f16110726e52f8f0", func := "innkeeper/innkeeperlaw16.RoomsBlocks", spec := "roomsBlocks", unfollowed := true, recurses := true, apart := false }
def RoomsBlocksSaid : Prop := roomsBlocksRow.holds Try.pinned (OpenSpec.ofChange roomsBlocksSpec)

/-- ITS FALSE NEIGHBOUR: 'it returns false'. Refute it at one input. -/
def roomsBlocksWrong : ChangeSpec := { name := "roomsBlocks", fn := fun _ => fun
  | [d1, d2, d3, d4] => { results := [.lit (.bool false)], args := [d1, d2, d3, d4] }
  | _ => none }
def RoomsBlocksWrongFalsely : Prop := roomsBlocksRow.holds Try.pinned (OpenSpec.ofChange roomsBlocksWrong)

/-- 'innkeeperlaw16.RoomsFree': WHATEVER THE INPUT: true; the input reads as it did. -/
def roomsFreeSpec : ChangeSpec := { name := "roomsFree", fn := fun _ => fun
  | [d1, d2] => { results := [.lit (.bool true)], args := [d1, d2] }
  | _ => none }
def roomsFreeRow : OpenClaim := { program := "ytphapnooonjnmaa", sum := "90a2b7335971ca2741ad9cdbf2685acec5a28b6b943203c5f16110726e52f8f0", func := "innkeeper/innkeeperlaw16.RoomsFree", spec := "roomsFree", unfollowed := true, recurses := true, apart := false }
def RoomsFreeSaid : Prop := roomsFreeRow.holds Try.pinned (OpenSpec.ofChange roomsFreeSpec)

/-- ITS FALSE NEIGHBOUR: 'it returns false'. Refute it at one input. -/
def roomsFreeWrong : ChangeSpec := { name := "roomsFree", fn := fun _ => fun
  | [d1, d2] => { results := [.lit (.bool false)], args := [d1, d2] }
  | _ => none }
def RoomsFreeWrongFalsely : Prop := roomsFreeRow.holds Try.pinned (OpenSpec.ofChange roomsFreeWrong)

/-- 'innkeeperlaw16.RoomsCounts': WHATEVER THE INPUT: true; the input reads as it did. -/
def roomsCountsSpec : ChangeSpec := { name := "roomsCounts", fn := fun _ => fun
  | [d1, d2] => { results := [.lit (.bool true)], args := [d1, d2] }
  | _ => none }
def roomsCountsRow : OpenClaim := { program := "ytphapnooonjnmaa", sum := "90a2b7335971ca2741ad9cdbf2685acec5a28b6b943203c5f16110726e52f8f0", func := "innkeeper/innkeeperlaw16.RoomsCounts", spec := "roomsCounts", unfollowed := true, recurses := true, apart := false }
def RoomsCountsSaid : Prop := roomsCountsRow.holds Try.pinned (OpenSpec.ofChange roomsCountsSpec)

/-- ITS FALSE NEIGHBOUR: 'it returns false'. Refute it at one input. -/
def roomsCountsWrong : ChangeSpec := { name := "roomsCounts", fn := fun _ => fun
  | [d1, d2] => { results := [.lit (.bool false)], args := [d1, d2] }
  | _ => none }
def RoomsCountsWrongFalsely : Prop := roomsCountsRow.holds Try.pinned (OpenSpec.ofChange roomsCountsWrong)

/-- 'innkeeperlaw16.RoomsTwice': WHATEVER THE INPUT: true; the input reads as it did. -/
def roomsTwiceSpec : ChangeSpec := { name := "roomsTwice", fn := fun _ => fun
  | [d1, d2, d3, d4, d5] => { results := [.lit (.bool true)], args := [d1, d2, d3, d4, d5] }
  | _ => none }
def roomsTwiceRow : OpenClaim := { program := "ytphapnooonjnmaa", sum := "90a2b7335971ca2741ad9cdbf2685acec5a28b6b943203c5f16110726e52f8f0", func := "innkeeper/innkeeperlaw16.RoomsTwice", spec := "roomsTwice", unfollowed := true, recurses := true, apart := false }
def RoomsTwiceSaid : Prop := roomsTwiceRow.holds Try.pinned (OpenSpec.ofChange roomsTwiceSpec)

/-- ITS FALSE NEIGHBOUR: 'it returns false'. Refute it at one input. -/
def roomsTwiceWrong : ChangeSpec := { name := "roomsTwice", fn := fun _ => fun
  | [d1, d2, d3, d4, d5] => { results := [.lit (.bool false)], args := [d1, d2, d3, d4, d5] }
  | _ => none }
def RoomsTwiceWrongFalsely : Prop := roomsTwiceRow.holds Try.pinned (OpenSpec.ofChange roomsTwiceWrong)

/-- 'innkeeperlaw16.RoomsJoined': WHATEVER THE INPUT: true; the input reads as it did. -/
def roomsJoinedSpec : ChangeSpec := { name := "roomsJoined", fn := fun _ => fun
  | [d1, d2, d3] => { results := [.lit (.bool true)], args := [d1, d2, d3] }
  | _ => none }
def roomsJoinedRow : OpenClaim := { program := "ytphapnooonjnmaa", sum := "90a2b7335971ca2741ad9cdbf2685acec5a28b6b943203c5f16110726e52f8f0", func := "innkeeper/innkeeperlaw16.RoomsJoined", spec := "roomsJoined", unfollowed := true, recurses := true, apart := false }
def RoomsJoinedSaid : Prop := roomsJoinedRow.holds Try.pinned (OpenSpec.ofChange roomsJoinedSpec)

/-- ITS FALSE NEIGHBOUR: 'it returns false'. Refute it at one input. -/
def roomsJoinedWrong : ChangeSpec := { name := "roomsJoined", fn := fun _ => fun
  | [d1, d2, d3] => { results := [.lit (.bool false)], args := [d1, d2, d3] }
  | _ => none }
def RoomsJoinedWrongFalsely : Prop := roomsJoinedRow.holds Try.pinned (OpenSpec.ofChange roomsJoinedWrong)

/- THE SECOND FORM. 'bulk': how many values and letters a reading holds, each counted each time it is reached (what is shared counts as often as it is met; a slice's spare places count too). A statement '..UptoSaid' is the law's where the arguments, and the package variables that the reading takes, are together of bulk at most 1048576: NARROWER than '..Said'. Prove '..Said' where nothing that the law and all that it calls make is longer than what came in: it says more and counts as full. Else prove '..UptoSaid'. A law counts once. -/
mutual
def uptoBulk {H : Type} : DataW H → Nat
  | .lit (.string bytes) => bytes.length + 1
  | .lit _ => 1
  | .nil => 1
  | .ptr d => uptoBulk d + 1
  | .slice elems spare => uptoBulkAll elems + uptoBulkAll spare + 1
  | .agg parts => uptoBulkAll parts + 1
  | .iface _ d => uptoBulk d + 1
  | .map entries => uptoBulkEntries entries + 1
  | .held _ => 1
def uptoBulkAll {H : Type} : List (DataW H) → Nat
  | [] => 0
  | d :: r => uptoBulk d + uptoBulkAll r
def uptoBulkEntries {H : Type} : List (Lit × DataW H) → Nat
  | [] => 0
  | x :: r => uptoBulkEntry x + uptoBulkEntries r
def uptoBulkEntry {H : Type} : Lit × DataW H → Nat
  | (.string bytes, d) => bytes.length + uptoBulk d + 1
  | (_, d) => uptoBulk d + 1
 end
def uptoSmall : (H : Type) → List (DataW H) → Bool := fun _ ds => decide (uptoBulkAll ds ≤ 1048576)
def OpenSpec.upto (s : _root_.Go.ChangeSpec) : _root_.Go.OpenSpec := { _root_.Go.OpenSpec.ofChange s with cond := some uptoSmall }

/-- 'innkeeperlaw16.RoomsMatchesReference', WHERE WHAT IT READS IS OF BULK AT MOST 1048576: true; the input reads as it did. -/
def roomsMatchesReferenceUptoRow : OpenClaim := { program := "ytphapnooonjnmaa", sum := "90a2b7335971ca2741ad9cdbf2685acec5a28b6b943203c5f16110726e52f8f0", func := "innkeeper/innkeeperlaw16.RoomsMatchesReference", spec := "roomsMatchesReference", unfollowed := true, recurses := true, apart := false, narrowed := true }
def RoomsMatchesReferenceUptoSaid : Prop := roomsMatchesReferenceUptoRow.holds Try.pinned (OpenSpec.upto roomsMatchesReferenceSpec)

/-- 'innkeeperlaw16.RoomsBlocks', WHERE WHAT IT READS IS OF BULK AT MOST 1048576: true; the input reads as it did. -/
def roomsBlocksUptoRow : OpenClaim := { program := "ytphapnooonjnmaa", sum := "90a2b7335971ca2741ad9cdbf2685acec5a28b6b943203c5f16110726e52f8f0", func := "innkeeper/innkeeperlaw16.RoomsBlocks", spec := "roomsBlocks", unfollowed := true, recurses := true, apart := false, narrowed := true }
def RoomsBlocksUptoSaid : Prop := roomsBlocksUptoRow.holds Try.pinned (OpenSpec.upto roomsBlocksSpec)

/-- 'innkeeperlaw16.RoomsFree', WHERE WHAT IT READS IS OF BULK AT MOST 1048576: true; the input reads as it did. -/
def roomsFreeUptoRow : OpenClaim := { program := "ytphapnooonjnmaa", sum := "90a2b7335971ca2741ad9cdbf2685acec5a28b6b943203c5f16110726e52f8f0", func := "innkeeper/innkeeperlaw16.RoomsFree", spec := "roomsFree", unfollowed := true, recurses := true, apart := false, narrowed := true }
def RoomsFreeUptoSaid : Prop := roomsFreeUptoRow.holds Try.pinned (OpenSpec.upto roomsFreeSpec)

/-- 'innkeeperlaw16.RoomsCounts', WHERE WHAT IT READS IS OF BULK AT MOST 1048576: true; the input reads as it did. -/
def roomsCountsUptoRow : OpenClaim := { program := "ytphapnooonjnmaa", sum := "90a2b7335971ca2741ad9cdbf2685acec5a28b6b943203c5f16110726e52f8f0", func := "innkeeper/innkeeperlaw16.RoomsCounts", spec := "roomsCounts", unfollowed := true, recurses := true, apart := false, narrowed := true }
def RoomsCountsUptoSaid : Prop := roomsCountsUptoRow.holds Try.pinned (OpenSpec.upto roomsCountsSpec)

/-- 'innkeeperlaw16.RoomsTwice', WHERE WHAT IT READS IS OF BULK AT MOST 1048576: true; the input reads as it did. -/
def roomsTwiceUptoRow : OpenClaim := { program := "ytphapnooonjnmaa", sum := "90a2b7335971ca2741ad9cdbf2685acec5a28b6b943203c5f16110726e52f8f0", func := "innkeeper/innkeeperlaw16.RoomsTwice", spec := "roomsTwice", unfollowed := true, recurses := true, apart := false, narrowed := true }
def RoomsTwiceUptoSaid : Prop := roomsTwiceUptoRow.holds Try.pinned (OpenSpec.upto roomsTwiceSpec)

/-- 'innkeeperlaw16.RoomsJoined', WHERE WHAT IT READS IS OF BULK AT MOST 1048576: true; the input reads as it did. -/
def roomsJoinedUptoRow : OpenClaim := { program := "ytphapnooonjnmaa", sum := "90a2b7335971ca2741ad9cdbf2685acec5a28b6b943203c5f16110726e52f8f0", func := "innkeeper/innkeeperlaw16.RoomsJoined", spec := "roomsJoined", unfollowed := true, recurses := true, apart := false, narrowed := true }
def RoomsJoinedUptoSaid : Prop := roomsJoinedUptoRow.holds Try.pinned (OpenSpec.upto roomsJoinedSpec)

end Rows
end Go.Proofs.Ytphapnooonjnmaa
