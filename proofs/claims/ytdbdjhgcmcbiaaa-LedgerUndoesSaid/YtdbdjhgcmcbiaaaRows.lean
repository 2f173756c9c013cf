/-
  No cell of these rows narrows 'for every input' (looked for: loops, veiled, ifaces, maps, wideKeys, modest, calm, conditions, laid).
  DERIVED. THE GIVEN ROWS OF THIS SEAT. 12 by the template 'for every input the law returns true; each argument reads behind the call as it read before'; 0 by the template 'total and deterministic' (their statements: YtdbdjhgcmcbiaaaTotals.lean).
  GIVEN WITH THE SEED: the statements are not yours to turn. If you find one false, say at which input.
  Laid BY PROGRAM, IN A SANDBOX (cutbox-rows.mjs): the forced cells as the released guide's own fill.sh prints them over the translation a525bf0957b2dbde… (all of the seat's roots in one cut). By AI agents, Wed Nov 11 2026. No macro, syntax, notation, axiom, sorry.
-/
import Derived.Test.YtdbdjhgcmcbiaaaChecked
import GoSem.Claim
import GoSem.ClaimJoined
import GoSem.ClaimMapViews
import Derived.JoinedTies
import Derived.KernelRfl
namespace Go.Proofs.Ytdbdjhgcmcbiaaa
/- THE CELL 'sum', in the pinned program and in every row, IS THE sha256 OF THE DUMP (.gsa) THAT YtdbdjhgcmcbiaaaProg.lean LOADS. Nothing in Lean hashes anything: it is a label: what it is worth is what the hold of that sum in a sandbox is worth. -/
noncomputable def Try.pinned : Pinned := { name := "ytdbdjhgcmcbiaaa", sum := "a525bf0957b2dbde1ef781c1e1cf9a0813cbc0d021d455e94e1ffde61430a85d", checked := Try.checked }
namespace Rows
def none {H : Type} : Left H := { results := [], args := [] }

/-- 'innkeeperlaw29.TaxMatchesReference': WHATEVER THE INPUT: true; the input reads as it did. -/
def taxMatchesReferenceSpec : ChangeSpec := { name := "taxMatchesReference", fn := fun _ => fun
  | [d1, d2] => { results := [.lit (.bool true)], args := [d1, d2] }
  | _ => none }
def taxMatchesReferenceRow : OpenClaim := { program := "ytdbdjhgcmcbiaaa", sum := "a525bf0957b2dbde1ef781c1e1cf9a0813cbc0d021d455e94e1ffde61430a85d", func := "innkeeper/innkeeperlaw29.TaxMatchesReference", spec := "taxMatchesReference", unfollowed := true, recurses := true, apart := false }
def TaxMatchesReferenceSaid : Prop := taxMatchesReferenceRow.holds Try.pinned (OpenSpec.ofChange taxMatchesReferenceSpec)

/-- ITS FALSE NEIGHBOUR: 'it returns false'. Refute it at one input. -/
def taxMatchesReferenceWrong : ChangeSpec := { name := "taxMatchesReference", fn := fun _ => fun
  | [d1, d2] => { results := [.lit (.bool false)], args := [d1, d2] }
  | _ => none }
def TaxMatchesReferenceWrongFalsely : Prop := taxMatchesReferenceRow.holds Try.pinned (OpenSpec.ofChange taxMatchesReferenceWrong)

/-- 'innkeeperlaw29.TaxPlaces': WHATEVER THE INPUT: true; the input reads as it did. -/
def taxPlacesSpec : ChangeSpec := { name := "taxPlaces", fn := fun _ => fun
  | [d1, d2] => { results := [.lit (.bool true)], args := [d1, d2] }
  | _ => none }
def taxPlacesRow : OpenClaim := { program := "ytdbdjhgcmcbiaaa", sum := "a525bf0957b2dbde1ef781c1e1cf9a0813cbc0d021d455e94e1ffde61430a85d", func := "innkeeper/innkeeperlaw29.TaxPlaces", spec := "taxPlaces", unfollowed := true, recurses := true, apart := false }
def TaxPlacesSaid : Prop := taxPlacesRow.holds Try.pinned (OpenSpec.ofChange taxPlacesSpec)

/-- ITS FALSE NEIGHBOUR: 'it returns false'. Refute it at one input. -/
def taxPlacesWrong : ChangeSpec := { name := "taxPlaces", fn := fun _ => fun
  | [d1, d2] => { results := [.lit (.bool false)], args := [d1, d2] }
  | _ => none }
def TaxPlacesWrongFalsely : Prop := taxPlacesRow.holds Try.pinned (OpenSpec.ofChange taxPlacesWrong)

/-- 'innkeeperlaw29.TaxExact': WHATEVER THE INPUT: true; the input reads as it did. -/
def taxExactSpec : ChangeSpec := { name := "taxExact", fn := fun _ => fun
  | [d1, d2] => { results := [.lit (.bool true)], args := [d1, d2] }
  | _ => none }
def taxExactRow : OpenClaim := { program := "ytdbdjhgcmcbiaaa", sum := "a525bf0957b2dbde1ef781c1e1cf9a0813cbc0d021d455e94e1ffde61430a85d", func := "innkeeper/innkeeperlaw29.TaxExact", spec := "taxExact", unfollowed := true, recurses := true, apart := false }
def TaxExactSaid : Prop := taxExactRow.holds Try.pinned (OpenSpec.ofChange taxExactSpec)

/-- ITS FALSE NEIGHBOUR: 'it returns false'. Refute it at one input. -/
def taxExactWrong : ChangeSpec := { name := "taxExact", fn := fun _ => fun
  | [d1, d2] => { results := [.lit (.bool false)], args := [d1, d2] }
  | _ => none }
def TaxExactWrongFalsely : Prop := taxExactRow.holds Try.pinned (OpenSpec.ofChange taxExactWrong)

/-- 'innkeeperlaw29.TaxMore': WHATEVER THE INPUT: true; the input reads as it did. -/
def taxMoreSpec : ChangeSpec := { name := "taxMore", fn := fun _ => fun
  | [d1, d2, d3] => { results := [.lit (.bool true)], args := [d1, d2, d3] }
  | _ => none }
def taxMoreRow : OpenClaim := { program := "ytdbdjhgcmcbiaaa", sum := "a525bf0957b2dbde1ef781c1e1cf9a0813cbc0d021d455e94e1ffde61430a85d", func := "innkeeper/innkeeperlaw29.TaxMore", spec := "taxMore", unfollowed := true, recurses := true, apart := false }
def TaxMoreSaid : Prop := taxMoreRow.holds Try.pinned (OpenSpec.ofChange taxMoreSpec)

/-- ITS FALSE NEIGHBOUR: 'it returns false'. Refute it at one input. -/
def taxMoreWrong : ChangeSpec := { name := "taxMore", fn := fun _ => fun
  | [d1, d2, d3] => { results := [.lit (.bool false)], args := [d1, d2, d3] }
  | _ => none }
def TaxMoreWrongFalsely : Prop := taxMoreRow.holds Try.pinned (OpenSpec.ofChange taxMoreWrong)

/-- 'innkeeperlaw29.TaxFirst': WHATEVER THE INPUT: true; the input reads as it did. -/
def taxFirstSpec : ChangeSpec := { name := "taxFirst", fn := fun _ => fun
  | [d1, d2, d3] => { results := [.lit (.bool true)], args := [d1, d2, d3] }
  | _ => none }
def taxFirstRow : OpenClaim := { program := "ytdbdjhgcmcbiaaa", sum := "a525bf0957b2dbde1ef781c1e1cf9a0813cbc0d021d455e94e1ffde61430a85d", func := "innkeeper/innkeeperlaw29.TaxFirst", spec := "taxFirst", unfollowed := true, recurses := true, apart := false }
def TaxFirstSaid : Prop := taxFirstRow.holds Try.pinned (OpenSpec.ofChange taxFirstSpec)

/-- ITS FALSE NEIGHBOUR: 'it returns false'. Refute it at one input. -/
def taxFirstWrong : ChangeSpec := { name := "taxFirst", fn := fun _ => fun
  | [d1, d2, d3] => { results := [.lit (.bool false)], args := [d1, d2, d3] }
  | _ => none }
def TaxFirstWrongFalsely : Prop := taxFirstRow.holds Try.pinned (OpenSpec.ofChange taxFirstWrong)

/-- 'innkeeperlaw29.TaxTogether': WHATEVER THE INPUT: true; the input reads as it did. -/
def taxTogetherSpec : ChangeSpec := { name := "taxTogether", fn := fun _ => fun
  | [d1, d2] => { results := [.lit (.bool true)], args := [d1, d2] }
  | _ => none }
def taxTogetherRow : OpenClaim := { program := "ytdbdjhgcmcbiaaa", sum := "a525bf0957b2dbde1ef781c1e1cf9a0813cbc0d021d455e94e1ffde61430a85d", func := "innkeeper/innkeeperlaw29.TaxTogether", spec := "taxTogether", unfollowed := true, recurses := true, apart := false }
def TaxTogetherSaid : Prop := taxTogetherRow.holds Try.pinned (OpenSpec.ofChange taxTogetherSpec)

/-- ITS FALSE NEIGHBOUR: 'it returns false'. Refute it at one input. -/
def taxTogetherWrong : ChangeSpec := { name := "taxTogether", fn := fun _ => fun
  | [d1, d2] => { results := [.lit (.bool false)], args := [d1, d2] }
  | _ => none }
def TaxTogetherWrongFalsely : Prop := taxTogetherRow.holds Try.pinned (OpenSpec.ofChange taxTogetherWrong)

/-- 'innkeeperlaw29.TaxNights': WHATEVER THE INPUT: true; the input reads as it did. -/
def taxNightsSpec : ChangeSpec := { name := "taxNights", fn := fun _ => fun
  | [d1, d2] => { results := [.lit (.bool true)], args := [d1, d2] }
  | _ => none }
def taxNightsRow : OpenClaim := { program := "ytdbdjhgcmcbiaaa", sum := "a525bf0957b2dbde1ef781c1e1cf9a0813cbc0d021d455e94e1ffde61430a85d", func := "innkeeper/innkeeperlaw29.TaxNights", spec := "taxNights", unfollowed := true, recurses := true, apart := false }
def TaxNightsSaid : Prop := taxNightsRow.holds Try.pinned (OpenSpec.ofChange taxNightsSpec)

/-- ITS FALSE NEIGHBOUR: 'it returns false'. Refute it at one input. -/
def taxNightsWrong : ChangeSpec := { name := "taxNights", fn := fun _ => fun
  | [d1, d2] => { results := [.lit (.bool false)], args := [d1, d2] }
  | _ => none }
def TaxNightsWrongFalsely : Prop := taxNightsRow.holds Try.pinned (OpenSpec.ofChange taxNightsWrong)

/-- 'innkeeperlaw28.LedgerMatchesReference': WHATEVER THE INPUT: true; the input reads as it did. -/
def ledgerMatchesReferenceSpec : ChangeSpec := { name := "ledgerMatchesReference", fn := fun _ => fun
  | [d1, d2, d3, d4, d5, d6] => { results := [.lit (.bool true)], args := [d1, d2, d3, d4, d5, d6] }
  | _ => none }
def ledgerMatchesReferenceRow : OpenClaim := { program := "ytdbdjhgcmcbiaaa", sum := "a525bf0957b2dbde1ef781c1e1cf9a0813cbc0d021d455e94e1ffde61430a85d", func := "innkeeper/innkeeperlaw28.LedgerMatchesReference", spec := "ledgerMatchesReference", unfollowed := true, recurses := true, apart := false }
def LedgerMatchesReferenceSaid : Prop := ledgerMatchesReferenceRow.holds Try.pinned (OpenSpec.ofChange ledgerMatchesReferenceSpec)

/-- ITS FALSE NEIGHBOUR: 'it returns false'. Refute it at one input. -/
def ledgerMatchesReferenceWrong : ChangeSpec := { name := "ledgerMatchesReference", fn := fun _ => fun
  | [d1, d2, d3, d4, d5, d6] => { results := [.lit (.bool false)], args := [d1, d2, d3, d4, d5, d6] }
  | _ => none }
def LedgerMatchesReferenceWrongFalsely : Prop := ledgerMatchesReferenceRow.holds Try.pinned (OpenSpec.ofChange ledgerMatchesReferenceWrong)

/-- 'innkeeperlaw28.LedgerZero': WHATEVER THE INPUT: true; the input reads as it did. -/
def ledgerZeroSpec : ChangeSpec := { name := "ledgerZero", fn := fun _ => fun
  | [d1, d2, d3] => { results := [.lit (.bool true)], args := [d1, d2, d3] }
  | _ => none }
def ledgerZeroRow : OpenClaim := { program := "ytdbdjhgcmcbiaaa", sum := "a525bf0957b2dbde1ef781c1e1cf9a0813cbc0d021d455e94e1ffde61430a85d", func := "innkeeper/innkeeperlaw28.LedgerZero", spec := "ledgerZero", unfollowed := true, recurses := true, apart := false }
def LedgerZeroSaid : Prop := ledgerZeroRow.holds Try.pinned (OpenSpec.ofChange ledgerZeroSpec)

/-- ITS FALSE NEIGHBOUR: 'it returns false'. Refute it at one input. -/
def ledgerZeroWrong : ChangeSpec := { name := "ledgerZero", fn := fun _ => fun
  | [d1, d2, d3] => { results := [.lit (.bool false)], args := [d1, d2, d3] }
  | _ => none }
def LedgerZeroWrongFalsely : Prop := ledgerZeroRow.holds Try.pinned (OpenSpec.ofChange ledgerZeroWrong)

/-- 'innkeeperlaw28.LedgerPosts': WHATEVER THE INPUT: true; the input reads as it did. -/
def ledgerPostsSpec : ChangeSpec := { name := "ledgerPosts", fn := fun _ => fun
  | [d1, d2, d3, d4] => { results := [.lit (.bool true)], args := [d1, d2, d3, d4] }
  | _ => none }
def ledgerPostsRow : OpenClaim := { program := "ytdbdjhgcmcbiaaa", sum := "a525bf0957b2dbde1ef781c1e1cf9a0813cbc0d021d455e94e1ffde61430a85d", func := "innkeeper/innkeeperlaw28.LedgerPosts", spec := "ledgerPosts", unfollowed := true, recurses := true, apart := false }
def LedgerPostsSaid : Prop := ledgerPostsRow.holds Try.pinned (OpenSpec.ofChange ledgerPostsSpec)

/-- ITS FALSE NEIGHBOUR: 'it returns false'. Refute it at one input. -/
def ledgerPostsWrong : ChangeSpec := { name := "ledgerPosts", fn := fun _ => fun
  | [d1, d2, d3, d4] => { results := [.lit (.bool false)], args := [d1, d2, d3, d4] }
  | _ => none }
def LedgerPostsWrongFalsely : Prop := ledgerPostsRow.holds Try.pinned (OpenSpec.ofChange ledgerPostsWrong)

/-- 'innkeeperlaw28.LedgerUndoes': WHATEVER THE INPUT: true; the input reads as it did. -/
def ledgerUndoesSpec : ChangeSpec := { name := "ledgerUndoes", fn := fun _ => fun
  | [d1, d2, d3, d4] => { results := [.lit (.bool true)], args := [d1, d2, d3, d4] }
  | _ => none }
def ledgerUndoesRow : OpenClaim := { program := "ytdbdjhgcmcbiaaa", sum := "a525bf0957b2dbde1ef781c1e1cf9a0813cbc0d021d455e94e1ffde61430a85d", func := "innkeeper/innkeeperlaw28.LedgerUndoes", spec := "ledgerUndoes", unfollowed := true, recurses := true, apart := false }
def LedgerUndoesSaid : Prop := ledgerUndoesRow.holds Try.pinned (OpenSpec.ofChange ledgerUndoesSpec)

/-- ITS FALSE NEIGHBOUR: 'it returns false'. Refute it at one input. -/
def ledgerUndoesWrong : ChangeSpec := { name := "ledgerUndoes", fn := fun _ => fun
  | [d1, d2, d3, d4] => { results := [.lit (.bool false)], args := [d1, d2, d3, d4] }
  | _ => none }
def LedgerUndoesWrongFalsely : Prop := ledgerUndoesRow.holds Try.pinned (OpenSpec.ofChange ledgerUndoesWrong)

/-- 'innkeeperlaw28.LedgerDays': WHATEVER THE INPUT: true; the input reads as it did. -/
def ledgerDaysSpec : ChangeSpec := { name := "ledgerDays", fn := fun _ => fun
  | [d1, d2, d3, d4] => { results := [.lit (.bool true)], args := [d1, d2, d3, d4] }
  | _ => none }
def ledgerDaysRow : OpenClaim := { program := "ytdbdjhgcmcbiaaa", sum := "a525bf0957b2dbde1ef781c1e1cf9a0813cbc0d021d455e94e1ffde61430a85d", func := "innkeeper/innkeeperlaw28.LedgerDays", spec := "ledgerDays", unfollowed := true, recurses := true, apart := false }
def LedgerDaysSaid : Prop := ledgerDaysRow.holds Try.pinned (OpenSpec.ofChange ledgerDaysSpec)

/-- ITS FALSE NEIGHBOUR: 'it returns false'. Refute it at one input. -/
def ledgerDaysWrong : ChangeSpec := { name := "ledgerDays", fn := fun _ => fun
  | [d1, d2, d3, d4] => { results := [.lit (.bool false)], args := [d1, d2, d3, d4] }
  | _ => none }
def LedgerDaysWrongFalsely : Prop := ledgerDaysRow.holds Try.pinned (OpenSpec.ofChange ledgerDaysWrong)

/- THE SECOND FORM. 'bulk': how many values and letters a reading holds, each counted each time it is reached (what is shared counts as often as it is met; a slice's spare places count too). A statement '..UptoSaid' is the law's where the arguments, and the package variables that the reading takes, are together of bulk at most 1048576: NARROWER than '..Said'. Prove '..Said' where nothing that the law and all that it calls make is longer than what came in: it says more and counts as full. Else prove '..UptoSaid'. A law counts once. -/
mutual
def uptoBulk {H : Type} : DataW H → Nat
  | .lit (.string bytes) => bytes.length + 1
  | .lit _ => 1
  | .nil => 1
  | .ptr d => uptoBulk d + 1
  | .slice elems spare => uptoBulkAll elems + uptoBulkAll spare + 1
  | .agg parts => uptoBulkAll parts + 1
  | .iface _ d => uptoBulk d + 1
  | .map entries => uptoBulkEntries entries + 1
  | .held _ => 1
def uptoBulkAll {H : Type} : List (DataW H) → Nat
  | [] => 0
  | d :: r => uptoBulk d + uptoBulkAll r
def uptoBulkEntries {H : Type} : List (Lit × DataW H) → Nat
  | [] => 0
  | x :: r => uptoBulkEntry x + uptoBulkEntries r
def uptoBulkEntry {H : Type} : Lit × DataW H → Nat
  | (.string bytes, d) => bytes.length + uptoBulk d + 1
  | (_, d) => uptoBulk d + 1
 end
def uptoSmall : (H : Type) → List (DataW H) → Bool := fun _ ds => decide (uptoBulkAll ds ≤ 1048576)
def OpenSpec.upto (s : _root_.Go.ChangeSpec) : _root_.Go.OpenSpec := { _root_.Go.OpenSpec.ofChange s with cond := some uptoSmall }

/-- 'innkeeperlaw29.TaxMatchesReference', WHERE WHAT IT READS IS OF BULK AT MOST 1048576: true; the input reads as it did. -/
def taxMatchesReferenceUptoRow : OpenClaim := { program := "ytdbdjhgcmcbiaaa", sum := "a525bf0957b2dbde1ef781c1e1cf9a0813cbc0d021d455e94e1ffde61430a85d", func := "innkeeper/innkeeperlaw29.TaxMatchesReference", spec := "taxMatchesReference", unfollowed := true, recurses := true, apart := false, narrowed := true }
def TaxMatchesReferenceUptoSaid : Prop := taxMatchesReferenceUptoRow.holds Try.pinned (OpenSpec.upto taxMatchesReferenceSpec)

/-- 'innkeeperlaw29.TaxPlaces', WHERE WHAT IT READS IS OF BULK AT MOST 1048576: true; the input reads as it did. -/
def taxPlacesUptoRow : OpenClaim := { program := "ytdbdjhgcmcbiaaa", sum := "a525bf0957b2dbde1ef781c1e1cf9a0813cbc0d021d455e94e1ffde61430a85d", func := "innkeeper/innkeeperlaw29.TaxPlaces", spec := "taxPlaces", unfollowed := true, recurses := true, apart := false, narrowed := true }
def TaxPlacesUptoSaid : Prop := taxPlacesUptoRow.holds Try.pinned (OpenSpec.upto taxPlacesSpec)

/-- 'innkeeperlaw29.TaxExact', WHERE WHAT IT READS IS OF BULK AT MOST 1048576: true; the input reads as it did. -/
def taxExactUptoRow : OpenClaim := { program := "ytdbdjhgcmcbiaaa", sum := "a525bf0957b2dbde1ef781c1e1cf9a0813cbc0d021d455e94e1ffde61430a85d", func := "innkeeper/innkeeperlaw29.TaxExact", spec := "taxExact", unfollowed := true, recurses := true, apart := false, narrowed := true }
def TaxExactUptoSaid : Prop := taxExactUptoRow.holds Try.pinned (OpenSpec.upto taxExactSpec)

/-- 'innkeeperlaw29.TaxMore', WHERE WHAT IT READS IS OF BULK AT MOST 1048576: true; the input reads as it did. -/
def taxMoreUptoRow : OpenClaim := { program := "ytdbdjhgcmcbiaaa", sum := "a525bf0957b2dbde1ef781c1e1cf9a0813cbc0d021d455e94e1ffde61430a85d", func := "innkeeper/innkeeperlaw29.TaxMore", spec := "taxMore", unfollowed := true, recurses := true, apart := false, narrowed := true }
def TaxMoreUptoSaid : Prop := taxMoreUptoRow.holds Try.pinned (OpenSpec.upto taxMoreSpec)

/-- 'innkeeperlaw29.TaxFirst', WHERE WHAT IT READS IS OF BULK AT MOST 1048576: true; the input reads as it did. -/
def taxFirstUptoRow : OpenClaim := { program := "ytdbdjhgcmcbiaaa", sum := "a525bf0957b2dbde1ef781c1e1cf9a0813cbc0d021d455e94e1ffde61430a85d", func := "innkeeper/innkeeperlaw29.TaxFirst", spec := "taxFirst", unfollowed := true, recurses := true, apart := false, narrowed := true }
def TaxFirstUptoSaid : Prop := taxFirstUptoRow.holds Try.pinned (OpenSpec.upto taxFirstSpec)

/-- 'innkeeperlaw29.TaxTogether', WHERE WHAT IT READS IS OF BULK AT MOST 1048576: true; the input reads as it did. -/
def taxTogetherUptoRow : OpenClaim := { program := "ytdbdjhgcmcbiaaa", sum := "a525bf0957b2dbde1ef781c1e1cf9a0813cbc0d021d455e94e1ffde61430a85d", func := "innkeeper/innkeeperlaw29.TaxTogether", spec := "taxTogether", unfollowed := true, recurses := true, apart := false, narrowed := true }
def TaxTogetherUptoSaid : Prop := taxTogetherUptoRow.holds Try.pinned (OpenSpec.upto taxTogetherSpec)

/-- 'innkeeperlaw29.TaxNights', WHERE WHAT IT READS IS OF BULK AT MOST 1048576: true; the input reads as it did. -/
def taxNightsUptoRow : OpenClaim := { program := "ytdbdjhgcmcbiaaa", sum := "a525bf0957b2dbde1ef781c1e1cf9a0813cbc0d021d455e94e1ffde61430a85d", func := "innkeeper/innkeeperlaw29.TaxNights", spec := "taxNights", unfollowed := true, recurses := true, apart := false, narrowed := true }
def TaxNightsUptoSaid : Prop := taxNightsUptoRow.holds Try.pinned (OpenSpec.upto taxNightsSpec)

/-- 'innkeeperlaw28.LedgerMatchesReference', WHERE WHAT IT READS IS OF BULK AT MOST 1048576: true; the input reads as it did. -/
def ledgerMatchesReferenceUptoRow : OpenClaim := { program := "ytdbdjhgcmcbiaaa", sum := "a525bf0957b2dbde1ef781c1e1cf9a0813cbc0d021d455e94e1ffde61430a85d", func := "innkeeper/innkeeperlaw28.LedgerMatchesReference", spec := "ledgerMatchesReference", unfollowed := true, recurses := true, apart := false, narrowed := true }
def LedgerMatchesReferenceUptoSaid : Prop := ledgerMatchesReferenceUptoRow.holds Try.pinned (OpenSpec.upto ledgerMatchesReferenceSpec)

/-- 'innkeeperlaw28.LedgerZero', WHERE WHAT IT READS IS OF BULK AT MOST 1048576: true; the input reads as it did. -/
def ledgerZeroUptoRow : OpenClaim := { program := "ytdbdjhgcmcbiaaa", sum := "a525bf0957b2dbde1ef781c1e1cf9a0813cbc0d021d455e94e1ffde61430a85d", func := "innkeeper/innkeeperlaw28.LedgerZero", spec := "ledgerZero", unfollowed := true, recurses := true, apart := false, narrowed := true }
def LedgerZeroUptoSaid : Prop := ledgerZeroUptoRow.holds Try.pinned (OpenSpec.upto ledgerZeroSpec)

/-- 'innkeeperlaw28.LedgerPosts', WHERE WHAT IT READS IS OF BULK AT MOST 1048576: true; the input reads as it did. -/
def ledgerPostsUptoRow : OpenClaim := { program := "ytdbdjhgcmcbiaaa", sum := "a525bf0957b2dbde1ef781c1e1cf9a0813cbc0d021d455e94e1ffde61430a85d", func := "innkeeper/innkeeperlaw28.LedgerPosts", spec := "ledgerPosts", unfollowed := true, recurses := true, apart := false, narrowed := true }
def LedgerPostsUptoSaid : Prop := ledgerPostsUptoRow.holds Try.pinned (OpenSpec.upto ledgerPostsSpec)

/-- 'innkeeperlaw28.LedgerUndoes', WHERE WHAT IT READS IS OF BULK AT MOST 1048576: true; the input reads as it did. -/
def ledgerUndoesUptoRow : OpenClaim := { program := "ytdbdjhgcmcbiaaa", sum := "a525bf0957b2dbde1ef781c1e1cf9a0813cbc0d021d455e94e1ffde61430a85d", func := "innkeeper/innkeeperlaw28.LedgerUndoes", spec := "ledgerUndoes", unfollowed := true, recurses := true, apart := false, narrowed := true }
def LedgerUndoesUptoSaid : Prop := ledgerUndoesUptoRow.holds Try.pinned (OpenSpec.upto ledgerUndoesSpec)

/-- 'innkeeperlaw28.LedgerDays', WHERE WHAT IT READS IS OF BULK AT MOST 1048576: true; the input reads as it did. -/
def ledgerDaysUptoRow : OpenClaim := { program := "ytdbdjhgcmcbiaaa", sum := "a525bf0957b2dbde1ef781c1e1cf9a0813cbc0d021d455e94e1ffde61430a85d", func := "innkeeper/innkeeperlaw28.LedgerDays", spec := "ledgerDays", unfollowed := true, recurses := true, apart := false, narrowed := true }
def LedgerDaysUptoSaid : Prop := ledgerDaysUptoRow.holds Try.pinned (OpenSpec.upto ledgerDaysSpec)

end Rows
end Go.Proofs.Ytdbdjhgcmcbiaaa
