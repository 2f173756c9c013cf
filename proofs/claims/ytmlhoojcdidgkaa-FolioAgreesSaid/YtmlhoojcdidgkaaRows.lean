/-
  No cell of these rows narrows 'for every input' (looked for: loops, veiled, ifaces, maps, wideKeys, modest, calm, conditions, laid).
  DERIVED. THE GIVEN ROWS OF THIS SEAT. 7 by the template 'for every input the law returns true; each argument reads behind the call as it read before'; 0 by the template 'total and deterministic' (their statements: YtmlhoojcdidgkaaTotals.lean).
  GIVEN WITH THE SEED: the statements are not yours to turn. If you find one false, say at which input.
  Laid BY PROGRAM, IN A SANDBOX (cutbox-rows.mjs): the forced cells as the released guide's own fill.sh prints them over the translation 5ae8e4b014946b11… (all of the seat's roots in one cut). By AI agents, Wed Nov 11 2026. No macro, syntax, notation, axiom, sorry.
-/
import Derived.Test.YtmlhoojcdidgkaaChecked
import GoSem.Claim
import GoSem.ClaimJoined
import GoSem.ClaimMapViews
import Derived.JoinedTies
import Derived.KernelRfl
namespace Go.Proofs.Ytmlhoojcdidgkaa
/- THE CELL 'sum', in the pinned program and in every row, IS THE sha256 OF THE DUMP (.gsa) THAT YtmlhoojcdidgkaaProg.lean LOADS. Nothing in Lean hashes anything: it is a label: what it is worth is what the hold of that sum in a sandbox is worth. -/
noncomputable def Try.pinned : Pinned := { name := "ytmlhoojcdidgkaa", sum := "5ae8e4b014946b1119c73e3cbac48446867d24538db2d9431c704dadf25b52d9", checked := Try.checked }
namespace Rows
def none {H : Type} : Left H := { results := [], args := [] }

/-- 'innkeeperlaw32.FolioRefused': WHATEVER THE INPUT: true; the input reads as it did. -/
def folioRefusedSpec : ChangeSpec := { name := "folioRefused", fn := fun _ => fun
  | [d1, d2, d3, d4, d5] => { results := [.lit (.bool true)], args := [d1, d2, d3, d4, d5] }
  | _ => none }
def folioRefusedRow : OpenClaim := { program := "ytmlhoojcdidgkaa", sum := "5ae8e4b014946b1119c73e3cbac48446867d24538db2d9431c704dadf25b52d9", func := "innkeeper/innkeeperlaw32.FolioRefused", spec := "folioRefused", unfollowed := true, recurses := true, apart := false }
def FolioRefusedSaid : Prop := folioRefusedRow.holds Try.pinned (OpenSpec.ofChange folioRefusedSpec)

/-- ITS FALSE NEIGHBOUR: 'it returns false'. Refute it at one input. -/
def folioRefusedWrong : ChangeSpec := { name := "folioRefused", fn := fun _ => fun
  | [d1, d2, d3, d4, d5] => { results := [.lit (.bool false)], args := [d1, d2, d3, d4, d5] }
  | _ => none }
def FolioRefusedWrongFalsely : Prop := folioRefusedRow.holds Try.pinned (OpenSpec.ofChange folioRefusedWrong)

/-- 'innkeeperlaw32.FolioOwn': WHATEVER THE INPUT: true; the input reads as it did. -/
def folioOwnSpec : ChangeSpec := { name := "folioOwn", fn := fun _ => fun
  | [d1, d2, d3, d4, d5, d6] => { results := [.lit (.bool true)], args := [d1, d2, d3, d4, d5, d6] }
  | _ => none }
def folioOwnRow : OpenClaim := { program := "ytmlhoojcdidgkaa", sum := "5ae8e4b014946b1119c73e3cbac48446867d24538db2d9431c704dadf25b52d9", func := "innkeeper/innkeeperlaw32.FolioOwn", spec := "folioOwn", unfollowed := true, recurses := true, apart := false }
def FolioOwnSaid : Prop := folioOwnRow.holds Try.pinned (OpenSpec.ofChange folioOwnSpec)

/-- ITS FALSE NEIGHBOUR: 'it returns false'. Refute it at one input. -/
def folioOwnWrong : ChangeSpec := { name := "folioOwn", fn := fun _ => fun
  | [d1, d2, d3, d4, d5, d6] => { results := [.lit (.bool false)], args := [d1, d2, d3, d4, d5, d6] }
  | _ => none }
def FolioOwnWrongFalsely : Prop := folioOwnRow.holds Try.pinned (OpenSpec.ofChange folioOwnWrong)

/-- 'innkeeperlaw32.FolioLeft': WHATEVER THE INPUT: true; the input reads as it did. -/
def folioLeftSpec : ChangeSpec := { name := "folioLeft", fn := fun _ => fun
  | [d1, d2, d3, d4, d5] => { results := [.lit (.bool true)], args := [d1, d2, d3, d4, d5] }
  | _ => none }
def folioLeftRow : OpenClaim := { program := "ytmlhoojcdidgkaa", sum := "5ae8e4b014946b1119c73e3cbac48446867d24538db2d9431c704dadf25b52d9", func := "innkeeper/innkeeperlaw32.FolioLeft", spec := "folioLeft", unfollowed := true, recurses := true, apart := false }
def FolioLeftSaid : Prop := folioLeftRow.holds Try.pinned (OpenSpec.ofChange folioLeftSpec)

/-- ITS FALSE NEIGHBOUR: 'it returns false'. Refute it at one input. -/
def folioLeftWrong : ChangeSpec := { name := "folioLeft", fn := fun _ => fun
  | [d1, d2, d3, d4, d5] => { results := [.lit (.bool false)], args := [d1, d2, d3, d4, d5] }
  | _ => none }
def FolioLeftWrongFalsely : Prop := folioLeftRow.holds Try.pinned (OpenSpec.ofChange folioLeftWrong)

/-- 'innkeeperlaw32.FolioOwed': WHATEVER THE INPUT: true; the input reads as it did. -/
def folioOwedSpec : ChangeSpec := { name := "folioOwed", fn := fun _ => fun
  | [d1, d2, d3, d4, d5] => { results := [.lit (.bool true)], args := [d1, d2, d3, d4, d5] }
  | _ => none }
def folioOwedRow : OpenClaim := { program := "ytmlhoojcdidgkaa", sum := "5ae8e4b014946b1119c73e3cbac48446867d24538db2d9431c704dadf25b52d9", func := "innkeeper/innkeeperlaw32.FolioOwed", spec := "folioOwed", unfollowed := true, recurses := true, apart := false }
def FolioOwedSaid : Prop := folioOwedRow.holds Try.pinned (OpenSpec.ofChange folioOwedSpec)

/-- ITS FALSE NEIGHBOUR: 'it returns false'. Refute it at one input. -/
def folioOwedWrong : ChangeSpec := { name := "folioOwed", fn := fun _ => fun
  | [d1, d2, d3, d4, d5] => { results := [.lit (.bool false)], args := [d1, d2, d3, d4, d5] }
  | _ => none }
def FolioOwedWrongFalsely : Prop := folioOwedRow.holds Try.pinned (OpenSpec.ofChange folioOwedWrong)

/-- 'innkeeperlaw32.FolioLedgers': WHATEVER THE INPUT: true; the input reads as it did. -/
def folioLedgersSpec : ChangeSpec := { name := "folioLedgers", fn := fun _ => fun
  | [d1, d2, d3, d4, d5, d6] => { results := [.lit (.bool true)], args := [d1, d2, d3, d4, d5, d6] }
  | _ => none }
def folioLedgersRow : OpenClaim := { program := "ytmlhoojcdidgkaa", sum := "5ae8e4b014946b1119c73e3cbac48446867d24538db2d9431c704dadf25b52d9", func := "innkeeper/innkeeperlaw32.FolioLedgers", spec := "folioLedgers", unfollowed := true, recurses := true, apart := false }
def FolioLedgersSaid : Prop := folioLedgersRow.holds Try.pinned (OpenSpec.ofChange folioLedgersSpec)

/-- ITS FALSE NEIGHBOUR: 'it returns false'. Refute it at one input. -/
def folioLedgersWrong : ChangeSpec := { name := "folioLedgers", fn := fun _ => fun
  | [d1, d2, d3, d4, d5, d6] => { results := [.lit (.bool false)], args := [d1, d2, d3, d4, d5, d6] }
  | _ => none }
def FolioLedgersWrongFalsely : Prop := folioLedgersRow.holds Try.pinned (OpenSpec.ofChange folioLedgersWrong)

/-- 'innkeeperlaw32.FolioBroke': WHATEVER THE INPUT: true; the input reads as it did. -/
def folioBrokeSpec : ChangeSpec := { name := "folioBroke", fn := fun _ => fun
  | [d1, d2, d3, d4, d5, d6] => { results := [.lit (.bool true)], args := [d1, d2, d3, d4, d5, d6] }
  | _ => none }
def folioBrokeRow : OpenClaim := { program := "ytmlhoojcdidgkaa", sum := "5ae8e4b014946b1119c73e3cbac48446867d24538db2d9431c704dadf25b52d9", func := "innkeeper/innkeeperlaw32.FolioBroke", spec := "folioBroke", unfollowed := true, recurses := true, apart := false }
def FolioBrokeSaid : Prop := folioBrokeRow.holds Try.pinned (OpenSpec.ofChange folioBrokeSpec)

/-- ITS FALSE NEIGHBOUR: 'it returns false'. Refute it at one input. -/
def folioBrokeWrong : ChangeSpec := { name := "folioBroke", fn := fun _ => fun
  | [d1, d2, d3, d4, d5, d6] => { results := [.lit (.bool false)], args := [d1, d2, d3, d4, d5, d6] }
  | _ => none }
def FolioBrokeWrongFalsely : Prop := folioBrokeRow.holds Try.pinned (OpenSpec.ofChange folioBrokeWrong)

/-- 'innkeeperlaw32.FolioAgrees': WHATEVER THE INPUT: true; the input reads as it did. -/
def folioAgreesSpec : ChangeSpec := { name := "folioAgrees", fn := fun _ => fun
  | [d1, d2, d3, d4, d5, d6] => { results := [.lit (.bool true)], args := [d1, d2, d3, d4, d5, d6] }
  | _ => none }
def folioAgreesRow : OpenClaim := { program := "ytmlhoojcdidgkaa", sum := "5ae8e4b014946b1119c73e3cbac48446867d24538db2d9431c704dadf25b52d9", func := "innkeeper/innkeeperlaw32.FolioAgrees", spec := "folioAgrees", unfollowed := true, recurses := true, apart := false }
def FolioAgreesSaid : Prop := folioAgreesRow.holds Try.pinned (OpenSpec.ofChange folioAgreesSpec)

/-- ITS FALSE NEIGHBOUR: 'it returns false'. Refute it at one input. -/
def folioAgreesWrong : ChangeSpec := { name := "folioAgrees", fn := fun _ => fun
  | [d1, d2, d3, d4, d5, d6] => { results := [.lit (.bool false)], args := [d1, d2, d3, d4, d5, d6] }
  | _ => none }
def FolioAgreesWrongFalsely : Prop := folioAgreesRow.holds Try.pinned (OpenSpec.ofChange folioAgreesWrong)

/- THE SECOND FORM. 'bulk': how many values and letters a reading holds, each counted each time it is reached (what is shared counts as often as it is met; a slice's spare places count too). A statement '..UptoSaid' is the law's where the arguments, and the package variables that the reading takes, are together of bulk at most 1048576: NARROWER than '..Said'. Prove '..Said' where nothing that the law and all that it calls make is longer than what came in: it says more and counts as full. Else prove '..UptoSaid'. A law counts once. -/
mutual
def uptoBulk {H : Type} : DataW H → Nat
  | .lit (.string bytes) => bytes.length + 1
  | .lit _ => 1
  | .nil => 1
  | .ptr d => uptoBulk d + 1
  | .slice elems spare => uptoBulkAll elems + uptoBulkAll spare + 1
  | .agg parts => uptoBulkAll parts + 1
  | .iface _ d => uptoBulk d + 1
  | .map entries => uptoBulkEntries entries + 1
  | .held _ => 1
def uptoBulkAll {H : Type} : List (DataW H) → Nat
  | [] => 0
  | d :: r => uptoBulk d + uptoBulkAll r
def uptoBulkEntries {H : Type} : List (Lit × DataW H) → Nat
  | [] => 0
  | x :: r => uptoBulkEntry x + uptoBulkEntries r
def uptoBulkEntry {H : Type} : Lit × DataW H → Nat
  | (.string bytes, d) => bytes.length + uptoBulk d + 1
  | (_, d) => uptoBulk d + 1
 end
def uptoSmall : (H : Type) → List (DataW H) → Bool := fun _ ds => decide (uptoBulkAll ds ≤ 1048576)
def OpenSpec.upto (s : _root_.Go.ChangeSpec) : _root_.Go.OpenSpec := { _root_.Go.OpenSpec.ofChange s with cond := some uptoSmall }

/-- 'innkeeperlaw32.FolioRefused', WHERE WHAT IT READS IS OF BULK AT MOST 1048576: true; the input reads as it did. -/
def folioRefusedUptoRow : OpenClaim := { program := "ytmlhoojcdidgkaa", sum := "5ae8e4b014946b1119c73e3cbac48446867d24538db2d9431c704dadf25b52d9", func := "innkeeper/innkeeperlaw32.FolioRefused", spec := "folioRefused", unfollowed := true, recurses := true, apart := false, narrowed := true }
def FolioRefusedUptoSaid : Prop := folioRefusedUptoRow.holds Try.pinned (OpenSpec.upto folioRefusedSpec)

/-- 'innkeeperlaw32.FolioOwn', WHERE WHAT IT READS IS OF BULK AT MOST 1048576: true; the input reads as it did. -/
def folioOwnUptoRow : OpenClaim := { program := "ytmlhoojcdidgkaa", sum := "5ae8e4b014946b1119c73e3cbac48446867d24538db2d9431c704dadf25b52d9", func := "innkeeper/innkeeperlaw32.FolioOwn", spec := "folioOwn", unfollowed := true, recurses := true, apart := false, narrowed := true }
def FolioOwnUptoSaid : Prop := folioOwnUptoRow.holds Try.pinned (OpenSpec.upto folioOwnSpec)

/-- 'innkeeperlaw32.FolioLeft', WHERE WHAT IT READS IS OF BULK AT MOST 1048576: true; the input reads as it did. -/
def folioLeftUptoRow : OpenClaim := { program := "ytmlhoojcdidgkaa", sum := "5ae8e4b014946b1119c73e3cbac48446867d24538db2d9431c704dadf25b52d9", func := "innkeeper/innkeeperlaw32.FolioLeft", spec := "folioLeft", unfollowed := true, recurses := true, apart := false, narrowed := true }
def FolioLeftUptoSaid : Prop := folioLeftUptoRow.holds Try.pinned (OpenSpec.upto folioLeftSpec)

/-- 'innkeeperlaw32.FolioOwed', WHERE WHAT IT READS IS OF BULK AT MOST 1048576: true; the input reads as it did. -/
def folioOwedUptoRow : OpenClaim := { program := "ytmlhoojcdidgkaa", sum := "5ae8e4b014946b1119c73e3cbac48446867d24538db2d9431c704dadf25b52d9", func := "innkeeper/innkeeperlaw32.FolioOwed", spec := "folioOwed", unfollowed := true, recurses := true, apart := false, narrowed := true }
def FolioOwedUptoSaid : Prop := folioOwedUptoRow.holds Try.pinned (OpenSpec.upto folioOwedSpec)

/-- 'innkeeperlaw32.FolioLedgers', WHERE WHAT IT READS IS OF BULK AT MOST 1048576: true; the input reads as it did. -/
def folioLedgersUptoRow : OpenClaim := { program := "ytmlhoojcdidgkaa", sum := "5ae8e4b014946b1119c73e3cbac48446867d24538db2d9431c704dadf25b52d9", func := "innkeeper/innkeeperlaw32.FolioLedgers", spec := "folioLedgers", unfollowed := true, recurses := true, apart := false, narrowed := true }
def FolioLedgersUptoSaid : Prop := folioLedgersUptoRow.holds Try.pinned (OpenSpec.upto folioLedgersSpec)

/-- 'innkeeperlaw32.FolioBroke', WHERE WHAT IT READS IS OF BULK AT MOST 1048576: true; the input reads as it did. -/
def folioBrokeUptoRow : OpenClaim := { program := "ytmlhoojcdidgkaa", sum := "5ae8e4b014946b1119c73e3cbac48446867d24538db2d9431c704dadf25b52d9", func := "innkeeper/innkeeperlaw32.FolioBroke", spec := "folioBroke", unfollowed := true, recurses := true, apart := false, narrowed := true }
def FolioBrokeUptoSaid : Prop := folioBrokeUptoRow.holds Try.pinned (OpenSpec.upto folioBrokeSpec)

/-- 'innkeeperlaw32.FolioAgrees', WHERE WHAT IT READS IS OF BULK AT MOST 1048576: true; the input reads as it did. -/
def folioAgreesUptoRow : OpenClaim := { program := "ytmlhoojcdidgkaa", sum := "5ae8e4b014946b1119c73e3cbac48446867d24538db2d9431c704dadf25b52d9", func := "innkeeper/innkeeperlaw32.FolioAgrees", spec := "folioAgrees", unfollowed := true, recurses := true, apart := false, narrowed := true }
def FolioAgreesUptoSaid : Prop := folioAgreesUptoRow.holds Try.pinned (OpenSpec.upto folioAgreesSpec)

end Rows
end Go.Proofs.Ytmlhoojcdidgkaa
