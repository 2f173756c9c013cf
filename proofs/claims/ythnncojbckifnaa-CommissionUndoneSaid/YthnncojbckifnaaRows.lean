/-
  No cell of these rows narrows 'for every input' (looked for: loops, veiled, ifaces, maps, wideKeys, modest, calm, conditions, laid).
  DERIVED. THE GIVEN ROWS OF THIS SEAT. 10 by the template 'for every input the law returns true; each argument reads behind the call as it read before'; 0 by the template 'total and deterministic' (their statements: YthnncojbckifnaaTotals.lean).
  GIVEN WITH THE SEED: the statements are not yours to turn. If you find one false, say at which input.
  Laid BY PROGRAM, IN A SANDBOX (cutbox-rows.mjs): the forced cells as the released guide's own fill.sh prints them over the translation 922f71f2a3cfe3a2… (all of the seat's roots in one cut). By AI agents, Wed Nov 11 2026. No macro, syntax, notation, axiom, sorry.
-/
import Derived.Test.YthnncojbckifnaaChecked
import GoSem.Claim
import GoSem.ClaimJoined
import GoSem.ClaimMapViews
import Derived.JoinedTies
import Derived.KernelRfl
namespace Go.Proofs.Ythnncojbckifnaa
/- THE CELL 'sum', in the pinned program and in every row, IS THE sha256 OF THE DUMP (.gsa) THAT YthnncojbckifnaaProg.lean LOADS. Nothing in Lean hashes anything: it is a label: what it is worth is what the hold of that sum in a sandbox is worth. -/
noncomputable def Try.pinned : Pinned := { name := "ythnncojbckifnaa", sum := "922f71f2a3cfe3a25dff06e34ff693862e0a56dd57692ea22baa2464c8ac3065", checked := Try.checked }
namespace Rows
def none {H : Type} : Left H := { results := [], args := [] }

/-- 'innkeeperlaw31.DepositMatchesReference': WHATEVER THE INPUT: true; the input reads as it did. -/
def depositMatchesReferenceSpec : ChangeSpec := { name := "depositMatchesReference", fn := fun _ => fun
  | [d1, d2, d3, d4, d5] => { results := [.lit (.bool true)], args := [d1, d2, d3, d4, d5] }
  | _ => none }
def depositMatchesReferenceRow : OpenClaim := { program := "ythnncojbckifnaa", sum := "922f71f2a3cfe3a25dff06e34ff693862e0a56dd57692ea22baa2464c8ac3065", func := "innkeeper/innkeeperlaw31.DepositMatchesReference", spec := "depositMatchesReference", unfollowed := true, recurses := true, apart := false }
def DepositMatchesReferenceSaid : Prop := depositMatchesReferenceRow.holds Try.pinned (OpenSpec.ofChange depositMatchesReferenceSpec)

/-- ITS FALSE NEIGHBOUR: 'it returns false'. Refute it at one input. -/
def depositMatchesReferenceWrong : ChangeSpec := { name := "depositMatchesReference", fn := fun _ => fun
  | [d1, d2, d3, d4, d5] => { results := [.lit (.bool false)], args := [d1, d2, d3, d4, d5] }
  | _ => none }
def DepositMatchesReferenceWrongFalsely : Prop := depositMatchesReferenceRow.holds Try.pinned (OpenSpec.ofChange depositMatchesReferenceWrong)

/-- 'innkeeperlaw31.DepositRefunds': WHATEVER THE INPUT: true; the input reads as it did. -/
def depositRefundsSpec : ChangeSpec := { name := "depositRefunds", fn := fun _ => fun
  | [d1, d2] => { results := [.lit (.bool true)], args := [d1, d2] }
  | _ => none }
def depositRefundsRow : OpenClaim := { program := "ythnncojbckifnaa", sum := "922f71f2a3cfe3a25dff06e34ff693862e0a56dd57692ea22baa2464c8ac3065", func := "innkeeper/innkeeperlaw31.DepositRefunds", spec := "depositRefunds", unfollowed := true, recurses := true, apart := false }
def DepositRefundsSaid : Prop := depositRefundsRow.holds Try.pinned (OpenSpec.ofChange depositRefundsSpec)

/-- ITS FALSE NEIGHBOUR: 'it returns false'. Refute it at one input. -/
def depositRefundsWrong : ChangeSpec := { name := "depositRefunds", fn := fun _ => fun
  | [d1, d2] => { results := [.lit (.bool false)], args := [d1, d2] }
  | _ => none }
def DepositRefundsWrongFalsely : Prop := depositRefundsRow.holds Try.pinned (OpenSpec.ofChange depositRefundsWrong)

/-- 'innkeeperlaw31.DepositMore': WHATEVER THE INPUT: true; the input reads as it did. -/
def depositMoreSpec : ChangeSpec := { name := "depositMore", fn := fun _ => fun
  | [d1, d2, d3, d4] => { results := [.lit (.bool true)], args := [d1, d2, d3, d4] }
  | _ => none }
def depositMoreRow : OpenClaim := { program := "ythnncojbckifnaa", sum := "922f71f2a3cfe3a25dff06e34ff693862e0a56dd57692ea22baa2464c8ac3065", func := "innkeeper/innkeeperlaw31.DepositMore", spec := "depositMore", unfollowed := true, recurses := true, apart := false }
def DepositMoreSaid : Prop := depositMoreRow.holds Try.pinned (OpenSpec.ofChange depositMoreSpec)

/-- ITS FALSE NEIGHBOUR: 'it returns false'. Refute it at one input. -/
def depositMoreWrong : ChangeSpec := { name := "depositMore", fn := fun _ => fun
  | [d1, d2, d3, d4] => { results := [.lit (.bool false)], args := [d1, d2, d3, d4] }
  | _ => none }
def DepositMoreWrongFalsely : Prop := depositMoreRow.holds Try.pinned (OpenSpec.ofChange depositMoreWrong)

/-- 'innkeeperlaw31.DepositVouchers': WHATEVER THE INPUT: true; the input reads as it did. -/
def depositVouchersSpec : ChangeSpec := { name := "depositVouchers", fn := fun _ => fun
  | [d1, d2, d3] => { results := [.lit (.bool true)], args := [d1, d2, d3] }
  | _ => none }
def depositVouchersRow : OpenClaim := { program := "ythnncojbckifnaa", sum := "922f71f2a3cfe3a25dff06e34ff693862e0a56dd57692ea22baa2464c8ac3065", func := "innkeeper/innkeeperlaw31.DepositVouchers", spec := "depositVouchers", unfollowed := true, recurses := true, apart := false }
def DepositVouchersSaid : Prop := depositVouchersRow.holds Try.pinned (OpenSpec.ofChange depositVouchersSpec)

/-- ITS FALSE NEIGHBOUR: 'it returns false'. Refute it at one input. -/
def depositVouchersWrong : ChangeSpec := { name := "depositVouchers", fn := fun _ => fun
  | [d1, d2, d3] => { results := [.lit (.bool false)], args := [d1, d2, d3] }
  | _ => none }
def DepositVouchersWrongFalsely : Prop := depositVouchersRow.holds Try.pinned (OpenSpec.ofChange depositVouchersWrong)

/-- 'innkeeperlaw30.CommissionMatchesReference': WHATEVER THE INPUT: true; the input reads as it did. -/
def commissionMatchesReferenceSpec : ChangeSpec := { name := "commissionMatchesReference", fn := fun _ => fun
  | [d1, d2, d3, d4, d5] => { results := [.lit (.bool true)], args := [d1, d2, d3, d4, d5] }
  | _ => none }
def commissionMatchesReferenceRow : OpenClaim := { program := "ythnncojbckifnaa", sum := "922f71f2a3cfe3a25dff06e34ff693862e0a56dd57692ea22baa2464c8ac3065", func := "innkeeper/innkeeperlaw30.CommissionMatchesReference", spec := "commissionMatchesReference", unfollowed := true, recurses := true, apart := false }
def CommissionMatchesReferenceSaid : Prop := commissionMatchesReferenceRow.holds Try.pinned (OpenSpec.ofChange commissionMatchesReferenceSpec)

/-- ITS FALSE NEIGHBOUR: 'it returns false'. Refute it at one input. -/
def commissionMatchesReferenceWrong : ChangeSpec := { name := "commissionMatchesReference", fn := fun _ => fun
  | [d1, d2, d3, d4, d5] => { results := [.lit (.bool false)], args := [d1, d2, d3, d4, d5] }
  | _ => none }
def CommissionMatchesReferenceWrongFalsely : Prop := commissionMatchesReferenceRow.holds Try.pinned (OpenSpec.ofChange commissionMatchesReferenceWrong)

/-- 'innkeeperlaw30.CommissionNearest': WHATEVER THE INPUT: true; the input reads as it did. -/
def commissionNearestSpec : ChangeSpec := { name := "commissionNearest", fn := fun _ => fun
  | [d1, d2, d3] => { results := [.lit (.bool true)], args := [d1, d2, d3] }
  | _ => none }
def commissionNearestRow : OpenClaim := { program := "ythnncojbckifnaa", sum := "922f71f2a3cfe3a25dff06e34ff693862e0a56dd57692ea22baa2464c8ac3065", func := "innkeeper/innkeeperlaw30.CommissionNearest", spec := "commissionNearest", unfollowed := true, recurses := true, apart := false }
def CommissionNearestSaid : Prop := commissionNearestRow.holds Try.pinned (OpenSpec.ofChange commissionNearestSpec)

/-- ITS FALSE NEIGHBOUR: 'it returns false'. Refute it at one input. -/
def commissionNearestWrong : ChangeSpec := { name := "commissionNearest", fn := fun _ => fun
  | [d1, d2, d3] => { results := [.lit (.bool false)], args := [d1, d2, d3] }
  | _ => none }
def CommissionNearestWrongFalsely : Prop := commissionNearestRow.holds Try.pinned (OpenSpec.ofChange commissionNearestWrong)

/-- 'innkeeperlaw30.CommissionStatements': WHATEVER THE INPUT: true; the input reads as it did. -/
def commissionStatementsSpec : ChangeSpec := { name := "commissionStatements", fn := fun _ => fun
  | [d1, d2, d3, d4] => { results := [.lit (.bool true)], args := [d1, d2, d3, d4] }
  | _ => none }
def commissionStatementsRow : OpenClaim := { program := "ythnncojbckifnaa", sum := "922f71f2a3cfe3a25dff06e34ff693862e0a56dd57692ea22baa2464c8ac3065", func := "innkeeper/innkeeperlaw30.CommissionStatements", spec := "commissionStatements", unfollowed := true, recurses := true, apart := false }
def CommissionStatementsSaid : Prop := commissionStatementsRow.holds Try.pinned (OpenSpec.ofChange commissionStatementsSpec)

/-- ITS FALSE NEIGHBOUR: 'it returns false'. Refute it at one input. -/
def commissionStatementsWrong : ChangeSpec := { name := "commissionStatements", fn := fun _ => fun
  | [d1, d2, d3, d4] => { results := [.lit (.bool false)], args := [d1, d2, d3, d4] }
  | _ => none }
def CommissionStatementsWrongFalsely : Prop := commissionStatementsRow.holds Try.pinned (OpenSpec.ofChange commissionStatementsWrong)

/-- 'innkeeperlaw30.CommissionPosted': WHATEVER THE INPUT: true; the input reads as it did. -/
def commissionPostedSpec : ChangeSpec := { name := "commissionPosted", fn := fun _ => fun
  | [d1, d2, d3, d4, d5] => { results := [.lit (.bool true)], args := [d1, d2, d3, d4, d5] }
  | _ => none }
def commissionPostedRow : OpenClaim := { program := "ythnncojbckifnaa", sum := "922f71f2a3cfe3a25dff06e34ff693862e0a56dd57692ea22baa2464c8ac3065", func := "innkeeper/innkeeperlaw30.CommissionPosted", spec := "commissionPosted", unfollowed := true, recurses := true, apart := false }
def CommissionPostedSaid : Prop := commissionPostedRow.holds Try.pinned (OpenSpec.ofChange commissionPostedSpec)

/-- ITS FALSE NEIGHBOUR: 'it returns false'. Refute it at one input. -/
def commissionPostedWrong : ChangeSpec := { name := "commissionPosted", fn := fun _ => fun
  | [d1, d2, d3, d4, d5] => { results := [.lit (.bool false)], args := [d1, d2, d3, d4, d5] }
  | _ => none }
def CommissionPostedWrongFalsely : Prop := commissionPostedRow.holds Try.pinned (OpenSpec.ofChange commissionPostedWrong)

/-- 'innkeeperlaw31.DepositSettles': WHATEVER THE INPUT: true; the input reads as it did. -/
def depositSettlesSpec : ChangeSpec := { name := "depositSettles", fn := fun _ => fun
  | [d1, d2, d3, d4] => { results := [.lit (.bool true)], args := [d1, d2, d3, d4] }
  | _ => none }
def depositSettlesRow : OpenClaim := { program := "ythnncojbckifnaa", sum := "922f71f2a3cfe3a25dff06e34ff693862e0a56dd57692ea22baa2464c8ac3065", func := "innkeeper/innkeeperlaw31.DepositSettles", spec := "depositSettles", unfollowed := true, recurses := true, apart := false }
def DepositSettlesSaid : Prop := depositSettlesRow.holds Try.pinned (OpenSpec.ofChange depositSettlesSpec)

/-- ITS FALSE NEIGHBOUR: 'it returns false'. Refute it at one input. -/
def depositSettlesWrong : ChangeSpec := { name := "depositSettles", fn := fun _ => fun
  | [d1, d2, d3, d4] => { results := [.lit (.bool false)], args := [d1, d2, d3, d4] }
  | _ => none }
def DepositSettlesWrongFalsely : Prop := depositSettlesRow.holds Try.pinned (OpenSpec.ofChange depositSettlesWrong)

/-- 'innkeeperlaw30.CommissionUndone': WHATEVER THE INPUT: true; the input reads as it did. -/
def commissionUndoneSpec : ChangeSpec := { name := "commissionUndone", fn := fun _ => fun
  | [d1, d2, d3, d4] => { results := [.lit (.bool true)], args := [d1, d2, d3, d4] }
  | _ => none }
def commissionUndoneRow : OpenClaim := { program := "ythnncojbckifnaa", sum := "922f71f2a3cfe3a25dff06e34ff693862e0a56dd57692ea22baa2464c8ac3065", func := "innkeeper/innkeeperlaw30.CommissionUndone", spec := "commissionUndone", unfollowed := true, recurses := true, apart := false }
def CommissionUndoneSaid : Prop := commissionUndoneRow.holds Try.pinned (OpenSpec.ofChange commissionUndoneSpec)

/-- ITS FALSE NEIGHBOUR: 'it returns false'. Refute it at one input. -/
def commissionUndoneWrong : ChangeSpec := { name := "commissionUndone", fn := fun _ => fun
  | [d1, d2, d3, d4] => { results := [.lit (.bool false)], args := [d1, d2, d3, d4] }
  | _ => none }
def CommissionUndoneWrongFalsely : Prop := commissionUndoneRow.holds Try.pinned (OpenSpec.ofChange commissionUndoneWrong)

/- THE SECOND FORM. 'bulk': how many values and letters a reading holds, each counted each time it is reached (what is shared counts as often as it is met; a slice's spare places count too). A statement '..UptoSaid' is the law's where the arguments, and the package variables that the reading takes, are together of bulk at most 1048576: NARROWER than '..Said'. Prove '..Said' where nothing that the law and all that it calls make is longer than what came in: it says more and counts as full. Else prove '..UptoSaid'. A law counts once. -/
mutual
def uptoBulk {H : Type} : DataW H → Nat
  | .lit (.string bytes) => bytes.length + 1
  | .lit _ => 1
  | .nil => 1
  | .ptr d => uptoBulk d + 1
  | .slice elems spare => uptoBulkAll elems + uptoBulkAll spare + 1
  | .agg parts => uptoBulkAll parts + 1
  | .iface _ d => uptoBulk d + 1
  | .map entries => uptoBulkEntries entries + 1
  | .held _ => 1
def uptoBulkAll {H : Type} : List (DataW H) → Nat
  | [] => 0
  | d :: r => uptoBulk d + uptoBulkAll r
def uptoBulkEntries {H : Type} : List (Lit × DataW H) → Nat
  | [] => 0
  | x :: r => uptoBulkEntry x + uptoBulkEntries r
def uptoBulkEntry {H : Type} : Lit × DataW H → Nat
  | (.string bytes, d) => bytes.length + uptoBulk d + 1
  | (_, d) => uptoBulk d + 1
 end
def uptoSmall : (H : Type) → List (DataW H) → Bool := fun _ ds => decide (uptoBulkAll ds ≤ 1048576)
def OpenSpec.upto (s : _root_.Go.ChangeSpec) : _root_.Go.OpenSpec := { _root_.Go.OpenSpec.ofChange s with cond := some uptoSmall }

/-- 'innkeeperlaw31.DepositMatchesReference', WHERE WHAT IT READS IS OF BULK AT MOST 1048576: true; the input reads as it did. -/
def depositMatchesReferenceUptoRow : OpenClaim := { program := "ythnncojbckifnaa", sum := "922f71f2a3cfe3a25dff06e34ff693862e0a56dd57692ea22baa2464c8ac3065", func := "innkeeper/innkeeperlaw31.DepositMatchesReference", spec := "depositMatchesReference", unfollowed := true, recurses := true, apart := false, narrowed := true }
def DepositMatchesReferenceUptoSaid : Prop := depositMatchesReferenceUptoRow.holds Try.pinned (OpenSpec.upto depositMatchesReferenceSpec)

/-- 'innkeeperlaw31.DepositRefunds', WHERE WHAT IT READS IS OF BULK AT MOST 1048576: true; the input reads as it did. -/
def depositRefundsUptoRow : OpenClaim := { program := "ythnncojbckifnaa", sum := "922f71f2a3cfe3a25dff06e34ff693862e0a56dd57692ea22baa2464c8ac3065", func := "innkeeper/innkeeperlaw31.DepositRefunds", spec := "depositRefunds", unfollowed := true, recurses := true, apart := false, narrowed := true }
def DepositRefundsUptoSaid : Prop := depositRefundsUptoRow.holds Try.pinned (OpenSpec.upto depositRefundsSpec)

/-- 'innkeeperlaw31.DepositMore', WHERE WHAT IT READS IS OF BULK AT MOST 1048576: true; the input reads as it did. -/
def depositMoreUptoRow : OpenClaim := { program := "ythnncojbckifnaa", sum := "922f71f2a3cfe3a25dff06e34ff693862e0a56dd57692ea22baa2464c8ac3065", func := "innkeeper/innkeeperlaw31.DepositMore", spec := "depositMore", unfollowed := true, recurses := true, apart := false, narrowed := true }
def DepositMoreUptoSaid : Prop := depositMoreUptoRow.holds Try.pinned (OpenSpec.upto depositMoreSpec)

/-- 'innkeeperlaw31.DepositVouchers', WHERE WHAT IT READS IS OF BULK AT MOST 1048576: true; the input reads as it did. -/
def depositVouchersUptoRow : OpenClaim := { program := "ythnncojbckifnaa", sum := "922f71f2a3cfe3a25dff06e34ff693862e0a56dd57692ea22baa2464c8ac3065", func := "innkeeper/innkeeperlaw31.DepositVouchers", spec := "depositVouchers", unfollowed := true, recurses := true, apart := false, narrowed := true }
def DepositVouchersUptoSaid : Prop := depositVouchersUptoRow.holds Try.pinned (OpenSpec.upto depositVouchersSpec)

/-- 'innkeeperlaw30.CommissionMatchesReference', WHERE WHAT IT READS IS OF BULK AT MOST 1048576: true; the input reads as it did. -/
def commissionMatchesReferenceUptoRow : OpenClaim := { program := "ythnncojbckifnaa", sum := "922f71f2a3cfe3a25dff06e34ff693862e0a56dd57692ea22baa2464c8ac3065", func := "innkeeper/innkeeperlaw30.CommissionMatchesReference", spec := "commissionMatchesReference", unfollowed := true, recurses := true, apart := false, narrowed := true }
def CommissionMatchesReferenceUptoSaid : Prop := commissionMatchesReferenceUptoRow.holds Try.pinned (OpenSpec.upto commissionMatchesReferenceSpec)

/-- 'innkeeperlaw30.CommissionNearest', WHERE WHAT IT READS IS OF BULK AT MOST 1048576: true; the input reads as it did. -/
def commissionNearestUptoRow : OpenClaim := { program := "ythnncojbckifnaa", sum := "922f71f2a3cfe3a25dff06e34ff693862e0a56dd57692ea22baa2464c8ac3065", func := "innkeeper/innkeeperlaw30.CommissionNearest", spec := "commissionNearest", unfollowed := true, recurses := true, apart := false, narrowed := true }
def CommissionNearestUptoSaid : Prop := commissionNearestUptoRow.holds Try.pinned (OpenSpec.upto commissionNearestSpec)

/-- 'innkeeperlaw30.CommissionStatements', WHERE WHAT IT READS IS OF BULK AT MOST 1048576: true; the input reads as it did. -/
def commissionStatementsUptoRow : OpenClaim := { program := "ythnncojbckifnaa", sum := "922f71f2a3cfe3a25dff06e34ff693862e0a56dd57692ea22baa2464c8ac3065", func := "innkeeper/innkeeperlaw30.CommissionStatements", spec := "commissionStatements", unfollowed := true, recurses := true, apart := false, narrowed := true }
def CommissionStatementsUptoSaid : Prop := commissionStatementsUptoRow.holds Try.pinned (OpenSpec.upto commissionStatementsSpec)

/-- 'innkeeperlaw30.CommissionPosted', WHERE WHAT IT READS IS OF BULK AT MOST 1048576: true; the input reads as it did. -/
def commissionPostedUptoRow : OpenClaim := { program := "ythnncojbckifnaa", sum := "922f71f2a3cfe3a25dff06e34ff693862e0a56dd57692ea22baa2464c8ac3065", func := "innkeeper/innkeeperlaw30.CommissionPosted", spec := "commissionPosted", unfollowed := true, recurses := true, apart := false, narrowed := true }
def CommissionPostedUptoSaid : Prop := commissionPostedUptoRow.holds Try.pinned (OpenSpec.upto commissionPostedSpec)

/-- 'innkeeperlaw31.DepositSettles', WHERE WHAT IT READS IS OF BULK AT MOST 1048576: true; the input reads as it did. -/
def depositSettlesUptoRow : OpenClaim := { program := "ythnncojbckifnaa", sum := "922f71f2a3cfe3a25dff06e34ff693862e0a56dd57692ea22baa2464c8ac3065", func := "innkeeper/innkeeperlaw31.DepositSettles", spec := "depositSettles", unfollowed := true, recurses := true, apart := false, narrowed := true }
def DepositSettlesUptoSaid : Prop := depositSettlesUptoRow.holds Try.pinned (OpenSpec.upto depositSettlesSpec)

/-- 'innkeeperlaw30.CommissionUndone', WHERE WHAT IT READS IS OF BULK AT MOST 1048576: true; the input reads as it did. -/
def commissionUndoneUptoRow : OpenClaim := { program := "ythnncojbckifnaa", sum := "922f71f2a3cfe3a25dff06e34ff693862e0a56dd57692ea22baa2464c8ac3065", func := "innkeeper/innkeeperlaw30.CommissionUndone", spec := "commissionUndone", unfollowed := true, recurses := true, apart := false, narrowed := true }
def CommissionUndoneUptoSaid : Prop := commissionUndoneUptoRow.holds Try.pinned (OpenSpec.upto commissionUndoneSpec)

end Rows
end Go.Proofs.Ythnncojbckifnaa
