/-
  No cell of these rows narrows 'for every input' (looked for: loops, veiled, ifaces, maps, wideKeys, modest, calm, conditions, laid).
  DERIVED. THE GIVEN ROWS OF THIS SEAT. 7 by the template 'for every input the law returns true; each argument reads behind the call as it read before'; 0 by the template 'total and deterministic' (their statements: YtpkbecaailhhmaaTotals.lean).
  GIVEN WITH THE SEED: the statements are not yours to turn. If you find one false, say at which input.
  Laid BY PROGRAM, IN A SANDBOX (cutbox-rows.mjs): the forced cells as the released guide's own fill.sh prints them over the translation 7bf359df9f734dd2… (all of the seat's roots in one cut). By AI agents, Wed Nov 11 2026. No macro, syntax, notation, axiom, sorry.
-/
import Derived.Test.YtpkbecaailhhmaaChecked
import GoSem.Claim
import GoSem.ClaimJoined
import GoSem.ClaimMapViews
import Derived.JoinedTies
import Derived.KernelRfl
namespace Go.Proofs.Ytpkbecaailhhmaa
/- THE CELL 'sum', in the pinned program and in every row, IS THE sha256 OF THE DUMP (.gsa) THAT YtpkbecaailhhmaaProg.lean LOADS. Nothing in Lean hashes anything: it is a label: what it is worth is what the hold of that sum in a sandbox is worth. -/
noncomputable def Try.pinned : Pinned := { name := "ytpkbecaailhhmaa", sum := "7bf359df9f734dd24950d9709a3b29ca5cae11c00ca239bec4b2e035189c3e39", checked := Try.checked }
namespace Rows
def none {H : Type} : Left H := { results := [], args := [] }

/-- 'assizelaw39.ClearingHouses': WHATEVER THE INPUT: true; the input reads as it did. -/
def clearingHousesSpec : ChangeSpec := { name := "clearingHouses", fn := fun _ => fun
  | [d1, d2, d3] => { results := [.lit (.bool true)], args := [d1, d2, d3] }
  | _ => none }
def clearingHousesRow : OpenClaim := { program := "ytpkbecaailhhmaa", sum := "7bf359df9f734dd24950d9709a3b29ca5cae11c00ca239bec4b2e035189c3e39", func := "assize/assizelaw39.ClearingHouses", spec := "clearingHouses", inPlace := ["slices.overlaps[assize/api.Hold]"], unfollowed := true, recurses := true, apart := false }
def ClearingHousesSaid : Prop := clearingHousesRow.holds Try.pinned (OpenSpec.ofChange clearingHousesSpec)

/-- ITS FALSE NEIGHBOUR: 'it returns false'. Refute it at one input. -/
def clearingHousesWrong : ChangeSpec := { name := "clearingHouses", fn := fun _ => fun
  | [d1, d2, d3] => { results := [.lit (.bool false)], args := [d1, d2, d3] }
  | _ => none }
def ClearingHousesWrongFalsely : Prop := clearingHousesRow.holds Try.pinned (OpenSpec.ofChange clearingHousesWrong)

/-- 'assizelaw39.ClearingSteps': WHATEVER THE INPUT: true; the input reads as it did. -/
def clearingStepsSpec : ChangeSpec := { name := "clearingSteps", fn := fun _ => fun
  | [d1, d2] => { results := [.lit (.bool true)], args := [d1, d2] }
  | _ => none }
def clearingStepsRow : OpenClaim := { program := "ytpkbecaailhhmaa", sum := "7bf359df9f734dd24950d9709a3b29ca5cae11c00ca239bec4b2e035189c3e39", func := "assize/assizelaw39.ClearingSteps", spec := "clearingSteps", inPlace := ["slices.overlaps[assize/api.Hold]"], unfollowed := true, recurses := true, apart := false }
def ClearingStepsSaid : Prop := clearingStepsRow.holds Try.pinned (OpenSpec.ofChange clearingStepsSpec)

/-- ITS FALSE NEIGHBOUR: 'it returns false'. Refute it at one input. -/
def clearingStepsWrong : ChangeSpec := { name := "clearingSteps", fn := fun _ => fun
  | [d1, d2] => { results := [.lit (.bool false)], args := [d1, d2] }
  | _ => none }
def ClearingStepsWrongFalsely : Prop := clearingStepsRow.holds Try.pinned (OpenSpec.ofChange clearingStepsWrong)

/-- 'assizelaw39.ClearingHistory': WHATEVER THE INPUT: true; the input reads as it did. -/
def clearingHistorySpec : ChangeSpec := { name := "clearingHistory", fn := fun _ => fun
  | [d1, d2] => { results := [.lit (.bool true)], args := [d1, d2] }
  | _ => none }
def clearingHistoryRow : OpenClaim := { program := "ytpkbecaailhhmaa", sum := "7bf359df9f734dd24950d9709a3b29ca5cae11c00ca239bec4b2e035189c3e39", func := "assize/assizelaw39.ClearingHistory", spec := "clearingHistory", inPlace := ["slices.overlaps[assize/api.Hold]"], unfollowed := true, recurses := true, apart := false }
def ClearingHistorySaid : Prop := clearingHistoryRow.holds Try.pinned (OpenSpec.ofChange clearingHistorySpec)

/-- ITS FALSE NEIGHBOUR: 'it returns false'. Refute it at one input. -/
def clearingHistoryWrong : ChangeSpec := { name := "clearingHistory", fn := fun _ => fun
  | [d1, d2] => { results := [.lit (.bool false)], args := [d1, d2] }
  | _ => none }
def ClearingHistoryWrongFalsely : Prop := clearingHistoryRow.holds Try.pinned (OpenSpec.ofChange clearingHistoryWrong)

/-- 'assizelaw39.ClearingMoves': WHATEVER THE INPUT: true; the input reads as it did. -/
def clearingMovesSpec : ChangeSpec := { name := "clearingMoves", fn := fun _ => fun
  | [d1, d2, d3] => { results := [.lit (.bool true)], args := [d1, d2, d3] }
  | _ => none }
def clearingMovesRow : OpenClaim := { program := "ytpkbecaailhhmaa", sum := "7bf359df9f734dd24950d9709a3b29ca5cae11c00ca239bec4b2e035189c3e39", func := "assize/assizelaw39.ClearingMoves", spec := "clearingMoves", inPlace := ["slices.overlaps[assize/api.Hold]"], unfollowed := true, recurses := true, apart := false }
def ClearingMovesSaid : Prop := clearingMovesRow.holds Try.pinned (OpenSpec.ofChange clearingMovesSpec)

/-- ITS FALSE NEIGHBOUR: 'it returns false'. Refute it at one input. -/
def clearingMovesWrong : ChangeSpec := { name := "clearingMoves", fn := fun _ => fun
  | [d1, d2, d3] => { results := [.lit (.bool false)], args := [d1, d2, d3] }
  | _ => none }
def ClearingMovesWrongFalsely : Prop := clearingMovesRow.holds Try.pinned (OpenSpec.ofChange clearingMovesWrong)

/-- 'assizelaw39.ClearingOnce': WHATEVER THE INPUT: true; the input reads as it did. -/
def clearingOnceSpec : ChangeSpec := { name := "clearingOnce", fn := fun _ => fun
  | [d1, d2, d3] => { results := [.lit (.bool true)], args := [d1, d2, d3] }
  | _ => none }
def clearingOnceRow : OpenClaim := { program := "ytpkbecaailhhmaa", sum := "7bf359df9f734dd24950d9709a3b29ca5cae11c00ca239bec4b2e035189c3e39", func := "assize/assizelaw39.ClearingOnce", spec := "clearingOnce", inPlace := ["slices.overlaps[assize/api.Hold]"], unfollowed := true, recurses := true, apart := false }
def ClearingOnceSaid : Prop := clearingOnceRow.holds Try.pinned (OpenSpec.ofChange clearingOnceSpec)

/-- ITS FALSE NEIGHBOUR: 'it returns false'. Refute it at one input. -/
def clearingOnceWrong : ChangeSpec := { name := "clearingOnce", fn := fun _ => fun
  | [d1, d2, d3] => { results := [.lit (.bool false)], args := [d1, d2, d3] }
  | _ => none }
def ClearingOnceWrongFalsely : Prop := clearingOnceRow.holds Try.pinned (OpenSpec.ofChange clearingOnceWrong)

/-- 'assizelaw39.ClearingOrder': WHATEVER THE INPUT: true; the input reads as it did. -/
def clearingOrderSpec : ChangeSpec := { name := "clearingOrder", fn := fun _ => fun
  | [d1, d2, d3, d4] => { results := [.lit (.bool true)], args := [d1, d2, d3, d4] }
  | _ => none }
def clearingOrderRow : OpenClaim := { program := "ytpkbecaailhhmaa", sum := "7bf359df9f734dd24950d9709a3b29ca5cae11c00ca239bec4b2e035189c3e39", func := "assize/assizelaw39.ClearingOrder", spec := "clearingOrder", inPlace := ["slices.overlaps[assize/api.Hold]"], unfollowed := true, recurses := true, apart := false }
def ClearingOrderSaid : Prop := clearingOrderRow.holds Try.pinned (OpenSpec.ofChange clearingOrderSpec)

/-- ITS FALSE NEIGHBOUR: 'it returns false'. Refute it at one input. -/
def clearingOrderWrong : ChangeSpec := { name := "clearingOrder", fn := fun _ => fun
  | [d1, d2, d3, d4] => { results := [.lit (.bool false)], args := [d1, d2, d3, d4] }
  | _ => none }
def ClearingOrderWrongFalsely : Prop := clearingOrderRow.holds Try.pinned (OpenSpec.ofChange clearingOrderWrong)

/-- 'assizelaw39.ClearingFees': WHATEVER THE INPUT: true; the input reads as it did. -/
def clearingFeesSpec : ChangeSpec := { name := "clearingFees", fn := fun _ => fun
  | [d1, d2, d3, d4] => { results := [.lit (.bool true)], args := [d1, d2, d3, d4] }
  | _ => none }
def clearingFeesRow : OpenClaim := { program := "ytpkbecaailhhmaa", sum := "7bf359df9f734dd24950d9709a3b29ca5cae11c00ca239bec4b2e035189c3e39", func := "assize/assizelaw39.ClearingFees", spec := "clearingFees", inPlace := ["slices.overlaps[assize/api.Hold]"], unfollowed := true, recurses := true, apart := false }
def ClearingFeesSaid : Prop := clearingFeesRow.holds Try.pinned (OpenSpec.ofChange clearingFeesSpec)

/-- ITS FALSE NEIGHBOUR: 'it returns false'. Refute it at one input. -/
def clearingFeesWrong : ChangeSpec := { name := "clearingFees", fn := fun _ => fun
  | [d1, d2, d3, d4] => { results := [.lit (.bool false)], args := [d1, d2, d3, d4] }
  | _ => none }
def ClearingFeesWrongFalsely : Prop := clearingFeesRow.holds Try.pinned (OpenSpec.ofChange clearingFeesWrong)

/- THE SECOND FORM. 'bulk': how many values and letters a reading holds, each counted each time it is reached (what is shared counts as often as it is met; a slice's spare places count too). A statement '..UptoSaid' is the law's where the arguments, and the package variables that the reading takes, are together of bulk at most 1048576: NARROWER than '..Said'. Prove '..Said' where nothing that the law and all that it calls make is longer than what came in: it says more and counts as full. Else prove '..UptoSaid'. A law counts once. -/
mutual
def uptoBulk {H : Type} : DataW H → Nat
  | .lit (.string bytes) => bytes.length + 1
  | .lit _ => 1
  | .nil => 1
  | .ptr d => uptoBulk d + 1
  | .slice elems spare => uptoBulkAll elems + uptoBulkAll spare + 1
  | .agg parts => uptoBulkAll parts + 1
  | .iface _ d => uptoBulk d + 1
  | .map entries => uptoBulkEntries entries + 1
  | .held _ => 1
def uptoBulkAll {H : Type} : List (DataW H) → Nat
  | [] => 0
  | d :: r => uptoBulk d + uptoBulkAll r
def uptoBulkEntries {H : Type} : List (Lit × DataW H) → Nat
  | [] => 0
  | x :: r => uptoBulkEntry x + uptoBulkEntries r
def uptoBulkEntry {H : Type} : Lit × DataW H → Nat
  | (.string bytes, d) => bytes.length + uptoBulk d + 1
  | (_, d) => uptoBulk d + 1
 end
def uptoSmall : (H : Type) → List (DataW H) → Bool := fun _ ds => decide (uptoBulkAll ds ≤ 1048576)
def OpenSpec.upto (s : _root_.Go.ChangeSpec) : _root_.Go.OpenSpec := { _root_.Go.OpenSpec.ofChange s with cond := some uptoSmall }

/-- 'assizelaw39.ClearingHouses', WHERE WHAT IT READS IS OF BULK AT MOST 1048576: true; the input reads as it did. -/
def clearingHousesUptoRow : OpenClaim := { program := "ytpkbecaailhhmaa", sum := "7bf359df9f734dd24950d9709a3b29ca5cae11c00ca239bec4b2e035189c3e39", func := "assize/assizelaw39.ClearingHouses", spec := "clearingHouses", inPlace := ["slices.overlaps[assize/api.Hold]"], unfollowed := true, recurses := true, apart := false, narrowed := true }
def ClearingHousesUptoSaid : Prop := clearingHousesUptoRow.holds Try.pinned (OpenSpec.upto clearingHousesSpec)

/-- 'assizelaw39.ClearingSteps', WHERE WHAT IT READS IS OF BULK AT MOST 1048576: true; the input reads as it did. -/
def clearingStepsUptoRow : OpenClaim := { program := "ytpkbecaailhhmaa", sum := "7bf359df9f734dd24950d9709a3b29ca5cae11c00ca239bec4b2e035189c3e39", func := "assize/assizelaw39.ClearingSteps", spec := "clearingSteps", inPlace := ["slices.overlaps[assize/api.Hold]"], unfollowed := true, recurses := true, apart := false, narrowed := true }
def ClearingStepsUptoSaid : Prop := clearingStepsUptoRow.holds Try.pinned (OpenSpec.upto clearingStepsSpec)

/-- 'assizelaw39.ClearingHistory', WHERE WHAT IT READS IS OF BULK AT MOST 1048576: true; the input reads as it did. -/
def clearingHistoryUptoRow : OpenClaim := { program := "ytpkbecaailhhmaa", sum := "7bf359df9f734dd24950d9709a3b29ca5cae11c00ca239bec4b2e035189c3e39", func := "assize/assizelaw39.ClearingHistory", spec := "clearingHistory", inPlace := ["slices.overlaps[assize/api.Hold]"], unfollowed := true, recurses := true, apart := false, narrowed := true }
def ClearingHistoryUptoSaid : Prop := clearingHistoryUptoRow.holds Try.pinned (OpenSpec.upto clearingHistorySpec)

/-- 'assizelaw39.ClearingMoves', WHERE WHAT IT READS IS OF BULK AT MOST 1048576: true; the input reads as it did. -/
def clearingMovesUptoRow : OpenClaim := { program := "ytpkbecaailhhmaa", sum := "7bf359df9f734dd24950d9709a3b29ca5cae11c00ca239bec4b2e035189c3e39", func := "assize/assizelaw39.ClearingMoves", spec := "clearingMoves", inPlace := ["slices.overlaps[assize/api.Hold]"], unfollowed := true, recurses := true, apart := false, narrowed := true }
def ClearingMovesUptoSaid : Prop := clearingMovesUptoRow.holds Try.pinned (OpenSpec.upto clearingMovesSpec)

/-- 'assizelaw39.ClearingOnce', WHERE WHAT IT READS IS OF BULK AT MOST 1048576: true; the input reads as it did. -/
def clearingOnceUptoRow : OpenClaim := { program := "ytpkbecaailhhmaa", sum := "7bf359df9f734dd24950d9709a3b29ca5cae11c00ca239bec4b2e035189c3e39", func := "assize/assizelaw39.ClearingOnce", spec := "clearingOnce", inPlace := ["slices.overlaps[assize/api.Hold]"], unfollowed := true, recurses := true, apart := false, narrowed := true }
def ClearingOnceUptoSaid : Prop := clearingOnceUptoRow.holds Try.pinned (OpenSpec.upto clearingOnceSpec)

/-- 'assizelaw39.ClearingOrder', WHERE WHAT IT READS IS OF BULK AT MOST 1048576: true; the input reads as it did. -/
def clearingOrderUptoRow : OpenClaim := { program := "ytpkbecaailhhmaa", sum := "7bf359df9f734dd24950d9709a3b29ca5cae11c00ca239bec4b2e035189c3e39", func := "assize/assizelaw39.ClearingOrder", spec := "clearingOrder", inPlace := ["slices.overlaps[assize/api.Hold]"], unfollowed := true, recurses := true, apart := false, narrowed := true }
def ClearingOrderUptoSaid : Prop := clearingOrderUptoRow.holds Try.pinned (OpenSpec.upto clearingOrderSpec)

/-- 'assizelaw39.ClearingFees', WHERE WHAT IT READS IS OF BULK AT MOST 1048576: true; the input reads as it did. -/
def clearingFeesUptoRow : OpenClaim := { program := "ytpkbecaailhhmaa", sum := "7bf359df9f734dd24950d9709a3b29ca5cae11c00ca239bec4b2e035189c3e39", func := "assize/assizelaw39.ClearingFees", spec := "clearingFees", inPlace := ["slices.overlaps[assize/api.Hold]"], unfollowed := true, recurses := true, apart := false, narrowed := true }
def ClearingFeesUptoSaid : Prop := clearingFeesUptoRow.holds Try.pinned (OpenSpec.upto clearingFeesSpec)

end Rows
end Go.Proofs.Ytpkbecaailhhmaa
