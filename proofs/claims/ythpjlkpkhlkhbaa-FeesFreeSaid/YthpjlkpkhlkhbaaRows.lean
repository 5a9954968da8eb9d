/-
  No cell of these rows narrows 'for every input' (looked for: loops, veiled, ifaces, maps, wideKeys, modest, calm, conditions, laid).
  DERIVED. THE GIVEN ROWS OF THIS SEAT. 7 by the template 'for every input the law returns true; each argument reads behind the call as it read before'; 0 by the template 'total and deterministic' (their statements: YthpjlkpkhlkhbaaTotals.lean).
  GIVEN WITH THE SEED: the statements are not yours to turn. If you find one false, say at which input.
  Laid BY PROGRAM, IN A SANDBOX (cutbox-rows.mjs): the forced cells as the released guide's own fill.sh prints them over the translation 2cff4a6a4bb927cd… (all of the seat's roots in one cut). By AI agents, Wed Nov 11 2026. No macro, syntax, notation, axiom, sorry.
-/
import Derived.Test.YthpjlkpkhlkhbaaChecked
import GoSem.Claim
import GoSem.ClaimJoined
import GoSem.ClaimMapViews
import Derived.JoinedTies
import Derived.KernelRfl
namespace Go.Proofs.Ythpjlkpkhlkhbaa
/- THE CELL 'sum', in the pinned program and in every row, IS THE sha256 OF THE DUMP (.gsa) THAT YthpjlkpkhlkhbaaProg.lean LOADS. Nothing in Lean hashes anything: it is a label: what it is worth is what the hold of that sum in a sandbox is worth. -/
noncomputable def Try.pinned : Pinned := { name := "ythpjlkpkhlkhbaa", sum := "2cff4a6a4bb927cd97d3d4ff73c88dca25941e98cfd928f9aa710cdde78ac93e", checked := Try.checked }
namespace Rows
def none {H : Type} : Left H := { results := [], args := [] }

/-- 'assizelaw38.FeesParts': WHATEVER THE INPUT: true; the input reads as it did. -/
def feesPartsSpec : ChangeSpec := { name := "feesParts", fn := fun _ => fun
  | [d] => { results := [.lit (.bool true)], args := [d] }
  | _ => none }
def feesPartsRow : OpenClaim := { program := "ythpjlkpkhlkhbaa", sum := "2cff4a6a4bb927cd97d3d4ff73c88dca25941e98cfd928f9aa710cdde78ac93e", func := "assize/assizelaw38.FeesParts", spec := "feesParts", unfollowed := true, recurses := true, apart := false }
def FeesPartsSaid : Prop := feesPartsRow.holds Try.pinned (OpenSpec.ofChange feesPartsSpec)

/-- ITS FALSE NEIGHBOUR: 'it returns false'. Refute it at one input. -/
def feesPartsWrong : ChangeSpec := { name := "feesParts", fn := fun _ => fun
  | [d] => { results := [.lit (.bool false)], args := [d] }
  | _ => none }
def FeesPartsWrongFalsely : Prop := feesPartsRow.holds Try.pinned (OpenSpec.ofChange feesPartsWrong)

/-- 'assizelaw38.FeesPayments': WHATEVER THE INPUT: true; the input reads as it did. -/
def feesPaymentsSpec : ChangeSpec := { name := "feesPayments", fn := fun _ => fun
  | [d1, d2] => { results := [.lit (.bool true)], args := [d1, d2] }
  | _ => none }
def feesPaymentsRow : OpenClaim := { program := "ythpjlkpkhlkhbaa", sum := "2cff4a6a4bb927cd97d3d4ff73c88dca25941e98cfd928f9aa710cdde78ac93e", func := "assize/assizelaw38.FeesPayments", spec := "feesPayments", unfollowed := true, recurses := true, apart := false }
def FeesPaymentsSaid : Prop := feesPaymentsRow.holds Try.pinned (OpenSpec.ofChange feesPaymentsSpec)

/-- ITS FALSE NEIGHBOUR: 'it returns false'. Refute it at one input. -/
def feesPaymentsWrong : ChangeSpec := { name := "feesPayments", fn := fun _ => fun
  | [d1, d2] => { results := [.lit (.bool false)], args := [d1, d2] }
  | _ => none }
def FeesPaymentsWrongFalsely : Prop := feesPaymentsRow.holds Try.pinned (OpenSpec.ofChange feesPaymentsWrong)

/-- 'assizelaw38.FeesRest': WHATEVER THE INPUT: true; the input reads as it did. -/
def feesRestSpec : ChangeSpec := { name := "feesRest", fn := fun _ => fun
  | [d1, d2] => { results := [.lit (.bool true)], args := [d1, d2] }
  | _ => none }
def feesRestRow : OpenClaim := { program := "ythpjlkpkhlkhbaa", sum := "2cff4a6a4bb927cd97d3d4ff73c88dca25941e98cfd928f9aa710cdde78ac93e", func := "assize/assizelaw38.FeesRest", spec := "feesRest", unfollowed := true, recurses := true, apart := false }
def FeesRestSaid : Prop := feesRestRow.holds Try.pinned (OpenSpec.ofChange feesRestSpec)

/-- ITS FALSE NEIGHBOUR: 'it returns false'. Refute it at one input. -/
def feesRestWrong : ChangeSpec := { name := "feesRest", fn := fun _ => fun
  | [d1, d2] => { results := [.lit (.bool false)], args := [d1, d2] }
  | _ => none }
def FeesRestWrongFalsely : Prop := feesRestRow.holds Try.pinned (OpenSpec.ofChange feesRestWrong)

/-- 'assizelaw38.FeesSeller': WHATEVER THE INPUT: true; the input reads as it did. -/
def feesSellerSpec : ChangeSpec := { name := "feesSeller", fn := fun _ => fun
  | [d1, d2, d3] => { results := [.lit (.bool true)], args := [d1, d2, d3] }
  | _ => none }
def feesSellerRow : OpenClaim := { program := "ythpjlkpkhlkhbaa", sum := "2cff4a6a4bb927cd97d3d4ff73c88dca25941e98cfd928f9aa710cdde78ac93e", func := "assize/assizelaw38.FeesSeller", spec := "feesSeller", unfollowed := true, recurses := true, apart := false }
def FeesSellerSaid : Prop := feesSellerRow.holds Try.pinned (OpenSpec.ofChange feesSellerSpec)

/-- ITS FALSE NEIGHBOUR: 'it returns false'. Refute it at one input. -/
def feesSellerWrong : ChangeSpec := { name := "feesSeller", fn := fun _ => fun
  | [d1, d2, d3] => { results := [.lit (.bool false)], args := [d1, d2, d3] }
  | _ => none }
def FeesSellerWrongFalsely : Prop := feesSellerRow.holds Try.pinned (OpenSpec.ofChange feesSellerWrong)

/-- 'assizelaw38.FeesShares': WHATEVER THE INPUT: true; the input reads as it did. -/
def feesSharesSpec : ChangeSpec := { name := "feesShares", fn := fun _ => fun
  | [d] => { results := [.lit (.bool true)], args := [d] }
  | _ => none }
def feesSharesRow : OpenClaim := { program := "ythpjlkpkhlkhbaa", sum := "2cff4a6a4bb927cd97d3d4ff73c88dca25941e98cfd928f9aa710cdde78ac93e", func := "assize/assizelaw38.FeesShares", spec := "feesShares", unfollowed := true, recurses := true, apart := false }
def FeesSharesSaid : Prop := feesSharesRow.holds Try.pinned (OpenSpec.ofChange feesSharesSpec)

/-- ITS FALSE NEIGHBOUR: 'it returns false'. Refute it at one input. -/
def feesSharesWrong : ChangeSpec := { name := "feesShares", fn := fun _ => fun
  | [d] => { results := [.lit (.bool false)], args := [d] }
  | _ => none }
def FeesSharesWrongFalsely : Prop := feesSharesRow.holds Try.pinned (OpenSpec.ofChange feesSharesWrong)

/-- 'assizelaw38.FeesFree': WHATEVER THE INPUT: true; the input reads as it did. -/
def feesFreeSpec : ChangeSpec := { name := "feesFree", fn := fun _ => fun
  | [d1, d2] => { results := [.lit (.bool true)], args := [d1, d2] }
  | _ => none }
def feesFreeRow : OpenClaim := { program := "ythpjlkpkhlkhbaa", sum := "2cff4a6a4bb927cd97d3d4ff73c88dca25941e98cfd928f9aa710cdde78ac93e", func := "assize/assizelaw38.FeesFree", spec := "feesFree", unfollowed := true, recurses := true, apart := false }
def FeesFreeSaid : Prop := feesFreeRow.holds Try.pinned (OpenSpec.ofChange feesFreeSpec)

/-- ITS FALSE NEIGHBOUR: 'it returns false'. Refute it at one input. -/
def feesFreeWrong : ChangeSpec := { name := "feesFree", fn := fun _ => fun
  | [d1, d2] => { results := [.lit (.bool false)], args := [d1, d2] }
  | _ => none }
def FeesFreeWrongFalsely : Prop := feesFreeRow.holds Try.pinned (OpenSpec.ofChange feesFreeWrong)

/-- 'assizelaw38.FeesSum': WHATEVER THE INPUT: true; the input reads as it did. -/
def feesSumSpec : ChangeSpec := { name := "feesSum", fn := fun _ => fun
  | [d1, d2] => { results := [.lit (.bool true)], args := [d1, d2] }
  | _ => none }
def feesSumRow : OpenClaim := { program := "ythpjlkpkhlkhbaa", sum := "2cff4a6a4bb927cd97d3d4ff73c88dca25941e98cfd928f9aa710cdde78ac93e", func := "assize/assizelaw38.FeesSum", spec := "feesSum", unfollowed := true, recurses := true, apart := false }
def FeesSumSaid : Prop := feesSumRow.holds Try.pinned (OpenSpec.ofChange feesSumSpec)

/-- ITS FALSE NEIGHBOUR: 'it returns false'. Refute it at one input. -/
def feesSumWrong : ChangeSpec := { name := "feesSum", fn := fun _ => fun
  | [d1, d2] => { results := [.lit (.bool false)], args := [d1, d2] }
  | _ => none }
def FeesSumWrongFalsely : Prop := feesSumRow.holds Try.pinned (OpenSpec.ofChange feesSumWrong)

/- THE SECOND FORM. 'bulk': how many values and letters a reading holds, each counted each time it is reached (what is shared counts as often as it is met; a slice's spare places count too). A statement '..UptoSaid' is the law's where the arguments, and the package variables that the reading takes, are together of bulk at most 1048576: NARROWER than '..Said'. Prove '..Said' where nothing that the law and all that it calls make is longer than what came in: it says more and counts as full. Else prove '..UptoSaid'. A law counts once. -/
mutual
def uptoBulk {H : Type} : DataW H → Nat
  | .lit (.string bytes) => bytes.length + 1
  | .lit _ => 1
  | .nil => 1
  | .ptr d => uptoBulk d + 1
  | .slice elems spare => uptoBulkAll elems + uptoBulkAll spare + 1
  | .agg parts => uptoBulkAll parts + 1
  | .iface _ d => uptoBulk d + 1
  | .map entries => uptoBulkEntries entries + 1
  | .held _ => 1
def uptoBulkAll {H : Type} : List (DataW H) → Nat
  | [] => 0
  | d :: r => uptoBulk d + uptoBulkAll r
def uptoBulkEntries {H : Type} : List (Lit × DataW H) → Nat
  | [] => 0
  | x :: r => uptoBulkEntry x + uptoBulkEntries r
def uptoBulkEntry {H : Type} : Lit × DataW H → Nat
  | (.string bytes, d) => bytes.length + uptoBulk d + 1
  | (_, d) => uptoBulk d + 1
 end
def uptoSmall : (H : Type) → List (DataW H) → Bool := fun _ ds => decide (uptoBulkAll ds ≤ 1048576)
def OpenSpec.upto (s : _root_.Go.ChangeSpec) : _root_.Go.OpenSpec := { _root_.Go.OpenSpec.ofChange s with cond := some uptoSmall }

/-- 'assizelaw38.FeesParts', WHERE WHAT IT READS IS OF BULK AT MOST 1048576: true; the input reads as it did. -/
def feesPartsUptoRow : OpenClaim := { program := "ythpjlkpkhlkhbaa", sum := "2cff4a6a4bb927cd97d3d4ff73c88dca25941e98cfd928f9aa710cdde78ac93e", func := "assize/assizelaw38.FeesParts", spec := "feesParts", unfollowed := true, recurses := true, apart := false, narrowed := true }
def FeesPartsUptoSaid : Prop := feesPartsUptoRow.holds Try.pinned (OpenSpec.upto feesPartsSpec)

/-- 'assizelaw38.FeesPayments', WHERE WHAT IT READS IS OF BULK AT MOST 1048576: true; the input reads as it did. -/
def feesPaymentsUptoRow : OpenClaim := { program := "ythpjlkpkhlkhbaa", sum := "2cff4a6a4bb927cd97d3d4ff73c88dca25941e98cfd928f9aa710cdde78ac93e", func := "assize/assizelaw38.FeesPayments", spec := "feesPayments", unfollowed := true, recurses := true, apart := false, narrowed := true }
def FeesPaymentsUptoSaid : Prop := feesPaymentsUptoRow.holds Try.pinned (OpenSpec.upto feesPaymentsSpec)

/-- 'assizelaw38.FeesRest', WHERE WHAT IT READS IS OF BULK AT MOST 1048576: true; the input reads as it did. -/
def feesRestUptoRow : OpenClaim := { program := "ythpjlkpkhlkhbaa", sum := "2cff4a6a4bb927cd97d3d4ff73c88dca25941e98cfd928f9aa710cdde78ac93e", func := "assize/assizelaw38.FeesRest", spec := "feesRest", unfollowed := true, recurses := true, apart := false, narrowed := true }
def FeesRestUptoSaid : Prop := feesRestUptoRow.holds Try.pinned (OpenSpec.upto feesRestSpec)

/-- 'assizelaw38.FeesSeller', WHERE WHAT IT READS IS OF BULK AT MOST 1048576: true; the input reads as it did. -/
def feesSellerUptoRow : OpenClaim := { program := "ythpjlkpkhlkhbaa", sum := "2cff4a6a4bb927cd97d3d4ff73c88dca25941e98cfd928f9aa710cdde78ac93e", func := "assize/assizelaw38.FeesSeller", spec := "feesSeller", unfollowed := true, recurses := true, apart := false, narrowed := true }
def FeesSellerUptoSaid : Prop := feesSellerUptoRow.holds Try.pinned (OpenSpec.upto feesSellerSpec)

/-- 'assizelaw38.FeesShares', WHERE WHAT IT READS IS OF BULK AT MOST 1048576: true; the input reads as it did. -/
def feesSharesUptoRow : OpenClaim := { program := "ythpjlkpkhlkhbaa", sum := "2cff4a6a4bb927cd97d3d4ff73c88dca25941e98cfd928f9aa710cdde78ac93e", func := "assize/assizelaw38.FeesShares", spec := "feesShares", unfollowed := true, recurses := true, apart := false, narrowed := true }
def FeesSharesUptoSaid : Prop := feesSharesUptoRow.holds Try.pinned (OpenSpec.upto feesSharesSpec)

/-- 'assizelaw38.FeesFree', WHERE WHAT IT READS IS OF BULK AT MOST 1048576: true; the input reads as it did. -/
def feesFreeUptoRow : OpenClaim := { program := "ythpjlkpkhlkhbaa", sum := "2cff4a6a4bb927cd97d3d4ff73c88dca25941e98cfd928f9aa710cdde78ac93e", func := "assize/assizelaw38.FeesFree", spec := "feesFree", unfollowed := true, recurses := true, apart := false, narrowed := true }
def FeesFreeUptoSaid : Prop := feesFreeUptoRow.holds Try.pinned (OpenSpec.upto feesFreeSpec)

/-- 'assizelaw38.FeesSum', WHERE WHAT IT READS IS OF BULK AT MOST 1048576: true; the input reads as it did. -/
def feesSumUptoRow : OpenClaim := { program := "ythpjlkpkhlkhbaa", sum := "2cff4a6a4bb927cd97d3d4ff73c88dca25941e98cfd928f9aa710cdde78ac93e", func := "assize/assizelaw38.FeesSum", spec := "feesSum", unfollowed := true, recurses := true, apart := false, narrowed := true }
def FeesSumUptoSaid : Prop := feesSumUptoRow.holds Try.pinned (OpenSpec.upto feesSumSpec)

end Rows
end Go.Proofs.Ythpjlkpkhlkhbaa
