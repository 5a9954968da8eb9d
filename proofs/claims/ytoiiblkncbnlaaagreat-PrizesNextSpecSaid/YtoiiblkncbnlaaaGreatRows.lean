/-
  No cell of these rows narrows 'for every input' (looked for: loops, veiled, ifaces, maps, wideKeys, modest, calm, conditions, laid).
  DERIVED. THE GIVEN ROWS OF THIS SEAT. 6 by the template 'for every input the law returns true; each argument reads behind the call as it read before'; 0 by the template 'total and deterministic' (their statements: YtoiiblkncbnlaaaGreatTotals.lean).
  GIVEN WITH THE SEED: the statements are not yours to turn. If you find one false, say at which input.
  Laid BY PROGRAM, IN A SANDBOX (cutbox-rows.mjs): the forced cells as the released guide's own fill.sh prints them over the translation eaf47a5ce47acfdb… (all of the seat's roots in one cut). By AI agents, Wed Nov 11 2026. No macro, syntax, notation, axiom, sorry.
-/
import Derived.Test.YtoiiblkncbnlaaaGreatChecked
import GoSem.Claim
import GoSem.ClaimJoined
import GoSem.ClaimMapViews
import Derived.JoinedTies
import Derived.KernelRfl
namespace Go.Proofs.YtoiiblkncbnlaaaGreat
/- THE CELL 'sum', in the pinned program and in every row, IS THE sha256 OF THE DUMP (.gsa) THAT YtoiiblkncbnlaaaGreatProg.lean LOADS. Nothing in Lean hashes anything: it is a label: what it is worth is what the hold of that sum in a sandbox is worth. -/
noncomputable def Tryz.pinned : Pinned := { name := "ytoiiblkncbnlaaagreat", sum := "eaf47a5ce47acfdbf7d6555295c651d884fd6672ccd7832e01dc62a7a21ae358", checked := Tryz.checked }
namespace Rows
def none {H : Type} : Left H := { results := [], args := [] }

/-- 'assizelaw42.PrizesPaySpec': WHATEVER THE INPUT: true; the input reads as it did. -/
def prizesPaySpecSpec : ChangeSpec := { name := "prizesPaySpec", fn := fun _ => fun
  | [d1, d2] => { results := [.lit (.bool true)], args := [d1, d2] }
  | _ => none }
def prizesPaySpecRow : OpenClaim := { program := "ytoiiblkncbnlaaagreat", sum := "eaf47a5ce47acfdbf7d6555295c651d884fd6672ccd7832e01dc62a7a21ae358", func := "assize/assizelaw42.PrizesPaySpec", spec := "prizesPaySpec", unfollowed := true, recurses := true, apart := false }
def PrizesPaySpecSaid : Prop := prizesPaySpecRow.holds Tryz.pinned (OpenSpec.ofChange prizesPaySpecSpec)

/-- ITS FALSE NEIGHBOUR: 'it returns false'. Refute it at one input. -/
def prizesPaySpecWrong : ChangeSpec := { name := "prizesPaySpec", fn := fun _ => fun
  | [d1, d2] => { results := [.lit (.bool false)], args := [d1, d2] }
  | _ => none }
def PrizesPaySpecWrongFalsely : Prop := prizesPaySpecRow.holds Tryz.pinned (OpenSpec.ofChange prizesPaySpecWrong)

/-- 'assizelaw42.PrizesMovesSpec': WHATEVER THE INPUT: true; the input reads as it did. -/
def prizesMovesSpecSpec : ChangeSpec := { name := "prizesMovesSpec", fn := fun _ => fun
  | [d1, d2] => { results := [.lit (.bool true)], args := [d1, d2] }
  | _ => none }
def prizesMovesSpecRow : OpenClaim := { program := "ytoiiblkncbnlaaagreat", sum := "eaf47a5ce47acfdbf7d6555295c651d884fd6672ccd7832e01dc62a7a21ae358", func := "assize/assizelaw42.PrizesMovesSpec", spec := "prizesMovesSpec", unfollowed := true, recurses := true, apart := false }
def PrizesMovesSpecSaid : Prop := prizesMovesSpecRow.holds Tryz.pinned (OpenSpec.ofChange prizesMovesSpecSpec)

/-- ITS FALSE NEIGHBOUR: 'it returns false'. Refute it at one input. -/
def prizesMovesSpecWrong : ChangeSpec := { name := "prizesMovesSpec", fn := fun _ => fun
  | [d1, d2] => { results := [.lit (.bool false)], args := [d1, d2] }
  | _ => none }
def PrizesMovesSpecWrongFalsely : Prop := prizesMovesSpecRow.holds Tryz.pinned (OpenSpec.ofChange prizesMovesSpecWrong)

/-- 'assizelaw42.PrizesNextSpec': WHATEVER THE INPUT: true; the input reads as it did. -/
def prizesNextSpecSpec : ChangeSpec := { name := "prizesNextSpec", fn := fun _ => fun
  | [d1, d2, d3] => { results := [.lit (.bool true)], args := [d1, d2, d3] }
  | _ => none }
def prizesNextSpecRow : OpenClaim := { program := "ytoiiblkncbnlaaagreat", sum := "eaf47a5ce47acfdbf7d6555295c651d884fd6672ccd7832e01dc62a7a21ae358", func := "assize/assizelaw42.PrizesNextSpec", spec := "prizesNextSpec", unfollowed := true, recurses := true, apart := false }
def PrizesNextSpecSaid : Prop := prizesNextSpecRow.holds Tryz.pinned (OpenSpec.ofChange prizesNextSpecSpec)

/-- ITS FALSE NEIGHBOUR: 'it returns false'. Refute it at one input. -/
def prizesNextSpecWrong : ChangeSpec := { name := "prizesNextSpec", fn := fun _ => fun
  | [d1, d2, d3] => { results := [.lit (.bool false)], args := [d1, d2, d3] }
  | _ => none }
def PrizesNextSpecWrongFalsely : Prop := prizesNextSpecRow.holds Tryz.pinned (OpenSpec.ofChange prizesNextSpecWrong)

/-- 'assizelaw42.PrizesTied': WHATEVER THE INPUT: true; the input reads as it did. -/
def prizesTiedSpec : ChangeSpec := { name := "prizesTied", fn := fun _ => fun
  | [d1, d2] => { results := [.lit (.bool true)], args := [d1, d2] }
  | _ => none }
def prizesTiedRow : OpenClaim := { program := "ytoiiblkncbnlaaagreat", sum := "eaf47a5ce47acfdbf7d6555295c651d884fd6672ccd7832e01dc62a7a21ae358", func := "assize/assizelaw42.PrizesTied", spec := "prizesTied", unfollowed := true, recurses := true, apart := false }
def PrizesTiedSaid : Prop := prizesTiedRow.holds Tryz.pinned (OpenSpec.ofChange prizesTiedSpec)

/-- ITS FALSE NEIGHBOUR: 'it returns false'. Refute it at one input. -/
def prizesTiedWrong : ChangeSpec := { name := "prizesTied", fn := fun _ => fun
  | [d1, d2] => { results := [.lit (.bool false)], args := [d1, d2] }
  | _ => none }
def PrizesTiedWrongFalsely : Prop := prizesTiedRow.holds Tryz.pinned (OpenSpec.ofChange prizesTiedWrong)

/-- 'assizelaw42.PrizesMoves': WHATEVER THE INPUT: true; the input reads as it did. -/
def prizesMovesSpec : ChangeSpec := { name := "prizesMoves", fn := fun _ => fun
  | [d1, d2] => { results := [.lit (.bool true)], args := [d1, d2] }
  | _ => none }
def prizesMovesRow : OpenClaim := { program := "ytoiiblkncbnlaaagreat", sum := "eaf47a5ce47acfdbf7d6555295c651d884fd6672ccd7832e01dc62a7a21ae358", func := "assize/assizelaw42.PrizesMoves", spec := "prizesMoves", unfollowed := true, recurses := true, apart := false }
def PrizesMovesSaid : Prop := prizesMovesRow.holds Tryz.pinned (OpenSpec.ofChange prizesMovesSpec)

/-- ITS FALSE NEIGHBOUR: 'it returns false'. Refute it at one input. -/
def prizesMovesWrong : ChangeSpec := { name := "prizesMoves", fn := fun _ => fun
  | [d1, d2] => { results := [.lit (.bool false)], args := [d1, d2] }
  | _ => none }
def PrizesMovesWrongFalsely : Prop := prizesMovesRow.holds Tryz.pinned (OpenSpec.ofChange prizesMovesWrong)

/-- 'assizelaw42.PrizesSum': WHATEVER THE INPUT: true; the input reads as it did. -/
def prizesSumSpec : ChangeSpec := { name := "prizesSum", fn := fun _ => fun
  | [d1, d2] => { results := [.lit (.bool true)], args := [d1, d2] }
  | _ => none }
def prizesSumRow : OpenClaim := { program := "ytoiiblkncbnlaaagreat", sum := "eaf47a5ce47acfdbf7d6555295c651d884fd6672ccd7832e01dc62a7a21ae358", func := "assize/assizelaw42.PrizesSum", spec := "prizesSum", unfollowed := true, recurses := true, apart := false }
def PrizesSumSaid : Prop := prizesSumRow.holds Tryz.pinned (OpenSpec.ofChange prizesSumSpec)

/-- ITS FALSE NEIGHBOUR: 'it returns false'. Refute it at one input. -/
def prizesSumWrong : ChangeSpec := { name := "prizesSum", fn := fun _ => fun
  | [d1, d2] => { results := [.lit (.bool false)], args := [d1, d2] }
  | _ => none }
def PrizesSumWrongFalsely : Prop := prizesSumRow.holds Tryz.pinned (OpenSpec.ofChange prizesSumWrong)

/- THE SECOND FORM. 'bulk': how many values and letters a reading holds, each counted each time it is reached (what is shared counts as often as it is met; a slice's spare places count too). A statement '..UptoSaid' is the law's where the arguments, and the package variables that the reading takes, are together of bulk at most 1048576: NARROWER than '..Said'. Prove '..Said' where nothing that the law and all that it calls make is longer than what came in: it says more and counts as full. Else prove '..UptoSaid'. A law counts once. -/
mutual
def uptoBulk {H : Type} : DataW H → Nat
  | .lit (.string bytes) => bytes.length + 1
  | .lit _ => 1
  | .nil => 1
  | .ptr d => uptoBulk d + 1
  | .slice elems spare => uptoBulkAll elems + uptoBulkAll spare + 1
  | .agg parts => uptoBulkAll parts + 1
  | .iface _ d => uptoBulk d + 1
  | .map entries => uptoBulkEntries entries + 1
  | .held _ => 1
def uptoBulkAll {H : Type} : List (DataW H) → Nat
  | [] => 0
  | d :: r => uptoBulk d + uptoBulkAll r
def uptoBulkEntries {H : Type} : List (Lit × DataW H) → Nat
  | [] => 0
  | x :: r => uptoBulkEntry x + uptoBulkEntries r
def uptoBulkEntry {H : Type} : Lit × DataW H → Nat
  | (.string bytes, d) => bytes.length + uptoBulk d + 1
  | (_, d) => uptoBulk d + 1
 end
def uptoSmall : (H : Type) → List (DataW H) → Bool := fun _ ds => decide (uptoBulkAll ds ≤ 1048576)
def OpenSpec.upto (s : _root_.Go.ChangeSpec) : _root_.Go.OpenSpec := { _root_.Go.OpenSpec.ofChange s with cond := some uptoSmall }

/-- 'assizelaw42.PrizesPaySpec', WHERE WHAT IT READS IS OF BULK AT MOST 1048576: true; the input reads as it did. -/
def prizesPaySpecUptoRow : OpenClaim := { program := "ytoiiblkncbnlaaagreat", sum := "eaf47a5ce47acfdbf7d6555295c651d884fd6672ccd7832e01dc62a7a21ae358", func := "assize/assizelaw42.PrizesPaySpec", spec := "prizesPaySpec", unfollowed := true, recurses := true, apart := false, narrowed := true }
def PrizesPaySpecUptoSaid : Prop := prizesPaySpecUptoRow.holds Tryz.pinned (OpenSpec.upto prizesPaySpecSpec)

/-- 'assizelaw42.PrizesMovesSpec', WHERE WHAT IT READS IS OF BULK AT MOST 1048576: true; the input reads as it did. -/
def prizesMovesSpecUptoRow : OpenClaim := { program := "ytoiiblkncbnlaaagreat", sum := "eaf47a5ce47acfdbf7d6555295c651d884fd6672ccd7832e01dc62a7a21ae358", func := "assize/assizelaw42.PrizesMovesSpec", spec := "prizesMovesSpec", unfollowed := true, recurses := true, apart := false, narrowed := true }
def PrizesMovesSpecUptoSaid : Prop := prizesMovesSpecUptoRow.holds Tryz.pinned (OpenSpec.upto prizesMovesSpecSpec)

/-- 'assizelaw42.PrizesNextSpec', WHERE WHAT IT READS IS OF BULK AT MOST 1048576: true; the input reads as it did. -/
def prizesNextSpecUptoRow : OpenClaim := { program := "ytoiiblkncbnlaaagreat", sum := "eaf47a5ce47acfdbf7d6555295c651d884fd6672ccd7832e01dc62a7a21ae358", func := "assize/assizelaw42.PrizesNextSpec", spec := "prizesNextSpec", unfollowed := true, recurses := true, apart := false, narrowed := true }
def PrizesNextSpecUptoSaid : Prop := prizesNextSpecUptoRow.holds Tryz.pinned (OpenSpec.upto prizesNextSpecSpec)

/-- 'assizelaw42.PrizesTied', WHERE WHAT IT READS IS OF BULK AT MOST 1048576: true; the input reads as it did. -/
def prizesTiedUptoRow : OpenClaim := { program := "ytoiiblkncbnlaaagreat", sum := "eaf47a5ce47acfdbf7d6555295c651d884fd6672ccd7832e01dc62a7a21ae358", func := "assize/assizelaw42.PrizesTied", spec := "prizesTied", unfollowed := true, recurses := true, apart := false, narrowed := true }
def PrizesTiedUptoSaid : Prop := prizesTiedUptoRow.holds Tryz.pinned (OpenSpec.upto prizesTiedSpec)

/-- 'assizelaw42.PrizesMoves', WHERE WHAT IT READS IS OF BULK AT MOST 1048576: true; the input reads as it did. -/
def prizesMovesUptoRow : OpenClaim := { program := "ytoiiblkncbnlaaagreat", sum := "eaf47a5ce47acfdbf7d6555295c651d884fd6672ccd7832e01dc62a7a21ae358", func := "assize/assizelaw42.PrizesMoves", spec := "prizesMoves", unfollowed := true, recurses := true, apart := false, narrowed := true }
def PrizesMovesUptoSaid : Prop := prizesMovesUptoRow.holds Tryz.pinned (OpenSpec.upto prizesMovesSpec)

/-- 'assizelaw42.PrizesSum', WHERE WHAT IT READS IS OF BULK AT MOST 1048576: true; the input reads as it did. -/
def prizesSumUptoRow : OpenClaim := { program := "ytoiiblkncbnlaaagreat", sum := "eaf47a5ce47acfdbf7d6555295c651d884fd6672ccd7832e01dc62a7a21ae358", func := "assize/assizelaw42.PrizesSum", spec := "prizesSum", unfollowed := true, recurses := true, apart := false, narrowed := true }
def PrizesSumUptoSaid : Prop := prizesSumUptoRow.holds Tryz.pinned (OpenSpec.upto prizesSumSpec)

end Rows
end Go.Proofs.YtoiiblkncbnlaaaGreat
