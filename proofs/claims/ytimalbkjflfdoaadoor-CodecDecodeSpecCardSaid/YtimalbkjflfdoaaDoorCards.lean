/-
  DERIVED. GIVEN WITH THE SEED: THE CARDS: each row of YtimalbkjflfdoaaDoorRows.lean that lists a variable, with what it lists TIED to the program's text (the seventh form; the later family's looks); each row that meets fmt, with fmt's text TOLD by the authors' own Lean function (tested against real Go, not proved from fmt's source: count such statements apart). THE CARD IS WHAT COUNTS. Prove the row's statement (the work); the ties are given (YtimalbkjflfdoaaDoorTie.lean); close each card by the builder's one call (the guide's Derived/Test/ToyasCard.lean, 'card_holds'). Laid BY PROGRAM, IN A SANDBOX (cutbox-door.mjs). By AI agents, Wed Nov 11 2026. No macro, syntax, notation, axiom, sorry.
-/
import Derived.Test.YtimalbkjflfdoaaDoorRows
import GoSem.ClaimSeven
namespace Go.Proofs.YtimalbkjflfdoaaDoor
namespace Rows

/-- THE TIED CARD OF 'assizelaw02.CodecEncodeSpec'. -/
def codecEncodeSpecCard : Claim7 := { stood := { row := codecEncodeSpecRow, standIns := [], harness := (true, "1b33dbd739b179a5a3de738d6adb727ffc01c607b93b59d431129b72320eff5c"), looks := true }, kinds := [], alts := [], laidByText := true, laidKinds := [.data, .data, .data, .sentinel, .sentinel], laidTests := true, laidLooks := .later }
def CodecEncodeSpecCardSaid : Prop := Claim7.holds Tryd.pinned (.plain (OpenSpec.ofChange codecEncodeSpecSpec)) codecEncodeSpecCard

/-- THE TIED CARD OF 'assizelaw02.CodecDecodeSpec'. -/
def codecDecodeSpecCard : Claim7 := { stood := { row := codecDecodeSpecRow, standIns := [], harness := (true, "1b33dbd739b179a5a3de738d6adb727ffc01c607b93b59d431129b72320eff5c"), looks := true }, kinds := [], alts := [], laidByText := true, laidKinds := [.data, .data, .data, .sentinel, .sentinel], laidTests := true, laidLooks := .later }
def CodecDecodeSpecCardSaid : Prop := Claim7.holds Tryd.pinned (.plain (OpenSpec.ofChange codecDecodeSpecSpec)) codecDecodeSpecCard

/-- THE TIED CARD OF 'assizelaw02.CodecGetSpec'. -/
def codecGetSpecCard : Claim7 := { stood := { row := codecGetSpecRow, standIns := [], harness := (true, "1b33dbd739b179a5a3de738d6adb727ffc01c607b93b59d431129b72320eff5c"), looks := true }, kinds := [], alts := [], laidByText := true, laidKinds := [.data, .data, .data, .sentinel, .sentinel], laidTests := true, laidLooks := .later }
def CodecGetSpecCardSaid : Prop := Claim7.holds Tryd.pinned (.plain (OpenSpec.ofChange codecGetSpecSpec)) codecGetSpecCard

/-- THE TIED CARD OF 'assizelaw02.CodecRoundTrip'. -/
def codecRoundTripCard : Claim7 := { stood := { row := codecRoundTripRow, standIns := [], harness := (true, "1b33dbd739b179a5a3de738d6adb727ffc01c607b93b59d431129b72320eff5c"), looks := true }, kinds := [], alts := [], laidByText := true, laidKinds := [.data, .data, .data, .sentinel, .sentinel], laidTests := true, laidLooks := .later }
def CodecRoundTripCardSaid : Prop := Claim7.holds Tryd.pinned (.plain (OpenSpec.ofChange codecRoundTripSpec)) codecRoundTripCard

/-- THE TIED CARD OF 'assizelaw02.CodecDifferent'. -/
def codecDifferentCard : Claim7 := { stood := { row := codecDifferentRow, standIns := [], harness := (true, "1b33dbd739b179a5a3de738d6adb727ffc01c607b93b59d431129b72320eff5c"), looks := true }, kinds := [], alts := [], laidByText := true, laidKinds := [.data, .data, .data, .sentinel, .sentinel], laidTests := true, laidLooks := .later }
def CodecDifferentCardSaid : Prop := Claim7.holds Tryd.pinned (.plain (OpenSpec.ofChange codecDifferentSpec)) codecDifferentCard

/-- THE TIED CARD OF 'assizelaw02.CodecLists'. -/
def codecListsCard : Claim7 := { stood := { row := codecListsRow, standIns := [], harness := (true, "1b33dbd739b179a5a3de738d6adb727ffc01c607b93b59d431129b72320eff5c"), looks := true }, kinds := [], alts := [], laidByText := true, laidKinds := [.data, .data, .data, .sentinel, .sentinel], laidTests := true, laidLooks := .later }
def CodecListsCardSaid : Prop := Claim7.holds Tryd.pinned (.plain (OpenSpec.ofChange codecListsSpec)) codecListsCard

/-- THE TIED CARD OF 'assizelaw02.CodecKeys'. -/
def codecKeysCard : Claim7 := { stood := { row := codecKeysRow, standIns := [], harness := (true, "1b33dbd739b179a5a3de738d6adb727ffc01c607b93b59d431129b72320eff5c"), looks := true }, kinds := [], alts := [], laidByText := true, laidKinds := [.data, .data, .data, .sentinel, .sentinel], laidTests := true, laidLooks := .later }
def CodecKeysCardSaid : Prop := Claim7.holds Tryd.pinned (.plain (OpenSpec.ofChange codecKeysSpec)) codecKeysCard

/-- THE SECOND FORM's CARD OF 'assizelaw02.CodecEncodeSpec'. -/
def codecEncodeSpecUptoCard : Claim7 := { stood := { row := codecEncodeSpecUptoRow, standIns := [], harness := (true, "1b33dbd739b179a5a3de738d6adb727ffc01c607b93b59d431129b72320eff5c"), looks := true }, kinds := [], alts := [], laidByText := true, laidKinds := [.data, .data, .data, .sentinel, .sentinel], laidTests := true, laidLooks := .later }
def CodecEncodeSpecUptoCardSaid : Prop := Claim7.holds Tryd.pinned (.plain (OpenSpec.upto codecEncodeSpecSpec)) codecEncodeSpecUptoCard

/-- THE SECOND FORM's CARD OF 'assizelaw02.CodecDecodeSpec'. -/
def codecDecodeSpecUptoCard : Claim7 := { stood := { row := codecDecodeSpecUptoRow, standIns := [], harness := (true, "1b33dbd739b179a5a3de738d6adb727ffc01c607b93b59d431129b72320eff5c"), looks := true }, kinds := [], alts := [], laidByText := true, laidKinds := [.data, .data, .data, .sentinel, .sentinel], laidTests := true, laidLooks := .later }
def CodecDecodeSpecUptoCardSaid : Prop := Claim7.holds Tryd.pinned (.plain (OpenSpec.upto codecDecodeSpecSpec)) codecDecodeSpecUptoCard

/-- THE SECOND FORM's CARD OF 'assizelaw02.CodecGetSpec'. -/
def codecGetSpecUptoCard : Claim7 := { stood := { row := codecGetSpecUptoRow, standIns := [], harness := (true, "1b33dbd739b179a5a3de738d6adb727ffc01c607b93b59d431129b72320eff5c"), looks := true }, kinds := [], alts := [], laidByText := true, laidKinds := [.data, .data, .data, .sentinel, .sentinel], laidTests := true, laidLooks := .later }
def CodecGetSpecUptoCardSaid : Prop := Claim7.holds Tryd.pinned (.plain (OpenSpec.upto codecGetSpecSpec)) codecGetSpecUptoCard

/-- THE SECOND FORM's CARD OF 'assizelaw02.CodecRoundTrip'. -/
def codecRoundTripUptoCard : Claim7 := { stood := { row := codecRoundTripUptoRow, standIns := [], harness := (true, "1b33dbd739b179a5a3de738d6adb727ffc01c607b93b59d431129b72320eff5c"), looks := true }, kinds := [], alts := [], laidByText := true, laidKinds := [.data, .data, .data, .sentinel, .sentinel], laidTests := true, laidLooks := .later }
def CodecRoundTripUptoCardSaid : Prop := Claim7.holds Tryd.pinned (.plain (OpenSpec.upto codecRoundTripSpec)) codecRoundTripUptoCard

/-- THE SECOND FORM's CARD OF 'assizelaw02.CodecDifferent'. -/
def codecDifferentUptoCard : Claim7 := { stood := { row := codecDifferentUptoRow, standIns := [], harness := (true, "1b33dbd739b179a5a3de738d6adb727ffc01c607b93b59d431129b72320eff5c"), looks := true }, kinds := [], alts := [], laidByText := true, laidKinds := [.data, .data, .data, .sentinel, .sentinel], laidTests := true, laidLooks := .later }
def CodecDifferentUptoCardSaid : Prop := Claim7.holds Tryd.pinned (.plain (OpenSpec.upto codecDifferentSpec)) codecDifferentUptoCard

/-- THE SECOND FORM's CARD OF 'assizelaw02.CodecLists'. -/
def codecListsUptoCard : Claim7 := { stood := { row := codecListsUptoRow, standIns := [], harness := (true, "1b33dbd739b179a5a3de738d6adb727ffc01c607b93b59d431129b72320eff5c"), looks := true }, kinds := [], alts := [], laidByText := true, laidKinds := [.data, .data, .data, .sentinel, .sentinel], laidTests := true, laidLooks := .later }
def CodecListsUptoCardSaid : Prop := Claim7.holds Tryd.pinned (.plain (OpenSpec.upto codecListsSpec)) codecListsUptoCard

/-- THE SECOND FORM's CARD OF 'assizelaw02.CodecKeys'. -/
def codecKeysUptoCard : Claim7 := { stood := { row := codecKeysUptoRow, standIns := [], harness := (true, "1b33dbd739b179a5a3de738d6adb727ffc01c607b93b59d431129b72320eff5c"), looks := true }, kinds := [], alts := [], laidByText := true, laidKinds := [.data, .data, .data, .sentinel, .sentinel], laidTests := true, laidLooks := .later }
def CodecKeysUptoCardSaid : Prop := Claim7.holds Tryd.pinned (.plain (OpenSpec.upto codecKeysSpec)) codecKeysUptoCard
end Rows
end Go.Proofs.YtimalbkjflfdoaaDoor
