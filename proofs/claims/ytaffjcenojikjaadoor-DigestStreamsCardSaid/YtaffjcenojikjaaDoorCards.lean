/-
  DERIVED. GIVEN WITH THE SEED: THE CARDS: each row of YtaffjcenojikjaaDoorRows.lean that lists a variable, with what it lists TIED to the program's text (the seventh form; the later family's looks); each row that meets fmt, with fmt's text TOLD by the authors' own Lean function (tested against real Go, not proved from fmt's source: count such statements apart). THE CARD IS WHAT COUNTS. Prove the row's statement (the work); the ties are given (YtaffjcenojikjaaDoorTie.lean); close each card by the builder's one call (the guide's Derived/Test/ToyasCard.lean, 'card_holds'). Laid BY PROGRAM, IN A SANDBOX (cutbox-door.mjs). By AI agents, Wed Nov 11 2026. No macro, syntax, notation, axiom, sorry.
-/
import Derived.Test.YtaffjcenojikjaaDoorRows
import GoSem.ClaimSeven
namespace Go.Proofs.YtaffjcenojikjaaDoor
namespace Rows

/-- THE TIED CARD OF 'creellaw02.DigestStreams'. -/
def digestStreamsCard : Claim7 := { stood := { row := digestStreamsRow, standIns := [], harness := (true, "4910eb93ee81e122a3fc2dd5d85c7ec0cfbee129bc1140e50d2d00a130a0ed2a"), looks := false }, kinds := [], alts := [], laidByText := true, laidKinds := [.data, .data], laidTests := true, laidLooks := .later }
def DigestStreamsCardSaid : Prop := Claim7.holds Tryd.pinned (.plain (OpenSpec.ofChange digestStreamsSpec)) digestStreamsCard

/-- THE TIED CARD OF 'creellaw02.DigestNil'. -/
def digestNilCard : Claim7 := { stood := { row := digestNilRow, standIns := [], harness := (true, "4910eb93ee81e122a3fc2dd5d85c7ec0cfbee129bc1140e50d2d00a130a0ed2a"), looks := false }, kinds := [], alts := [], laidByText := true, laidKinds := [.data, .data], laidTests := true, laidLooks := .later }
def DigestNilCardSaid : Prop := Claim7.holds Tryd.pinned (.plain (OpenSpec.ofChange digestNilSpec)) digestNilCard

/-- THE TIED CARD OF 'creellaw02.DigestPieces'. -/
def digestPiecesCard : Claim7 := { stood := { row := digestPiecesRow, standIns := [], harness := (true, "4910eb93ee81e122a3fc2dd5d85c7ec0cfbee129bc1140e50d2d00a130a0ed2a"), looks := false }, kinds := [], alts := [], laidByText := true, laidKinds := [.data, .data], laidTests := true, laidLooks := .later }
def DigestPiecesCardSaid : Prop := Claim7.holds Tryd.pinned (.plain (OpenSpec.ofChange digestPiecesSpec)) digestPiecesCard

/-- THE TIED CARD OF 'creellaw02.DigestTexts'. -/
def digestTextsCard : Claim7 := { stood := { row := digestTextsRow, standIns := [], harness := (true, "4910eb93ee81e122a3fc2dd5d85c7ec0cfbee129bc1140e50d2d00a130a0ed2a"), looks := false }, kinds := [], alts := [], laidByText := true, laidKinds := [.data, .data], laidTests := true, laidLooks := .later }
def DigestTextsCardSaid : Prop := Claim7.holds Tryd.pinned (.plain (OpenSpec.ofChange digestTextsSpec)) digestTextsCard

/-- THE TIED CARD OF 'creellaw02.DigestHex'. -/
def digestHexCard : Claim7 := { stood := { row := digestHexRow, standIns := [], harness := (true, "4910eb93ee81e122a3fc2dd5d85c7ec0cfbee129bc1140e50d2d00a130a0ed2a"), looks := false }, kinds := [], alts := [], laidByText := true, laidKinds := [.data, .data], laidTests := true, laidLooks := .later }
def DigestHexCardSaid : Prop := Claim7.holds Tryd.pinned (.plain (OpenSpec.ofChange digestHexSpec)) digestHexCard

/-- THE SECOND FORM's CARD OF 'creellaw02.DigestStreams'. -/
def digestStreamsUptoCard : Claim7 := { stood := { row := digestStreamsUptoRow, standIns := [], harness := (true, "4910eb93ee81e122a3fc2dd5d85c7ec0cfbee129bc1140e50d2d00a130a0ed2a"), looks := false }, kinds := [], alts := [], laidByText := true, laidKinds := [.data, .data], laidTests := true, laidLooks := .later }
def DigestStreamsUptoCardSaid : Prop := Claim7.holds Tryd.pinned (.plain (OpenSpec.upto digestStreamsSpec)) digestStreamsUptoCard

/-- THE SECOND FORM's CARD OF 'creellaw02.DigestNil'. -/
def digestNilUptoCard : Claim7 := { stood := { row := digestNilUptoRow, standIns := [], harness := (true, "4910eb93ee81e122a3fc2dd5d85c7ec0cfbee129bc1140e50d2d00a130a0ed2a"), looks := false }, kinds := [], alts := [], laidByText := true, laidKinds := [.data, .data], laidTests := true, laidLooks := .later }
def DigestNilUptoCardSaid : Prop := Claim7.holds Tryd.pinned (.plain (OpenSpec.upto digestNilSpec)) digestNilUptoCard

/-- THE SECOND FORM's CARD OF 'creellaw02.DigestPieces'. -/
def digestPiecesUptoCard : Claim7 := { stood := { row := digestPiecesUptoRow, standIns := [], harness := (true, "4910eb93ee81e122a3fc2dd5d85c7ec0cfbee129bc1140e50d2d00a130a0ed2a"), looks := false }, kinds := [], alts := [], laidByText := true, laidKinds := [.data, .data], laidTests := true, laidLooks := .later }
def DigestPiecesUptoCardSaid : Prop := Claim7.holds Tryd.pinned (.plain (OpenSpec.upto digestPiecesSpec)) digestPiecesUptoCard

/-- THE SECOND FORM's CARD OF 'creellaw02.DigestTexts'. -/
def digestTextsUptoCard : Claim7 := { stood := { row := digestTextsUptoRow, standIns := [], harness := (true, "4910eb93ee81e122a3fc2dd5d85c7ec0cfbee129bc1140e50d2d00a130a0ed2a"), looks := false }, kinds := [], alts := [], laidByText := true, laidKinds := [.data, .data], laidTests := true, laidLooks := .later }
def DigestTextsUptoCardSaid : Prop := Claim7.holds Tryd.pinned (.plain (OpenSpec.upto digestTextsSpec)) digestTextsUptoCard

/-- THE SECOND FORM's CARD OF 'creellaw02.DigestHex'. -/
def digestHexUptoCard : Claim7 := { stood := { row := digestHexUptoRow, standIns := [], harness := (true, "4910eb93ee81e122a3fc2dd5d85c7ec0cfbee129bc1140e50d2d00a130a0ed2a"), looks := false }, kinds := [], alts := [], laidByText := true, laidKinds := [.data, .data], laidTests := true, laidLooks := .later }
def DigestHexUptoCardSaid : Prop := Claim7.holds Tryd.pinned (.plain (OpenSpec.upto digestHexSpec)) digestHexUptoCard
end Rows
end Go.Proofs.YtaffjcenojikjaaDoor
