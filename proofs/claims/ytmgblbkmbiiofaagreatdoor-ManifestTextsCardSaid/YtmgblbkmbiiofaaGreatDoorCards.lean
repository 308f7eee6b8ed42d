/-
  DERIVED. GIVEN WITH THE SEED: THE CARDS: each row of YtmgblbkmbiiofaaGreatDoorRows.lean that lists a variable, with what it lists TIED to the program's text (the seventh form; the later family's looks); each row that meets fmt, with fmt's text TOLD by the authors' own Lean function (tested against real Go, not proved from fmt's source: count such statements apart). THE CARD IS WHAT COUNTS. Prove the row's statement (the work); the ties are given (YtmgblbkmbiiofaaGreatDoorTie.lean); close each card by the builder's one call (the guide's Derived/Test/ToyasCard.lean, 'card_holds'). Laid BY PROGRAM, IN A SANDBOX (cutbox-door.mjs). By AI agents, Wed Nov 11 2026. No macro, syntax, notation, axiom, sorry.
-/
import Derived.Test.YtmgblbkmbiiofaaGreatDoorRows
import GoSem.ClaimSeven
namespace Go.Proofs.YtmgblbkmbiiofaaGreatDoor
namespace Rows

/-- THE TIED CARD OF 'creellaw13.ManifestParses'. -/
def manifestParsesCard : Claim7 := { stood := { row := manifestParsesRow, standIns := [], harness := (true, "9e0dae11a60dc77fe85a640c0fb79eca251a62b714c82c614c6b3d05e6c64902"), looks := false }, kinds := [], alts := [], laidByText := true, laidKinds := [.data, .data, .data, .data, .listed, .data, .pinned], laidTests := true, laidLooks := .later }
def ManifestParsesCardSaid : Prop := Claim7.holds Tryz.pinned (.plain (OpenSpec.ofChange manifestParsesSpec)) manifestParsesCard

/-- THE TIED CARD OF 'creellaw13.ManifestTexts'. -/
def manifestTextsCard : Claim7 := { stood := { row := manifestTextsRow, standIns := [], harness := (true, "9e0dae11a60dc77fe85a640c0fb79eca251a62b714c82c614c6b3d05e6c64902"), looks := false }, kinds := [], alts := [], laidByText := true, laidKinds := [.data, .data, .data, .data, .listed, .data, .pinned], laidTests := true, laidLooks := .later }
def ManifestTextsCardSaid : Prop := Claim7.holds Tryz.pinned (.plain (OpenSpec.ofChange manifestTextsSpec)) manifestTextsCard

/-- THE TIED CARD OF 'creellaw13.ManifestTells'. -/
def manifestTellsCard : Claim7 := { stood := { row := manifestTellsRow, standIns := [], harness := (true, "9e0dae11a60dc77fe85a640c0fb79eca251a62b714c82c614c6b3d05e6c64902"), looks := false }, kinds := [], alts := [], laidByText := true, laidKinds := [.data, .listed, .data, .pinned], laidTests := true, laidLooks := .later }
def ManifestTellsCardSaid : Prop := Claim7.holds Tryz.pinned (.plain (OpenSpec.ofChange manifestTellsSpec)) manifestTellsCard

/-- THE SECOND FORM's CARD OF 'creellaw13.ManifestParses'. -/
def manifestParsesUptoCard : Claim7 := { stood := { row := manifestParsesUptoRow, standIns := [], harness := (true, "9e0dae11a60dc77fe85a640c0fb79eca251a62b714c82c614c6b3d05e6c64902"), looks := false }, kinds := [], alts := [], laidByText := true, laidKinds := [.data, .data, .data, .data, .listed, .data, .pinned], laidTests := true, laidLooks := .later }
def ManifestParsesUptoCardSaid : Prop := Claim7.holds Tryz.pinned (.plain (OpenSpec.upto manifestParsesSpec)) manifestParsesUptoCard

/-- THE SECOND FORM's CARD OF 'creellaw13.ManifestTexts'. -/
def manifestTextsUptoCard : Claim7 := { stood := { row := manifestTextsUptoRow, standIns := [], harness := (true, "9e0dae11a60dc77fe85a640c0fb79eca251a62b714c82c614c6b3d05e6c64902"), looks := false }, kinds := [], alts := [], laidByText := true, laidKinds := [.data, .data, .data, .data, .listed, .data, .pinned], laidTests := true, laidLooks := .later }
def ManifestTextsUptoCardSaid : Prop := Claim7.holds Tryz.pinned (.plain (OpenSpec.upto manifestTextsSpec)) manifestTextsUptoCard

/-- THE SECOND FORM's CARD OF 'creellaw13.ManifestTells'. -/
def manifestTellsUptoCard : Claim7 := { stood := { row := manifestTellsUptoRow, standIns := [], harness := (true, "9e0dae11a60dc77fe85a640c0fb79eca251a62b714c82c614c6b3d05e6c64902"), looks := false }, kinds := [], alts := [], laidByText := true, laidKinds := [.data, .listed, .data, .pinned], laidTests := true, laidLooks := .later }
def ManifestTellsUptoCardSaid : Prop := Claim7.holds Tryz.pinned (.plain (OpenSpec.upto manifestTellsSpec)) manifestTellsUptoCard
end Rows
end Go.Proofs.YtmgblbkmbiiofaaGreatDoor
