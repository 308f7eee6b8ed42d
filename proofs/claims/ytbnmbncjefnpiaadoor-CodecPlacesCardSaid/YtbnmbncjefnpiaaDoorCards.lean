/-
  DERIVED. GIVEN WITH THE SEED: THE CARDS: each row of YtbnmbncjefnpiaaDoorRows.lean that lists a variable, with what it lists TIED to the program's text (the seventh form; the later family's looks); each row that meets fmt, with fmt's text TOLD by the authors' own Lean function (tested against real Go, not proved from fmt's source: count such statements apart). THE CARD IS WHAT COUNTS. Prove the row's statement (the work); the ties are given (YtbnmbncjefnpiaaDoorTie.lean); close each card by the builder's one call (the guide's Derived/Test/ToyasCard.lean, 'card_holds'). Laid BY PROGRAM, IN A SANDBOX (cutbox-door.mjs). By AI agents, Wed Nov 11 2026. No macro, syntax, notation, axiom, sorry.
-/
import Derived.Test.YtbnmbncjefnpiaaDoorRows
import GoSem.ClaimSeven
namespace Go.Proofs.YtbnmbncjefnpiaaDoor
namespace Rows

/-- THE TIED CARD OF 'creellaw03.CodecLists'. -/
def codecListsCard : Claim7 := { stood := { row := codecListsRow, standIns := [], harness := (true, "96e6b698017efcf2e833f04010b2a4fcc086d09997d56288bb7a056821dacaf1"), looks := true }, kinds := [], alts := [], laidByText := true, laidKinds := [.data, .data, .data, .sentinel, .sentinel], laidTests := true, laidLooks := .later }
def CodecListsCardSaid : Prop := Claim7.holds Tryd.pinned (.plain (OpenSpec.ofChange codecListsSpec)) codecListsCard

/-- THE TIED CARD OF 'creellaw03.CodecPlaces'. -/
def codecPlacesCard : Claim7 := { stood := { row := codecPlacesRow, standIns := [], harness := (true, "96e6b698017efcf2e833f04010b2a4fcc086d09997d56288bb7a056821dacaf1"), looks := true }, kinds := [], alts := [], laidByText := true, laidKinds := [.data, .data, .data, .sentinel, .sentinel], laidTests := true, laidLooks := .later }
def CodecPlacesCardSaid : Prop := Claim7.holds Tryd.pinned (.plain (OpenSpec.ofChange codecPlacesSpec)) codecPlacesCard

/-- THE TIED CARD OF 'creellaw03.CodecWrites'. -/
def codecWritesCard : Claim7 := { stood := { row := codecWritesRow, standIns := [], harness := (true, "96e6b698017efcf2e833f04010b2a4fcc086d09997d56288bb7a056821dacaf1"), looks := true }, kinds := [], alts := [], laidByText := true, laidKinds := [.data, .data, .data, .sentinel, .sentinel], laidTests := true, laidLooks := .later }
def CodecWritesCardSaid : Prop := Claim7.holds Tryd.pinned (.plain (OpenSpec.ofChange codecWritesSpec)) codecWritesCard

/-- THE SECOND FORM's CARD OF 'creellaw03.CodecLists'. -/
def codecListsUptoCard : Claim7 := { stood := { row := codecListsUptoRow, standIns := [], harness := (true, "96e6b698017efcf2e833f04010b2a4fcc086d09997d56288bb7a056821dacaf1"), looks := true }, kinds := [], alts := [], laidByText := true, laidKinds := [.data, .data, .data, .sentinel, .sentinel], laidTests := true, laidLooks := .later }
def CodecListsUptoCardSaid : Prop := Claim7.holds Tryd.pinned (.plain (OpenSpec.upto codecListsSpec)) codecListsUptoCard

/-- THE SECOND FORM's CARD OF 'creellaw03.CodecPlaces'. -/
def codecPlacesUptoCard : Claim7 := { stood := { row := codecPlacesUptoRow, standIns := [], harness := (true, "96e6b698017efcf2e833f04010b2a4fcc086d09997d56288bb7a056821dacaf1"), looks := true }, kinds := [], alts := [], laidByText := true, laidKinds := [.data, .data, .data, .sentinel, .sentinel], laidTests := true, laidLooks := .later }
def CodecPlacesUptoCardSaid : Prop := Claim7.holds Tryd.pinned (.plain (OpenSpec.upto codecPlacesSpec)) codecPlacesUptoCard

/-- THE SECOND FORM's CARD OF 'creellaw03.CodecWrites'. -/
def codecWritesUptoCard : Claim7 := { stood := { row := codecWritesUptoRow, standIns := [], harness := (true, "96e6b698017efcf2e833f04010b2a4fcc086d09997d56288bb7a056821dacaf1"), looks := true }, kinds := [], alts := [], laidByText := true, laidKinds := [.data, .data, .data, .sentinel, .sentinel], laidTests := true, laidLooks := .later }
def CodecWritesUptoCardSaid : Prop := Claim7.holds Tryd.pinned (.plain (OpenSpec.upto codecWritesSpec)) codecWritesUptoCard
end Rows
end Go.Proofs.YtbnmbncjefnpiaaDoor
