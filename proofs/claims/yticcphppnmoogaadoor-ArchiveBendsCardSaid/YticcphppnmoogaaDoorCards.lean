/-
  DERIVED. GIVEN WITH THE SEED: THE CARDS: each row of YticcphppnmoogaaDoorRows.lean that lists a variable, with what it lists TIED to the program's text (the seventh form; the later family's looks); each row that meets fmt, with fmt's text TOLD by the authors' own Lean function (tested against real Go, not proved from fmt's source: count such statements apart). THE CARD IS WHAT COUNTS. Prove the row's statement (the work); the ties are given (YticcphppnmoogaaDoorTie.lean); close each card by the builder's one call (the guide's Derived/Test/ToyasCard.lean, 'card_holds'). Laid BY PROGRAM, IN A SANDBOX (cutbox-door.mjs). By AI agents, Wed Nov 11 2026. No macro, syntax, notation, axiom, sorry.
-/
import Derived.Test.YticcphppnmoogaaDoorRows
import GoSem.ClaimSeven
namespace Go.Proofs.YticcphppnmoogaaDoor
namespace Rows

/-- THE TIED CARD OF 'creellaw12.ArchiveFronts'. -/
def archiveFrontsCard : Claim7 := { stood := { row := archiveFrontsRow, standIns := [], harness := (true, "3e75e0bca1d21b75a35bad8795df65fa89e1fd768f09ad7f3b626e3a9ed5780b"), looks := false }, kinds := [], alts := [], laidByText := true, laidKinds := [.data, .data, .data, .pinned], laidTests := true, laidLooks := .later }
def ArchiveFrontsCardSaid : Prop := Claim7.holds Tryd.pinned (.plain (OpenSpec.ofChange archiveFrontsSpec)) archiveFrontsCard

/-- THE TIED CARD OF 'creellaw12.ArchiveTells'. -/
def archiveTellsCard : Claim7 := { stood := { row := archiveTellsRow, standIns := [], harness := (true, "3e75e0bca1d21b75a35bad8795df65fa89e1fd768f09ad7f3b626e3a9ed5780b"), looks := false }, kinds := [], alts := [], laidByText := true, laidKinds := [.data, .data, .data, .pinned], laidTests := true, laidLooks := .later }
def ArchiveTellsCardSaid : Prop := Claim7.holds Tryd.pinned (.plain (OpenSpec.ofChange archiveTellsSpec)) archiveTellsCard

/-- THE TIED CARD OF 'creellaw12.ArchiveBends'. -/
def archiveBendsCard : Claim7 := { stood := { row := archiveBendsRow, standIns := [], harness := (true, "3e75e0bca1d21b75a35bad8795df65fa89e1fd768f09ad7f3b626e3a9ed5780b"), looks := false }, kinds := [], alts := [], laidByText := true, laidKinds := [.data, .data, .data, .pinned], laidTests := true, laidLooks := .later }
def ArchiveBendsCardSaid : Prop := Claim7.holds Tryd.pinned (.plain (OpenSpec.ofChange archiveBendsSpec)) archiveBendsCard

/-- THE SECOND FORM's CARD OF 'creellaw12.ArchiveFronts'. -/
def archiveFrontsUptoCard : Claim7 := { stood := { row := archiveFrontsUptoRow, standIns := [], harness := (true, "3e75e0bca1d21b75a35bad8795df65fa89e1fd768f09ad7f3b626e3a9ed5780b"), looks := false }, kinds := [], alts := [], laidByText := true, laidKinds := [.data, .data, .data, .pinned], laidTests := true, laidLooks := .later }
def ArchiveFrontsUptoCardSaid : Prop := Claim7.holds Tryd.pinned (.plain (OpenSpec.upto archiveFrontsSpec)) archiveFrontsUptoCard

/-- THE SECOND FORM's CARD OF 'creellaw12.ArchiveTells'. -/
def archiveTellsUptoCard : Claim7 := { stood := { row := archiveTellsUptoRow, standIns := [], harness := (true, "3e75e0bca1d21b75a35bad8795df65fa89e1fd768f09ad7f3b626e3a9ed5780b"), looks := false }, kinds := [], alts := [], laidByText := true, laidKinds := [.data, .data, .data, .pinned], laidTests := true, laidLooks := .later }
def ArchiveTellsUptoCardSaid : Prop := Claim7.holds Tryd.pinned (.plain (OpenSpec.upto archiveTellsSpec)) archiveTellsUptoCard

/-- THE SECOND FORM's CARD OF 'creellaw12.ArchiveBends'. -/
def archiveBendsUptoCard : Claim7 := { stood := { row := archiveBendsUptoRow, standIns := [], harness := (true, "3e75e0bca1d21b75a35bad8795df65fa89e1fd768f09ad7f3b626e3a9ed5780b"), looks := false }, kinds := [], alts := [], laidByText := true, laidKinds := [.data, .data, .data, .pinned], laidTests := true, laidLooks := .later }
def ArchiveBendsUptoCardSaid : Prop := Claim7.holds Tryd.pinned (.plain (OpenSpec.upto archiveBendsSpec)) archiveBendsUptoCard
end Rows
end Go.Proofs.YticcphppnmoogaaDoor
