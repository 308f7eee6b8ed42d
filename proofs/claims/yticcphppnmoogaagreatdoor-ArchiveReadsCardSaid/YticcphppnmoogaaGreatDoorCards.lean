/-
  DERIVED. GIVEN WITH THE SEED: THE CARDS: each row of YticcphppnmoogaaGreatDoorRows.lean that lists a variable, with what it lists TIED to the program's text (the seventh form; the later family's looks); each row that meets fmt, with fmt's text TOLD by the authors' own Lean function (tested against real Go, not proved from fmt's source: count such statements apart). THE CARD IS WHAT COUNTS. Prove the row's statement (the work); the ties are given (YticcphppnmoogaaGreatDoorTie.lean); close each card by the builder's one call (the guide's Derived/Test/ToyasCard.lean, 'card_holds'). Laid BY PROGRAM, IN A SANDBOX (cutbox-door.mjs). By AI agents, Wed Nov 11 2026. No macro, syntax, notation, axiom, sorry.
-/
import Derived.Test.YticcphppnmoogaaGreatDoorRows
import GoSem.ClaimSeven
namespace Go.Proofs.YticcphppnmoogaaGreatDoor
namespace Rows

/-- THE TIED CARD OF 'creellaw12.ArchiveReads'. -/
def archiveReadsCard : Claim7 := { stood := { row := archiveReadsRow, standIns := [], harness := (true, "d11868f2670f18b764574ee35944a0540bf2b6092ca8df4c327944e5fba5e457"), looks := false }, kinds := [], alts := [], laidByText := true, laidKinds := [.data, .data, .data, .pinned], laidTests := true, laidLooks := .later }
def ArchiveReadsCardSaid : Prop := Claim7.holds Tryz.pinned (.plain (OpenSpec.ofChange archiveReadsSpec)) archiveReadsCard

/-- THE TIED CARD OF 'creellaw12.ArchiveBytes'. -/
def archiveBytesCard : Claim7 := { stood := { row := archiveBytesRow, standIns := [], harness := (true, "d11868f2670f18b764574ee35944a0540bf2b6092ca8df4c327944e5fba5e457"), looks := false }, kinds := [], alts := [], laidByText := true, laidKinds := [.data, .data, .data, .pinned], laidTests := true, laidLooks := .later }
def ArchiveBytesCardSaid : Prop := Claim7.holds Tryz.pinned (.plain (OpenSpec.ofChange archiveBytesSpec)) archiveBytesCard

/-- THE SECOND FORM's CARD OF 'creellaw12.ArchiveReads'. -/
def archiveReadsUptoCard : Claim7 := { stood := { row := archiveReadsUptoRow, standIns := [], harness := (true, "d11868f2670f18b764574ee35944a0540bf2b6092ca8df4c327944e5fba5e457"), looks := false }, kinds := [], alts := [], laidByText := true, laidKinds := [.data, .data, .data, .pinned], laidTests := true, laidLooks := .later }
def ArchiveReadsUptoCardSaid : Prop := Claim7.holds Tryz.pinned (.plain (OpenSpec.upto archiveReadsSpec)) archiveReadsUptoCard

/-- THE SECOND FORM's CARD OF 'creellaw12.ArchiveBytes'. -/
def archiveBytesUptoCard : Claim7 := { stood := { row := archiveBytesUptoRow, standIns := [], harness := (true, "d11868f2670f18b764574ee35944a0540bf2b6092ca8df4c327944e5fba5e457"), looks := false }, kinds := [], alts := [], laidByText := true, laidKinds := [.data, .data, .data, .pinned], laidTests := true, laidLooks := .later }
def ArchiveBytesUptoCardSaid : Prop := Claim7.holds Tryz.pinned (.plain (OpenSpec.upto archiveBytesSpec)) archiveBytesUptoCard
end Rows
end Go.Proofs.YticcphppnmoogaaGreatDoor
