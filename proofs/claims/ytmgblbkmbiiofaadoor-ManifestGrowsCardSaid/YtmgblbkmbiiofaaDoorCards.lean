/-
  DERIVED. GIVEN WITH THE SEED: THE CARDS: each row of YtmgblbkmbiiofaaDoorRows.lean that lists a variable, with what it lists TIED to the program's text (the seventh form; the later family's looks); each row that meets fmt, with fmt's text TOLD by the authors' own Lean function (tested against real Go, not proved from fmt's source: count such statements apart). THE CARD IS WHAT COUNTS. Prove the row's statement (the work); the ties are given (YtmgblbkmbiiofaaDoorTie.lean); close each card by the builder's one call (the guide's Derived/Test/ToyasCard.lean, 'card_holds'). Laid BY PROGRAM, IN A SANDBOX (cutbox-door.mjs). By AI agents, Wed Nov 11 2026. No macro, syntax, notation, axiom, sorry.
-/
import Derived.Test.YtmgblbkmbiiofaaDoorRows
import GoSem.ClaimSeven
namespace Go.Proofs.YtmgblbkmbiiofaaDoor
namespace Rows

/-- THE TIED CARD OF 'creellaw13.ManifestGrows'. -/
def manifestGrowsCard : Claim7 := { stood := { row := manifestGrowsRow, standIns := [], harness := (true, "88c0761b0165042542a7b98864e48d2f3e8168542263677060d5accb654b35f0"), looks := false }, kinds := [], alts := [], laidByText := true, laidKinds := [.data, .data, .data, .data, .listed, .data, .pinned], laidTests := true, laidLooks := .later }
def ManifestGrowsCardSaid : Prop := Claim7.holds Tryd.pinned (.plain (OpenSpec.ofChange manifestGrowsSpec)) manifestGrowsCard

/-- THE SECOND FORM's CARD OF 'creellaw13.ManifestGrows'. -/
def manifestGrowsUptoCard : Claim7 := { stood := { row := manifestGrowsUptoRow, standIns := [], harness := (true, "88c0761b0165042542a7b98864e48d2f3e8168542263677060d5accb654b35f0"), looks := false }, kinds := [], alts := [], laidByText := true, laidKinds := [.data, .data, .data, .data, .listed, .data, .pinned], laidTests := true, laidLooks := .later }
def ManifestGrowsUptoCardSaid : Prop := Claim7.holds Tryd.pinned (.plain (OpenSpec.upto manifestGrowsSpec)) manifestGrowsUptoCard
end Rows
end Go.Proofs.YtmgblbkmbiiofaaDoor
