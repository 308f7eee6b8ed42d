/-
  DERIVED. GIVEN WITH THE SEED: THE CARDS: each row of YtheffimpadccaaaDoorRows.lean that lists a variable, with what it lists TIED to the program's text (the seventh form; the later family's looks); each row that meets fmt, with fmt's text TOLD by the authors' own Lean function (tested against real Go, not proved from fmt's source: count such statements apart). THE CARD IS WHAT COUNTS. Prove the row's statement (the work); the ties are given (YtheffimpadccaaaDoorTie.lean); close each card by the builder's one call (the guide's Derived/Test/ToyasCard.lean, 'card_holds'). Laid BY PROGRAM, IN A SANDBOX (cutbox-door.mjs). By AI agents, Wed Nov 11 2026. No macro, syntax, notation, axiom, sorry.
-/
import Derived.Test.YtheffimpadccaaaDoorRows
import GoSem.ClaimSeven
namespace Go.Proofs.YtheffimpadccaaaDoor
namespace Rows

/-- THE TIED CARD OF 'creellaw06.ModeTexts'. -/
def modeTextsCard : Claim7 := { stood := { row := modeTextsRow, standIns := [], harness := (true, "d8077046ea8810d38150f59ea2cd97269e722f32882894bc1b9cfcd12cb430e1"), looks := false }, kinds := [], alts := [], laidByText := true, laidKinds := [.listed, .data], laidTests := true, laidLooks := .later }
def ModeTextsCardSaid : Prop := Claim7.holds Tryd.pinned (.plain (OpenSpec.ofChange modeTextsSpec)) modeTextsCard

/-- THE SECOND FORM's CARD OF 'creellaw06.ModeTexts'. -/
def modeTextsUptoCard : Claim7 := { stood := { row := modeTextsUptoRow, standIns := [], harness := (true, "d8077046ea8810d38150f59ea2cd97269e722f32882894bc1b9cfcd12cb430e1"), looks := false }, kinds := [], alts := [], laidByText := true, laidKinds := [.listed, .data], laidTests := true, laidLooks := .later }
def ModeTextsUptoCardSaid : Prop := Claim7.holds Tryd.pinned (.plain (OpenSpec.upto modeTextsSpec)) modeTextsUptoCard
end Rows
end Go.Proofs.YtheffimpadccaaaDoor
