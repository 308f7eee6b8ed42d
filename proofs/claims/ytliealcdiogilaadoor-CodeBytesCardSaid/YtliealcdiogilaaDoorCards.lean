/-
  DERIVED. GIVEN WITH THE SEED: THE CARDS: each row of YtliealcdiogilaaDoorRows.lean that lists a variable, with what it lists TIED to the program's text (the seventh form; the later family's looks); each row that meets fmt, with fmt's text TOLD by the authors' own Lean function (tested against real Go, not proved from fmt's source: count such statements apart). THE CARD IS WHAT COUNTS. Prove the row's statement (the work); the ties are given (YtliealcdiogilaaDoorTie.lean); close each card by the builder's one call (the guide's Derived/Test/ToyasCard.lean, 'card_holds'). Laid BY PROGRAM, IN A SANDBOX (cutbox-door.mjs). By AI agents, Wed Nov 11 2026. No macro, syntax, notation, axiom, sorry.
-/
import Derived.Test.YtliealcdiogilaaDoorRows
import GoSem.ClaimSeven
namespace Go.Proofs.YtliealcdiogilaaDoor
namespace Rows

/-- THE TIED CARD OF 'creellaw20.CodeBehind'. -/
def codeBehindCard : Claim7 := { stood := { row := codeBehindRow, standIns := [], harness := (true, "ea4e1b17090ce1559cf528865809dafc183d2bf45512cf0182b150334dd336d1"), looks := false }, kinds := [], alts := [], laidByText := true, laidKinds := [.data, .listed, .data, .pinned], laidTests := true, laidLooks := .later }
def CodeBehindCardSaid : Prop := Claim7.holds Tryd.pinned (.plain (OpenSpec.ofChange codeBehindSpec)) codeBehindCard

/-- THE TIED CARD OF 'creellaw20.CodeVerifies'. -/
def codeVerifiesCard : Claim7 := { stood := { row := codeVerifiesRow, standIns := [], harness := (true, "ea4e1b17090ce1559cf528865809dafc183d2bf45512cf0182b150334dd336d1"), looks := false }, kinds := [], alts := [], laidByText := true, laidKinds := [.data, .listed, .data, .pinned], laidTests := true, laidLooks := .later }
def CodeVerifiesCardSaid : Prop := Claim7.holds Tryd.pinned (.plain (OpenSpec.ofChange codeVerifiesSpec)) codeVerifiesCard

/-- THE TIED CARD OF 'creellaw20.CodeSound'. -/
def codeSoundCard : Claim7 := { stood := { row := codeSoundRow, standIns := [], harness := (true, "ea4e1b17090ce1559cf528865809dafc183d2bf45512cf0182b150334dd336d1"), looks := false }, kinds := [], alts := [], laidByText := true, laidKinds := [.data, .listed, .data, .pinned], laidTests := true, laidLooks := .later }
def CodeSoundCardSaid : Prop := Claim7.holds Tryd.pinned (.plain (OpenSpec.ofChange codeSoundSpec)) codeSoundCard

/-- THE TIED CARD OF 'creellaw20.CodeBytes'. -/
def codeBytesCard : Claim7 := { stood := { row := codeBytesRow, standIns := [], harness := (true, "ea4e1b17090ce1559cf528865809dafc183d2bf45512cf0182b150334dd336d1"), looks := false }, kinds := [], alts := [], laidByText := true, laidKinds := [.data, .listed, .data, .pinned], laidTests := true, laidLooks := .later }
def CodeBytesCardSaid : Prop := Claim7.holds Tryd.pinned (.plain (OpenSpec.ofChange codeBytesSpec)) codeBytesCard

/-- THE SECOND FORM's CARD OF 'creellaw20.CodeBehind'. -/
def codeBehindUptoCard : Claim7 := { stood := { row := codeBehindUptoRow, standIns := [], harness := (true, "ea4e1b17090ce1559cf528865809dafc183d2bf45512cf0182b150334dd336d1"), looks := false }, kinds := [], alts := [], laidByText := true, laidKinds := [.data, .listed, .data, .pinned], laidTests := true, laidLooks := .later }
def CodeBehindUptoCardSaid : Prop := Claim7.holds Tryd.pinned (.plain (OpenSpec.upto codeBehindSpec)) codeBehindUptoCard

/-- THE SECOND FORM's CARD OF 'creellaw20.CodeVerifies'. -/
def codeVerifiesUptoCard : Claim7 := { stood := { row := codeVerifiesUptoRow, standIns := [], harness := (true, "ea4e1b17090ce1559cf528865809dafc183d2bf45512cf0182b150334dd336d1"), looks := false }, kinds := [], alts := [], laidByText := true, laidKinds := [.data, .listed, .data, .pinned], laidTests := true, laidLooks := .later }
def CodeVerifiesUptoCardSaid : Prop := Claim7.holds Tryd.pinned (.plain (OpenSpec.upto codeVerifiesSpec)) codeVerifiesUptoCard

/-- THE SECOND FORM's CARD OF 'creellaw20.CodeSound'. -/
def codeSoundUptoCard : Claim7 := { stood := { row := codeSoundUptoRow, standIns := [], harness := (true, "ea4e1b17090ce1559cf528865809dafc183d2bf45512cf0182b150334dd336d1"), looks := false }, kinds := [], alts := [], laidByText := true, laidKinds := [.data, .listed, .data, .pinned], laidTests := true, laidLooks := .later }
def CodeSoundUptoCardSaid : Prop := Claim7.holds Tryd.pinned (.plain (OpenSpec.upto codeSoundSpec)) codeSoundUptoCard

/-- THE SECOND FORM's CARD OF 'creellaw20.CodeBytes'. -/
def codeBytesUptoCard : Claim7 := { stood := { row := codeBytesUptoRow, standIns := [], harness := (true, "ea4e1b17090ce1559cf528865809dafc183d2bf45512cf0182b150334dd336d1"), looks := false }, kinds := [], alts := [], laidByText := true, laidKinds := [.data, .listed, .data, .pinned], laidTests := true, laidLooks := .later }
def CodeBytesUptoCardSaid : Prop := Claim7.holds Tryd.pinned (.plain (OpenSpec.upto codeBytesSpec)) codeBytesUptoCard
end Rows
end Go.Proofs.YtliealcdiogilaaDoor
