/-
  No cell of these rows narrows 'for every input' (looked for: loops, veiled, ifaces, maps, wideKeys, modest, calm, conditions, laid).
  DERIVED. THE GIVEN ROWS OF THIS SEAT. 4 by the template 'for every input the law returns true; each argument reads behind the call as it read before'; 0 by the template 'total and deterministic' (their statements: YtheffimpadccaaaTotals.lean).
  GIVEN WITH THE SEED: the statements are not yours to turn. If you find one false, say at which input.
  Laid BY PROGRAM, IN A SANDBOX (cutbox-rows.mjs): the forced cells as the released guide's own fill.sh prints them over the translation d8877162932f10ea… (all of the seat's roots in one cut). By AI agents, Wed Nov 11 2026. No macro, syntax, notation, axiom, sorry.
-/
import Derived.Test.YtheffimpadccaaaChecked
import GoSem.Claim
import GoSem.ClaimJoined
import GoSem.ClaimMapViews
import Derived.JoinedTies
import Derived.KernelRfl
namespace Go.Proofs.Ytheffimpadccaaa
/- THE CELL 'sum', in the pinned program and in every row, IS THE sha256 OF THE DUMP (.gsa) THAT YtheffimpadccaaaProg.lean LOADS. Nothing in Lean hashes anything: it is a label: what it is worth is what the hold of that sum in a sandbox is worth. -/
noncomputable def Try.pinned : Pinned := { name := "ytheffimpadccaaa", sum := "d8877162932f10eabf27749cbc80b770be0b16e59aae43e51a770c5d2dacf06f", checked := Try.checked }
namespace Rows
def none {H : Type} : Left H := { results := [], args := [] }

/-- 'creellaw06.ModeGrows': WHATEVER THE INPUT: true; the input reads as it did. -/
def modeGrowsSpec : ChangeSpec := { name := "modeGrows", fn := fun _ => fun
  | [d1, d2, d3, d4, d5, d6] => { results := [.lit (.bool true)], args := [d1, d2, d3, d4, d5, d6] }
  | _ => none }
def modeGrowsRow : OpenClaim := { program := "ytheffimpadccaaa", sum := "d8877162932f10eabf27749cbc80b770be0b16e59aae43e51a770c5d2dacf06f", func := "creel/creellaw06.ModeGrows", spec := "modeGrows", apart := false }
def ModeGrowsSaid : Prop := modeGrowsRow.holds Try.pinned (OpenSpec.ofChange modeGrowsSpec)

/-- ITS FALSE NEIGHBOUR: 'it returns false'. Refute it at one input. -/
def modeGrowsWrong : ChangeSpec := { name := "modeGrows", fn := fun _ => fun
  | [d1, d2, d3, d4, d5, d6] => { results := [.lit (.bool false)], args := [d1, d2, d3, d4, d5, d6] }
  | _ => none }
def ModeGrowsWrongFalsely : Prop := modeGrowsRow.holds Try.pinned (OpenSpec.ofChange modeGrowsWrong)

/-- 'creellaw06.ModeNumbers': WHATEVER THE INPUT: true; the input reads as it did. -/
def modeNumbersSpec : ChangeSpec := { name := "modeNumbers", fn := fun _ => fun
  | [d1, d2] => { results := [.lit (.bool true)], args := [d1, d2] }
  | _ => none }
def modeNumbersRow : OpenClaim := { program := "ytheffimpadccaaa", sum := "d8877162932f10eabf27749cbc80b770be0b16e59aae43e51a770c5d2dacf06f", func := "creel/creellaw06.ModeNumbers", spec := "modeNumbers", apart := false }
def ModeNumbersSaid : Prop := modeNumbersRow.holds Try.pinned (OpenSpec.ofChange modeNumbersSpec)

/-- ITS FALSE NEIGHBOUR: 'it returns false'. Refute it at one input. -/
def modeNumbersWrong : ChangeSpec := { name := "modeNumbers", fn := fun _ => fun
  | [d1, d2] => { results := [.lit (.bool false)], args := [d1, d2] }
  | _ => none }
def ModeNumbersWrongFalsely : Prop := modeNumbersRow.holds Try.pinned (OpenSpec.ofChange modeNumbersWrong)

/-- 'creellaw06.ModeCan': WHATEVER THE INPUT: true; the input reads as it did. -/
def modeCanSpec : ChangeSpec := { name := "modeCan", fn := fun _ => fun
  | [d1, d2, d3, d4] => { results := [.lit (.bool true)], args := [d1, d2, d3, d4] }
  | _ => none }
def modeCanRow : OpenClaim := { program := "ytheffimpadccaaa", sum := "d8877162932f10eabf27749cbc80b770be0b16e59aae43e51a770c5d2dacf06f", func := "creel/creellaw06.ModeCan", spec := "modeCan", apart := false }
def ModeCanSaid : Prop := modeCanRow.holds Try.pinned (OpenSpec.ofChange modeCanSpec)

/-- ITS FALSE NEIGHBOUR: 'it returns false'. Refute it at one input. -/
def modeCanWrong : ChangeSpec := { name := "modeCan", fn := fun _ => fun
  | [d1, d2, d3, d4] => { results := [.lit (.bool false)], args := [d1, d2, d3, d4] }
  | _ => none }
def ModeCanWrongFalsely : Prop := modeCanRow.holds Try.pinned (OpenSpec.ofChange modeCanWrong)

/-- 'creellaw06.ModeCuts': WHATEVER THE INPUT: true; the input reads as it did. -/
def modeCutsSpec : ChangeSpec := { name := "modeCuts", fn := fun _ => fun
  | [d1, d2] => { results := [.lit (.bool true)], args := [d1, d2] }
  | _ => none }
def modeCutsRow : OpenClaim := { program := "ytheffimpadccaaa", sum := "d8877162932f10eabf27749cbc80b770be0b16e59aae43e51a770c5d2dacf06f", func := "creel/creellaw06.ModeCuts", spec := "modeCuts", apart := false }
def ModeCutsSaid : Prop := modeCutsRow.holds Try.pinned (OpenSpec.ofChange modeCutsSpec)

/-- ITS FALSE NEIGHBOUR: 'it returns false'. Refute it at one input. -/
def modeCutsWrong : ChangeSpec := { name := "modeCuts", fn := fun _ => fun
  | [d1, d2] => { results := [.lit (.bool false)], args := [d1, d2] }
  | _ => none }
def ModeCutsWrongFalsely : Prop := modeCutsRow.holds Try.pinned (OpenSpec.ofChange modeCutsWrong)

/- THE SECOND FORM. 'bulk': how many values and letters a reading holds, each counted each time it is reached (what is shared counts as often as it is met; a slice's spare places count too). A statement '..UptoSaid' is the law's where the arguments, and the package variables that the reading takes, are together of bulk at most 1048576: NARROWER than '..Said'. Prove '..Said' where nothing that the law and all that it calls make is longer than what came in: it says more and counts as full. Else prove '..UptoSaid'. A law counts once. -/
mutual
def uptoBulk {H : Type} : DataW H → Nat
  | .lit (.string bytes) => bytes.length + 1
  | .lit _ => 1
  | .nil => 1
  | .ptr d => uptoBulk d + 1
  | .slice elems spare => uptoBulkAll elems + uptoBulkAll spare + 1
  | .agg parts => uptoBulkAll parts + 1
  | .iface _ d => uptoBulk d + 1
  | .map entries => uptoBulkEntries entries + 1
  | .held _ => 1
def uptoBulkAll {H : Type} : List (DataW H) → Nat
  | [] => 0
  | d :: r => uptoBulk d + uptoBulkAll r
def uptoBulkEntries {H : Type} : List (Lit × DataW H) → Nat
  | [] => 0
  | x :: r => uptoBulkEntry x + uptoBulkEntries r
def uptoBulkEntry {H : Type} : Lit × DataW H → Nat
  | (.string bytes, d) => bytes.length + uptoBulk d + 1
  | (_, d) => uptoBulk d + 1
 end
def uptoSmall : (H : Type) → List (DataW H) → Bool := fun _ ds => decide (uptoBulkAll ds ≤ 1048576)
def OpenSpec.upto (s : _root_.Go.ChangeSpec) : _root_.Go.OpenSpec := { _root_.Go.OpenSpec.ofChange s with cond := some uptoSmall }

/-- 'creellaw06.ModeGrows', WHERE WHAT IT READS IS OF BULK AT MOST 1048576: true; the input reads as it did. -/
def modeGrowsUptoRow : OpenClaim := { program := "ytheffimpadccaaa", sum := "d8877162932f10eabf27749cbc80b770be0b16e59aae43e51a770c5d2dacf06f", func := "creel/creellaw06.ModeGrows", spec := "modeGrows", apart := false, narrowed := true }
def ModeGrowsUptoSaid : Prop := modeGrowsUptoRow.holds Try.pinned (OpenSpec.upto modeGrowsSpec)

/-- 'creellaw06.ModeNumbers', WHERE WHAT IT READS IS OF BULK AT MOST 1048576: true; the input reads as it did. -/
def modeNumbersUptoRow : OpenClaim := { program := "ytheffimpadccaaa", sum := "d8877162932f10eabf27749cbc80b770be0b16e59aae43e51a770c5d2dacf06f", func := "creel/creellaw06.ModeNumbers", spec := "modeNumbers", apart := false, narrowed := true }
def ModeNumbersUptoSaid : Prop := modeNumbersUptoRow.holds Try.pinned (OpenSpec.upto modeNumbersSpec)

/-- 'creellaw06.ModeCan', WHERE WHAT IT READS IS OF BULK AT MOST 1048576: true; the input reads as it did. -/
def modeCanUptoRow : OpenClaim := { program := "ytheffimpadccaaa", sum := "d8877162932f10eabf27749cbc80b770be0b16e59aae43e51a770c5d2dacf06f", func := "creel/creellaw06.ModeCan", spec := "modeCan", apart := false, narrowed := true }
def ModeCanUptoSaid : Prop := modeCanUptoRow.holds Try.pinned (OpenSpec.upto modeCanSpec)

/-- 'creellaw06.ModeCuts', WHERE WHAT IT READS IS OF BULK AT MOST 1048576: true; the input reads as it did. -/
def modeCutsUptoRow : OpenClaim := { program := "ytheffimpadccaaa", sum := "d8877162932f10eabf27749cbc80b770be0b16e59aae43e51a770c5d2dacf06f", func := "creel/creellaw06.ModeCuts", spec := "modeCuts", apart := false, narrowed := true }
def ModeCutsUptoSaid : Prop := modeCutsUptoRow.holds Try.pinned (OpenSpec.upto modeCutsSpec)

end Rows
end Go.Proofs.Ytheffimpadccaaa
