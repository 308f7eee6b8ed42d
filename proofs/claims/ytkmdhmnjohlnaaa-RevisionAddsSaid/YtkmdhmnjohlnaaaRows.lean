/-
  No cell of these rows narrows 'for every input' (looked for: loops, veiled, ifaces, maps, wideKeys, modest, calm, conditions, laid).
  DERIVED. THE GIVEN ROWS OF THIS SEAT. 4 by the template 'for every input the law returns true; each argument reads behind the call as it read before'; 0 by the template 'total and deterministic' (their statements: YtkmdhmnjohlnaaaTotals.lean).
  GIVEN WITH THE SEED: the statements are not yours to turn. If you find one false, say at which input.
  Laid BY PROGRAM, IN A SANDBOX (cutbox-rows.mjs): the forced cells as the released guide's own fill.sh prints them over the translation 857b9d44e453e4aa… (all of the seat's roots in one cut). By AI agents, Wed Nov 11 2026. No macro, syntax, notation, axiom, sorry.
-/
import Derived.Test.YtkmdhmnjohlnaaaChecked
import GoSem.Claim
import GoSem.ClaimJoined
import GoSem.ClaimMapViews
import Derived.JoinedTies
import Derived.KernelRfl
namespace Go.Proofs.Ytkmdhmnjohlnaaa
/- THE CELL 'sum', in the pinned program and in every row, IS THE sha256 OF THE DUMP (.gsa) THAT YtkmdhmnjohlnaaaProg.lean LOADS. Nothing in Lean hashes anything: it is a label: what it is worth is what the hold of that sum in a sandbox is worth. -/
noncomputable def Try.pinned : Pinned := { name := "ytkmdhmnjohlnaaa", sum := "857b9d44e453e4aa760996d4c8391389bd4532c9f4a933df066b299ad8c7d9dd", checked := Try.checked }
namespace Rows
def none {H : Type} : Left H := { results := [], args := [] }

/-- 'creellaw23.RevisionAdds': WHATEVER THE INPUT: true; the input reads as it did. -/
def revisionAddsSpec : ChangeSpec := { name := "revisionAdds", fn := fun _ => fun
  | [d1, d2] => { results := [.lit (.bool true)], args := [d1, d2] }
  | _ => none }
def revisionAddsRow : OpenClaim := { program := "ytkmdhmnjohlnaaa", sum := "857b9d44e453e4aa760996d4c8391389bd4532c9f4a933df066b299ad8c7d9dd", func := "creel/creellaw23.RevisionAdds", spec := "revisionAdds", unfollowed := true, recurses := true, apart := false }
def RevisionAddsSaid : Prop := revisionAddsRow.holds Try.pinned (OpenSpec.ofChange revisionAddsSpec)

/-- ITS FALSE NEIGHBOUR: 'it returns false'. Refute it at one input. -/
def revisionAddsWrong : ChangeSpec := { name := "revisionAdds", fn := fun _ => fun
  | [d1, d2] => { results := [.lit (.bool false)], args := [d1, d2] }
  | _ => none }
def RevisionAddsWrongFalsely : Prop := revisionAddsRow.holds Try.pinned (OpenSpec.ofChange revisionAddsWrong)

/-- 'creellaw23.RevisionKeeps': WHATEVER THE INPUT: true; the input reads as it did. -/
def revisionKeepsSpec : ChangeSpec := { name := "revisionKeeps", fn := fun _ => fun
  | [d] => { results := [.lit (.bool true)], args := [d] }
  | _ => none }
def revisionKeepsRow : OpenClaim := { program := "ytkmdhmnjohlnaaa", sum := "857b9d44e453e4aa760996d4c8391389bd4532c9f4a933df066b299ad8c7d9dd", func := "creel/creellaw23.RevisionKeeps", spec := "revisionKeeps", unfollowed := true, recurses := true, apart := false }
def RevisionKeepsSaid : Prop := revisionKeepsRow.holds Try.pinned (OpenSpec.ofChange revisionKeepsSpec)

/-- ITS FALSE NEIGHBOUR: 'it returns false'. Refute it at one input. -/
def revisionKeepsWrong : ChangeSpec := { name := "revisionKeeps", fn := fun _ => fun
  | [d] => { results := [.lit (.bool false)], args := [d] }
  | _ => none }
def RevisionKeepsWrongFalsely : Prop := revisionKeepsRow.holds Try.pinned (OpenSpec.ofChange revisionKeepsWrong)

/-- 'creellaw23.RevisionDrops': WHATEVER THE INPUT: true; the input reads as it did. -/
def revisionDropsSpec : ChangeSpec := { name := "revisionDrops", fn := fun _ => fun
  | [d1, d2] => { results := [.lit (.bool true)], args := [d1, d2] }
  | _ => none }
def revisionDropsRow : OpenClaim := { program := "ytkmdhmnjohlnaaa", sum := "857b9d44e453e4aa760996d4c8391389bd4532c9f4a933df066b299ad8c7d9dd", func := "creel/creellaw23.RevisionDrops", spec := "revisionDrops", unfollowed := true, recurses := true, apart := false }
def RevisionDropsSaid : Prop := revisionDropsRow.holds Try.pinned (OpenSpec.ofChange revisionDropsSpec)

/-- ITS FALSE NEIGHBOUR: 'it returns false'. Refute it at one input. -/
def revisionDropsWrong : ChangeSpec := { name := "revisionDrops", fn := fun _ => fun
  | [d1, d2] => { results := [.lit (.bool false)], args := [d1, d2] }
  | _ => none }
def RevisionDropsWrongFalsely : Prop := revisionDropsRow.holds Try.pinned (OpenSpec.ofChange revisionDropsWrong)

/-- 'creellaw23.RevisionBack': WHATEVER THE INPUT: true; the input reads as it did. -/
def revisionBackSpec : ChangeSpec := { name := "revisionBack", fn := fun _ => fun
  | [d1, d2, d3] => { results := [.lit (.bool true)], args := [d1, d2, d3] }
  | _ => none }
def revisionBackRow : OpenClaim := { program := "ytkmdhmnjohlnaaa", sum := "857b9d44e453e4aa760996d4c8391389bd4532c9f4a933df066b299ad8c7d9dd", func := "creel/creellaw23.RevisionBack", spec := "revisionBack", unfollowed := true, recurses := true, apart := false }
def RevisionBackSaid : Prop := revisionBackRow.holds Try.pinned (OpenSpec.ofChange revisionBackSpec)

/-- ITS FALSE NEIGHBOUR: 'it returns false'. Refute it at one input. -/
def revisionBackWrong : ChangeSpec := { name := "revisionBack", fn := fun _ => fun
  | [d1, d2, d3] => { results := [.lit (.bool false)], args := [d1, d2, d3] }
  | _ => none }
def RevisionBackWrongFalsely : Prop := revisionBackRow.holds Try.pinned (OpenSpec.ofChange revisionBackWrong)

/- THE SECOND FORM. 'bulk': how many values and letters a reading holds, each counted each time it is reached (what is shared counts as often as it is met; a slice's spare places count too). A statement '..UptoSaid' is the law's where the arguments, and the package variables that the reading takes, are together of bulk at most 1048576: NARROWER than '..Said'. Prove '..Said' where nothing that the law and all that it calls make is longer than what came in: it says more and counts as full. Else prove '..UptoSaid'. A law counts once. -/
mutual
def uptoBulk {H : Type} : DataW H → Nat
  | .lit (.string bytes) => bytes.length + 1
  | .lit _ => 1
  | .nil => 1
  | .ptr d => uptoBulk d + 1
  | .slice elems spare => uptoBulkAll elems + uptoBulkAll spare + 1
  | .agg parts => uptoBulkAll parts + 1
  | .iface _ d => uptoBulk d + 1
  | .map entries => uptoBulkEntries entries + 1
  | .held _ => 1
def uptoBulkAll {H : Type} : List (DataW H) → Nat
  | [] => 0
  | d :: r => uptoBulk d + uptoBulkAll r
def uptoBulkEntries {H : Type} : List (Lit × DataW H) → Nat
  | [] => 0
  | x :: r => uptoBulkEntry x + uptoBulkEntries r
def uptoBulkEntry {H : Type} : Lit × DataW H → Nat
  | (.string bytes, d) => bytes.length + uptoBulk d + 1
  | (_, d) => uptoBulk d + 1
 end
def uptoSmall : (H : Type) → List (DataW H) → Bool := fun _ ds => decide (uptoBulkAll ds ≤ 1048576)
def OpenSpec.upto (s : _root_.Go.ChangeSpec) : _root_.Go.OpenSpec := { _root_.Go.OpenSpec.ofChange s with cond := some uptoSmall }

/-- 'creellaw23.RevisionAdds', WHERE WHAT IT READS IS OF BULK AT MOST 1048576: true; the input reads as it did. -/
def revisionAddsUptoRow : OpenClaim := { program := "ytkmdhmnjohlnaaa", sum := "857b9d44e453e4aa760996d4c8391389bd4532c9f4a933df066b299ad8c7d9dd", func := "creel/creellaw23.RevisionAdds", spec := "revisionAdds", unfollowed := true, recurses := true, apart := false, narrowed := true }
def RevisionAddsUptoSaid : Prop := revisionAddsUptoRow.holds Try.pinned (OpenSpec.upto revisionAddsSpec)

/-- 'creellaw23.RevisionKeeps', WHERE WHAT IT READS IS OF BULK AT MOST 1048576: true; the input reads as it did. -/
def revisionKeepsUptoRow : OpenClaim := { program := "ytkmdhmnjohlnaaa", sum := "857b9d44e453e4aa760996d4c8391389bd4532c9f4a933df066b299ad8c7d9dd", func := "creel/creellaw23.RevisionKeeps", spec := "revisionKeeps", unfollowed := true, recurses := true, apart := false, narrowed := true }
def RevisionKeepsUptoSaid : Prop := revisionKeepsUptoRow.holds Try.pinned (OpenSpec.upto revisionKeepsSpec)

/-- 'creellaw23.RevisionDrops', WHERE WHAT IT READS IS OF BULK AT MOST 1048576: true; the input reads as it did. -/
def revisionDropsUptoRow : OpenClaim := { program := "ytkmdhmnjohlnaaa", sum := "857b9d44e453e4aa760996d4c8391389bd4532c9f4a933df066b299ad8c7d9dd", func := "creel/creellaw23.RevisionDrops", spec := "revisionDrops", unfollowed := true, recurses := true, apart := false, narrowed := true }
def RevisionDropsUptoSaid : Prop := revisionDropsUptoRow.holds Try.pinned (OpenSpec.upto revisionDropsSpec)

/-- 'creellaw23.RevisionBack', WHERE WHAT IT READS IS OF BULK AT MOST 1048576: true; the input reads as it did. -/
def revisionBackUptoRow : OpenClaim := { program := "ytkmdhmnjohlnaaa", sum := "857b9d44e453e4aa760996d4c8391389bd4532c9f4a933df066b299ad8c7d9dd", func := "creel/creellaw23.RevisionBack", spec := "revisionBack", unfollowed := true, recurses := true, apart := false, narrowed := true }
def RevisionBackUptoSaid : Prop := revisionBackUptoRow.holds Try.pinned (OpenSpec.upto revisionBackSpec)

end Rows
end Go.Proofs.Ytkmdhmnjohlnaaa
