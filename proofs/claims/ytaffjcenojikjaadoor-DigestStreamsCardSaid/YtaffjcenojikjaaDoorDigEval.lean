/-
  The digests of the chapter's examples, reckoned by the kernel.
-/
import Derived.Test.YtaffjcenojikjaaDoorDigSum
namespace Go.Proofs.YtaffjcenojikjaaDoor
open Go.RowKit

def signF (c : Nat) : Nat := if c < 10 then 48 + c else 87 + c
def hexF (D : List Nat) : List Nat := D.flatMap fun x => [signF (x / 16), signF (x % 16)]
set_option maxRecDepth 100000 in
theorem sha0 : shaF [] = [227, 176, 196, 66, 152, 252, 28, 20, 154, 251, 244, 200, 153, 111, 185, 36, 39, 174, 65, 228, 100, 155, 147, 76, 164, 149, 153, 27, 120, 82, 184, 85] := by decide +kernel
set_option maxRecDepth 100000 in
theorem shaabc : shaF [97, 98, 99] = [186, 120, 22, 191, 143, 1, 207, 234, 65, 65, 64, 222, 93, 174, 34, 35, 176, 3, 97, 163, 150, 23, 122, 156, 180, 16, 255, 97, 242, 0, 21, 173] := by decide +kernel

end Go.Proofs.YtaffjcenojikjaaDoor
