/-
  The contracts of path.sign and path.Name.
-/
import Derived.Test.YtbnmbncjefnpiaaDoorRows
import Derived.WalkLawsBesides
import Derived.Test.YtbnmbncjefnpiaaDoorWordsS
import Derived.WalkSpells
namespace Go.Proofs.YtbnmbncjefnpiaaDoor
open Go.RowKit

def signB (c : Int) : Bool := decide (97 ≤ c ∧ c ≤ 122) || decide (48 ≤ c ∧ c ≤ 57) || c == 46 || c == 45 || c == 95

def nameB (s : ByteArray) : Bool := decide (1 ≤ s.size) && decide (s.size ≤ 24) && !(s.toList == [46]) && !(s.toList == [46, 46]) && s.data.toList.all fun c => signB (c.toNat : Nat)

theorem name_pre {s : ByteArray} (h1 : 1 ≤ s.size) (h2 : s.size ≤ 24) (h3 : (s.toList == [46]) = false) (h4 : (s.toList == [46, 46]) = false) : nameB s = s.data.toList.all fun c => signB (c.toNat : Nat) := by
  unfold nameB; rw [h3, h4]; simp [h1, h2]
theorem at_list {s : ByteArray} {i : Nat} (h : i < s.size) : s.data.toList[i]? = some s[i] := by
  have : i < s.data.toList.length := by simpa using h
  rw [List.getElem?_eq_getElem this]; rfl

theorem nm1 {s : ByteArray} (h : (s.size : Int) < 1) : nameB s = false := by unfold nameB; rw [show decide (1 ≤ s.size) = false from decide_eq_false (by omega)]; rfl
theorem nm2 {s : ByteArray} (h : 24 < (s.size : Int)) : nameB s = false := by unfold nameB; rw [show decide (s.size ≤ 24) = false from decide_eq_false (by omega)]; simp
theorem nm3 {s : ByteArray} (h : s.toList = [46]) : nameB s = false := by unfold nameB; rw [h]; simp
theorem nm4 {s : ByteArray} (h : s.toList = [46, 46]) : nameB s = false := by unfold nameB; rw [h]; simp
theorem nm5 {s : ByteArray} {i : Nat} (hi : i < s.size) (hc : signB ((s[i].toNat : Nat) : Int) = false) : nameB s = false := by
  unfold nameB
  rw [show (s.data.toList.all fun c => signB (c.toNat : Nat)) = false from List.all_eq_false.2 ⟨s[i], List.mem_of_getElem? (at_list hi), by rw [hc]; simp⟩]
  simp


end Go.Proofs.YtbnmbncjefnpiaaDoor
