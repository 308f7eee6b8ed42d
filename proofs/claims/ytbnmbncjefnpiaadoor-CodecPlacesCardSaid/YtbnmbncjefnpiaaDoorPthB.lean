/-
  Paths as lists of names; the contracts of Right, slices.Equal, Same, slices.Clone.
-/
import Derived.Test.YtbnmbncjefnpiaaDoorPthA
import Derived.BigQuiet
import Derived.Lib.SliceRun
namespace Go.Proofs.YtbnmbncjefnpiaaDoor
open Go.RowKit

def strV (l : List ByteArray) : List Value := l.map Value.string
theorem strV_len (l : List ByteArray) : (strV l).length = l.length := by simp [strV]
theorem strV_at {l : List ByteArray} {i : Nat} {s : ByteArray} (h : l[i]? = some s) : (strV l)[i]? = some (.string s) := by simp [strV, h]
theorem strV_app (a b : List ByteArray) : strV (a ++ b) = strV a ++ strV b := by simp [strV]
theorem strV_one (l : List ByteArray) : ∀ v ∈ strV l, v.oneCell' = true := by
  intro v hv
  obtain ⟨s, _, rfl⟩ := List.mem_map.1 hv
  rfl
theorem strs_n {w : World} {B n : Nat} {A : Option Addr} {p : List ByteArray} (h : Reads w B 1 A n (strV p)) : p.length = n := by
  have := h.1
  rw [strV_len] at this
  omega
theorem strs_at {w : World} {B n : Nat} {A : Option Addr} {p : List ByteArray} (h : Reads w B 1 A n (strV p)) {i : Nat} {s : ByteArray} (hi : p[i]? = some s) :
    ∃ ad, A = some ad ∧ ad.block < B ∧ w.cell? (ad.add i) = some (.string s) := by
  have hl := strs_n h
  have hil : i < p.length := (List.getElem?_eq_some_iff.1 hi).1
  obtain ⟨ad, e, hb, hc⟩ := h.2 (by omega)
  exact ⟨ad, e, hb, hc i _ (strV_at hi)⟩
theorem take_snoc' {α : Type} {l : List α} {i : Nat} {r : α} (h : l[i]? = some r) : l.take (i + 1) = l.take i ++ [r] := by rw [List.take_add_one, h]; rfl
theorem drop_cons1 {α : Type} {l : List α} {i : Nat} {r : α} (h : l[i]? = some r) : l.drop i = r :: l.drop (i + 1) := by
  have hi := (List.getElem?_eq_some_iff.1 h).1
  rw [List.drop_eq_getElem_cons hi]
  rw [List.getElem?_eq_getElem hi] at h
  injection h with h
  rw [h]

def rightB (p : List ByteArray) : Bool := decide (p.length ≤ 8) && p.all nameB
def badI : List ByteArray → Nat
  | [] => 0
  | s :: l => if nameB s = false then 0 else badI l + 1
def badF (p : List ByteArray) : Int := if badI p < p.length then badI p else -1
theorem badI_le : ∀ p : List ByteArray, badI p ≤ p.length
  | [] => Nat.le_refl _
  | s :: l => by unfold badI; split <;> simp [badI_le l]
theorem bad_all : ∀ p : List ByteArray, (badI p < p.length) ↔ p.all nameB = false
  | [] => by simp [badI]
  | s :: l => by
    have ih := bad_all l
    unfold badI
    cases hs : nameB s
    · simp [hs]
    · simp only [Bool.true_eq_false, if_false, List.all_cons, hs, Bool.true_and, List.length_cons]
      rw [← ih]; omega





theorem toList_inj {s t : ByteArray} (h : s.toList = t.toList) : s = t := by
  apply ByteArray.ext
  apply Array.toList_inj.1
  simpa [ByteArray.toList_eq] using h

end Go.Proofs.YtbnmbncjefnpiaaDoor
