/-
  Paths as lists of names; the contracts of Right, slices.Equal, Same, slices.Clone.
-/
import Derived.Test.YticcphppnmoogaaDoorPthA
import Derived.BigQuiet
import Derived.Lib.SliceRun
namespace Go.Proofs.YticcphppnmoogaaDoor
open Go.RowKit

def strV (l : List ByteArray) : List Value := l.map Value.string
theorem strV_len (l : List ByteArray) : (strV l).length = l.length := by simp [strV]
theorem strV_at {l : List ByteArray} {i : Nat} {s : ByteArray} (h : l[i]? = some s) : (strV l)[i]? = some (.string s) := by simp [strV, h]
theorem strV_app (a b : List ByteArray) : strV (a ++ b) = strV a ++ strV b := by simp [strV]
theorem strV_one (l : List ByteArray) : ∀ v ∈ strV l, v.oneCell' = true := by
  intro v hv
  obtain ⟨s, _, rfl⟩ := List.mem_map.1 hv
  rfl
theorem strs_n {w : World} {B n : Nat} {A : Option Addr} {p : List ByteArray} (h : Reads w B 1 A n (strV p)) : p.length = n := by
  have := h.1
  rw [strV_len] at this
  omega
theorem strs_at {w : World} {B n : Nat} {A : Option Addr} {p : List ByteArray} (h : Reads w B 1 A n (strV p)) {i : Nat} {s : ByteArray} (hi : p[i]? = some s) :
    ∃ ad, A = some ad ∧ ad.block < B ∧ w.cell? (ad.add i) = some (.string s) := by
  have hl := strs_n h
  have hil : i < p.length := (List.getElem?_eq_some_iff.1 hi).1
  obtain ⟨ad, e, hb, hc⟩ := h.2 (by omega)
  exact ⟨ad, e, hb, hc i _ (strV_at hi)⟩
theorem take_snoc' {α : Type} {l : List α} {i : Nat} {r : α} (h : l[i]? = some r) : l.take (i + 1) = l.take i ++ [r] := by rw [List.take_add_one, h]; rfl
theorem drop_cons1 {α : Type} {l : List α} {i : Nat} {r : α} (h : l[i]? = some r) : l.drop i = r :: l.drop (i + 1) := by
  have hi := (List.getElem?_eq_some_iff.1 h).1
  rw [List.drop_eq_getElem_cons hi]
  rw [List.getElem?_eq_getElem hi] at h
  injection h with h
  rw [h]

def rightB (p : List ByteArray) : Bool := decide (p.length ≤ 8) && p.all nameB
def badI : List ByteArray → Nat
  | [] => 0
  | s :: l => if nameB s = false then 0 else badI l + 1
def badF (p : List ByteArray) : Int := if badI p < p.length then badI p else -1
theorem badI_le : ∀ p : List ByteArray, badI p ≤ p.length
  | [] => Nat.le_refl _
  | s :: l => by unfold badI; split <;> simp [badI_le l]
theorem bad_all : ∀ p : List ByteArray, (badI p < p.length) ↔ p.all nameB = false
  | [] => by simp [badI]
  | s :: l => by
    have ih := bad_all l
    unfold badI
    cases hs : nameB s
    · simp [hs]
    · simp only [Bool.true_eq_false, if_false, List.all_cons, hs, Bool.true_and, List.length_cons]
      rw [← ih]; omega

theorem badc_any (s : ByteArray) (w : World) (hs : s.size ≤ 9223372036854775807) :
    Calls Tryd.prog 73 #[.string s] w fun e w' => e = .returned (.bool (!nameB s)) ∧ w = w' := by
  go_enter Tryd.func73, Tryd.ntmps73
  go_wp2_with fail
  refine (name_any s _ hs).mono ?_
  rintro e w' ⟨rfl, rfl⟩
  cases eN : nameB s
  all_goals
    go_wp2_with fail
    go_ret
    exact ⟨by first | rfl | (rw [eN]; rfl), rfl⟩

set_option maxHeartbeats 1000000 in
theorem badx_any (A : Option Addr) (n c : Nat) (p : List ByteArray) (w : World) (hn : n ≤ 1000000) (hs : ∀ s ∈ p, s.size ≤ 9223372036854775807) (hR : Reads w w.heap.size 1 A n (strV p)) :
    Calls Tryd.prog 83 #[.slice A n c, .func (.func 73) #[] #[]] w fun e w' => e = .returned (.int .i64 (badF p)) ∧ w = w' := by
  have HL := Sl.mk (strs_n hR)
  have HR := Sl.mk hR
  have HSZ := Sl.mk hs
  clear hR hs
  go_enter Tryd.func83, Tryd.ntmps83
  go_wp2_with fail
  go_loopw [5, 8] (fun _ s8 wr => ∃ i : Nat, i ≤ n ∧ s8 = .int .i64 i ∧ Hid (badI p = i + badI (p.drop i)) ∧ w = wr) (fun _ s8 _ => n - (intOf s8).toNat)
  case atStart => exact ⟨0, Nat.zero_le _, rfl, by simp [Hid], rfl⟩
  case round =>
    obtain ⟨i, hi, rfl, HI, rfl⟩ := hrel
    by_cases hil : i < n
    · obtain ⟨s, hs⟩ : ∃ s, p[i]? = some s := ⟨_, List.getElem?_eq_getElem (by rw [HL.out]; exact hil)⟩
      obtain ⟨ad, rfl, hb, hc⟩ := strs_at HR.out hs
      have HD := Sl.mk (drop_cons1 hs)
      have hsz := HSZ.out s (List.mem_of_getElem? hs)
      clear hs
      go_wp2_with fail
      refine (badc_any s _ hsz).mono ?_
      rintro e w2 ⟨rfl, rfl⟩
      cases eR : nameB s
      · have HN := Sl.mk (show badF p = i by
          have : badI p = i := by rw [HI, HD.out, badI, if_pos eR]; omega
          unfold badF; rw [this, if_pos (by rw [HL.out]; exact hil)])
        go_wp2_with fail
        go_ret
        exact ⟨by rw [HN.out]; rfl, rfl⟩
      · have HN := Sl.mk (show badI p = (i + 1) + badI (p.drop (i + 1)) by rw [HI, HD.out, badI, if_neg (by rw [eR]; simp)]; omega)
        go_wp2_with fail
        go_roundw
        case rel => exact ⟨i + 1, by omega, by go_num, HN.out, trivial⟩
        case measure => simp [intOf]; omega
    · obtain rfl : i = n := by omega
      have HN := Sl.mk (show badF p = -1 by
        have h : p.drop i = [] := List.drop_of_length_le (by rw [HL.out]; omega)
        have h0 : badI p = i + badI (p.drop i) := HI
        rw [h] at h0
        have h1 : badI p = i := by simpa [badI] using h0
        unfold badF; rw [if_neg (by rw [HL.out, h1]; omega)])
      go_wp2_with fail
      go_ret
      exact ⟨by rw [HN.out]; rfl, rfl⟩

theorem badn_any (A : Option Addr) (n c : Nat) (p : List ByteArray) (w : World) (hn : n ≤ 1000000) (hs : ∀ s ∈ p, s.size ≤ 9223372036854775807) (hR : Reads w w.heap.size 1 A n (strV p)) :
    Calls Tryd.prog 72 #[.slice A n c, .func (.func 73) #[] #[]] w fun e w' => e = .returned (.bool (!p.all nameB)) ∧ w = w' := by
  have hb := bad_all p
  have H0 := Sl.mk (badx_any A n c p w hn hs hR)
  cases hA : p.all nameB
  · have hF : badF p = ((badI p : Nat) : Int) := by unfold badF; rw [if_pos (hb.2 hA)]
    obtain ⟨k, hk⟩ : ∃ k, badI p = k := ⟨_, rfl⟩
    rw [hk] at hF
    have HF := Sl.mk hF
    clear hF hk hb hA
    go_enter Tryd.func72, Tryd.ntmps72
    go_wp2_with fail
    refine H0.out.mono ?_
    rintro e w' ⟨rfl, rfl⟩
    rw [HF.out]
    go_wp2_with fail
    go_ret
    exact ⟨by simp, rfl⟩
  · have hF : badF p = -1 := by unfold badF; rw [if_neg (fun h => by rw [hb.1 h] at hA; cases hA)]
    have HF := Sl.mk hF
    clear hF hb hA
    go_enter Tryd.func72, Tryd.ntmps72
    go_wp2_with fail
    refine H0.out.mono ?_
    rintro e w' ⟨rfl, rfl⟩
    rw [HF.out]
    go_wp2_with fail
    go_ret
    exact ⟨by simp, rfl⟩

theorem right_any (A : Option Addr) (n c : Nat) (p : List ByteArray) (w : World) (hn : n ≤ 1000000) (hs : ∀ s ∈ p, s.size ≤ 9223372036854775807) (hR : Reads w w.heap.size 1 A n (strV p)) :
    Calls Tryd.prog 60 #[.slice A n c] w fun e w' => e = .returned (.bool (rightB p)) ∧ w = w' := by
  have hl := strs_n hR
  have H0 := Sl.mk (badn_any A n c p w hn hs hR)
  by_cases h8 : n ≤ 8
  · have HB := Sl.mk (show rightB p = p.all nameB by unfold rightB; rw [hl, decide_eq_true h8]; rfl)
    clear hl hR hs
    cases hA : p.all nameB
    all_goals
      rw [hA] at H0
      go_enter Tryd.func60, Tryd.ntmps60
      go_wp2_with fail
      refine H0.out.mono ?_
      rintro e w' ⟨rfl, rfl⟩
      go_wp2_with fail
      go_ret
      exact ⟨by rw [HB.out, hA]; rfl, rfl⟩
  · have HB := Sl.mk (show rightB p = false by unfold rightB; rw [hl, decide_eq_false h8]; rfl)
    have h8' : decide ((n : Int) ≤ 8) = false := by simp; omega
    clear hl hR hs
    go_enter Tryd.func60, Tryd.ntmps60
    go_wp2_with fail
    go_ret
    exact ⟨by rw [HB.out]; rfl, rfl⟩

theorem toList_inj {s t : ByteArray} (h : s.toList = t.toList) : s = t := by
  apply ByteArray.ext
  apply Array.toList_inj.1
  simpa [ByteArray.toList_eq] using h

end Go.Proofs.YticcphppnmoogaaDoor
