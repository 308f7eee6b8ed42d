/-
  Instructions that come in.
-/
import Derived.Test.YtigdfkpkogompaaDoorCoK
import Derived.Test.YtigdfkpkogompaaDoorU8
import Derived.ProofKit
import Derived.OpenShut
import Derived.Lib.SmallJoins
import Derived.Deep.Slices
import Derived.Shelf.Vars
namespace Go.Proofs.YtigdfkpkogompaaDoor
open Go.ChangeShapes Go.WideShapes Go.ChangeAt Go.RowKit Go.ChangeMaps Go.Deep Go.Joins

theorem three_list : ∀ {cs : List Value}, cs.length = 3 → ∃ v0 v1 v2, cs = [v0, v1, v2]
  | [a, b, c], _ => ⟨a, b, c, rfl⟩
theorem isC_split : ∀ (l : List Ci) (j : Nat) (v : Value), (isC l)[j]? = some v → ∃ i k r, j = i * 3 + k ∧ l[i]? = some r ∧ (iC r)[k]? = some v
  | [], j, v, h => by simp [isC] at h
  | x :: l, j, v, h => by
    simp only [isC, List.flatMap_cons] at h
    rcases Nat.lt_or_ge j (iC x).length with hlt | hge
    · rw [List.getElem?_append_left hlt] at h
      exact ⟨0, j, x, by simp, by simp, h⟩
    · rw [List.getElem?_append_right hge] at h
      obtain ⟨i, k, r, h1, h2, h3⟩ := isC_split l _ v h
      rw [iC_len] at h1 hge
      exact ⟨i + 1, k, r, by omega, by simpa using h2, h3⟩
theorem bs_of (s : ByteArray) : bsS s.data.toList = s := by
  cases s
  rfl
theorem bs_len (s : ByteArray) : s.data.toList.length = s.size := Array.length_toList
theorem in_cells {H : Type} {enc : TypeId × Value → H} {W : World} {fuel : Nat} {cs : List Value} {x : DataW H × List MemPlace} (h : DataW.trod enc Tryd.prog W 0 (fun _ => true) true fuel 43 cs = some x) : ∃ r : Ci, cs = iC r ∧ r.s.length ≤ 9223372036854775807 := by
  have hc1 : Tryd.prog.cellsOf 3 = 1 := by kernel_rfl
  have hcD : Tryd.prog.cellsOf 9 = 1 := by kernel_rfl
  have hcE : Tryd.prog.cellsOf 43 = 3 := by kernel_rfl
  obtain ⟨xs, n, -, -, hl, hx, hf⟩ := DataW.trod_struct Tryd.underlying43 h
  rw [hcE] at hl
  have hx3 : xs.length = 3 := hx
  have g : ∀ i, i < 3 → ∃ y, xs[i]? = some y := fun i hi => ⟨_, List.getElem?_eq_getElem (by omega)⟩
  obtain ⟨y0, e0⟩ := g 0 (by omega)
  obtain ⟨y1, e1⟩ := g 1 (by omega)
  obtain ⟨y2, e2⟩ := g 2 (by omega)
  have f0 := hf 0 _ rfl
  have f1 := hf 1 _ rfl
  have f2 := hf 2 _ rfl
  rw [e0] at f0
  rw [e1] at f1
  rw [e2] at f2
  obtain ⟨v0, v1, v2, rfl⟩ := three_list hl
  have f0' : DataW.trod enc Tryd.prog W 0 (fun _ => true) true n 3 (([v0, v1, v2].drop 0).take (Tryd.prog.cellsOf 3)) = some y0 := f0
  have f1' : DataW.trod enc Tryd.prog W 0 (fun _ => true) true n 3 (([v0, v1, v2].drop 1).take (Tryd.prog.cellsOf 3)) = some y1 := f1
  have f2' : DataW.trod enc Tryd.prog W 0 (fun _ => true) true n 9 (([v0, v1, v2].drop 2).take (Tryd.prog.cellsOf 9)) = some y2 := f2
  rw [hc1] at f0' f1'
  rw [hcD] at f2'
  obtain ⟨k, hk, -, hwk⟩ := DataW.trod_int Tryd.underlying3 f0'
  obtain ⟨m, hm, -, hwm⟩ := DataW.trod_int Tryd.underlying3 f1'
  obtain ⟨s, hs, -, hws⟩ := DataW.trod_string Tryd.underlying9 f2'
  injection hk with hk
  injection hm with hm
  injection hs with hs
  subst hk hm hs
  exact ⟨⟨k, m, s.data.toList⟩, by unfold iC; simp only; rw [bs_of], Nat.le_trans (Nat.le_of_eq (bs_len s)) hws⟩
theorem list_ofP {α : Type} {P : Nat → α → Prop} : ∀ (n : Nat), (∀ i, i < n → ∃ r, P i r) → ∃ l : List α, l.length = n ∧ ∀ i r, l[i]? = some r → P i r
  | 0, _ => ⟨[], rfl, fun i r h => by simp at h⟩
  | n + 1, h => by
    obtain ⟨l, h1, h2⟩ := list_ofP n (fun i hi => h i (by omega))
    obtain ⟨r, hr⟩ := h n (by omega)
    refine ⟨l ++ [r], by simp [h1], fun i r' hi => ?_⟩
    rcases Nat.lt_or_ge i l.length with hlt | hge
    · rw [List.getElem?_append_left hlt] at hi
      exact h2 i r' hi
    · rw [List.getElem?_append_right hge] at hi
      have hi0 : i - l.length = 0 := by
        rcases Nat.eq_zero_or_pos (i - l.length) with e | e
        · exact e
        · rw [List.getElem?_eq_none (by simp; omega)] at hi; cases hi
      rw [hi0] at hi
      simp at hi
      subst hi
      have : i = n := by omega
      subst this
      exact hr

set_option maxRecDepth 100000 in
theorem open_instrs {H : Type} {enc : TypeId × Value → H} {W : World} {v : Value} {d : DataW H} {p : List MemPlace} (h0 : DataW.Trod enc Tryd.prog W 0 (fun _ => true) true 22 v d p) {base : Nat} (o : Value.okWide Tryd.prog W .any base 22 v) :
    ∃ (A : Option Addr) (n c : Nat) (l : List Ci), v = .slice A n c ∧ n ≤ c ∧ c ≤ 9223372036854775807 ∧ Rs W A n l := by
  have hcE : Tryd.prog.cellsOf 43 = 3 := by kernel_rfl
  obtain ⟨A0, n0, c0, rfl⟩ := okWide_slice Tryd.underlying22 o
  obtain ⟨fuel, h⟩ := h0
  rcases open_slice Tryd.underlying22 h with ⟨hcs, -⟩ | ⟨a, len, cap, m, n, D, Pl, hcs, -, hl, hm, hmm, -, hi⟩
  · simp [Value.cells] at hcs
    obtain ⟨rfl, rfl, rfl⟩ := hcs
    exact ⟨none, 0, 0, [], rfl, Nat.le_refl _, by omega, ⟨Reads.none_, fun x hx => by cases hx⟩⟩
  · simp [Value.cells] at hcs
    obtain ⟨rfl, rfl, rfl⟩ := hcs
    rw [if_pos rfl] at hmm
    rw [hcE] at hi
    unfold maxLen at hm
    obtain ⟨l, h1, h2⟩ := list_ofP (P := fun i (x : Ci) => W.cells? 0 (a.add (i * 3)) 3 = some (iC x) ∧ x.s.length ≤ 9223372036854775807) n0 (fun i hil => by
      obtain ⟨cs', hc, ht⟩ := hi i (by omega)
      obtain ⟨r, rfl, hr⟩ := in_cells ht
      exact ⟨r, hc, hr⟩)
    refine ⟨some a, n0, c0, l, rfl, hl, hm, ⟨⟨by rw [isC_len, h1], fun hn => ⟨a, rfl, ?_, fun j u hu => ?_⟩⟩, fun x hx => ?_⟩⟩
    · obtain ⟨r, hr⟩ : ∃ r, l[0]? = some r := ⟨_, List.getElem?_eq_getElem (by omega)⟩
      obtain ⟨_, hcl, hat⟩ := World.cells?_some (h2 0 r hr).1
      have h3 := hat 0 (by omega)
      have h4 := cell_lt' (h3.trans (show (iC r)[0]? = some _ from rfl))
      rw [block_of_add, block_of_add] at h4
      exact h4
    · obtain ⟨i, k, r, rfl, hr, hk⟩ := isC_split l j u hu
      obtain ⟨_, hcl, hat⟩ := World.cells?_some (h2 i r hr).1
      have hk4 : k < 3 := by have := (List.getElem?_eq_some_iff.1 hk).1; rw [iC_len] at this; exact this
      have h3 := hat k hk4
      rw [add_of_add] at h3
      rw [h3, hk]
    · obtain ⟨i, hx2⟩ := List.mem_iff_getElem?.1 hx
      exact (h2 i x hx2).2

end Go.Proofs.YtigdfkpkogompaaDoor
