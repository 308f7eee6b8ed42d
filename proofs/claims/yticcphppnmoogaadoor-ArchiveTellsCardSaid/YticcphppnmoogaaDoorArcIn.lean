/-
  Entries that come in.
-/
import Derived.Test.YticcphppnmoogaaDoorArcI
import Derived.ProofKit
import Derived.OpenShut
import Derived.SliceStrings
import Derived.Lib.SmallJoins
import Derived.Deep.Slices
import Derived.Shelf.Vars
namespace Go.Proofs.YticcphppnmoogaaDoor
open Go.ChangeShapes Go.WideShapes Go.ChangeAt Go.RowKit Go.ChangeMaps Go.Deep Go.Joins

theorem wf8 {n : Int} (h : (Lit.int .u8 n).wf = true) : 0 ≤ n ∧ n < 256 := by
  have h1 : decide (IntKind.u8.min ≤ n) && decide (n ≤ IntKind.u8.max) := h
  simp only [Bool.and_eq_true, decide_eq_true_eq] at h1
  have e1 : IntKind.u8.min = 0 := by decide
  have e2 : IntKind.u8.max = 255 := by decide
  omega

/-- A slice of strings that comes in. -/
theorem open_strs {H : Type} {enc : TypeId × Value → H} {W : World} {fuel : Nat} {v : Value} {x : DataW H × List MemPlace} (h : DataW.trod enc Tryd.prog W 0 (fun _ => true) true fuel 31 [v] = some x) :
    ∃ (A : Option Addr) (n c : Nat) (p : List ByteArray), v = .slice A n c ∧ p.length = n ∧ n ≤ c ∧ c ≤ 9223372036854775807 ∧ Reads W W.heap.size 1 A n (strV p) ∧ ∀ s ∈ p, s.size ≤ 9223372036854775807 := by
  rcases open_strings Tryd.underlying31 Tryd.underlying9 (by kernel_rfl) h with ⟨hcs, -⟩ | ⟨a, len, cap, ss, hcs, -, hl, hm, hz, -, hcell, hsz⟩
  · injection hcs with hcs
    subst hcs
    exact ⟨none, 0, 0, [], rfl, rfl, Nat.le_refl _, by omega, Reads.none_, fun s hs => by cases hs⟩
  · injection hcs with hcs
    subst hcs
    simp only [if_true] at hz
    unfold maxLen at hm hsz
    have hlen : (ss.take len).length = len := by rw [List.length_take]; omega
    refine ⟨some a, len, cap, ss.take len, rfl, hlen, hl, hm, ⟨by rw [strV_len, hlen, Nat.mul_one], fun hn => ⟨a, rfl, ?_, fun j u hu => ?_⟩⟩, fun s hs => hsz s (List.mem_of_mem_take hs)⟩
    · have h0 := cell_lt' (hcell 0 (by omega))
      rw [block_of_add] at h0
      exact h0
    · have hj : j < (strV (ss.take len)).length := (List.getElem?_eq_some_iff.1 hu).1
      rw [strV_len, hlen] at hj
      rw [hcell j (by omega), ← hu]
      simp [strV, hj, show j < ss.length by omega]

/-- A slice of bytes that comes in. -/
theorem open_bytes {H : Type} {enc : TypeId × Value → H} {W : World} {fuel : Nat} {v : Value} {x : DataW H × List MemPlace} (h : DataW.trod enc Tryd.prog W 0 (fun _ => true) true fuel 32 [v] = some x) :
    ∃ (A : Option Addr) (n c : Nat) (d : List Nat), v = .slice A n c ∧ d.length = n ∧ n ≤ c ∧ c ≤ 9223372036854775807 ∧ Reads W W.heap.size 1 A n (u8s d) ∧ ∀ b ∈ d, b < 256 := by
  rcases open_ints Tryd.underlying32 Tryd.underlying5 (by kernel_rfl) h with ⟨hcs, -⟩ | ⟨a, len, cap, zs, hcs, -, hl, hm, hz, -, hcell, hwz⟩
  · injection hcs with hcs
    subst hcs
    exact ⟨none, 0, 0, [], rfl, rfl, Nat.le_refl _, by omega, Reads.none_, fun s hs => by cases hs⟩
  · injection hcs with hcs
    subst hcs
    simp only [if_true] at hz
    unfold maxLen at hm
    have hlen : ((zs.take len).map Int.toNat).length = len := by rw [List.length_map, List.length_take]; omega
    refine ⟨some a, len, cap, (zs.take len).map Int.toNat, rfl, hlen, hl, hm, ⟨by rw [u8s_len, hlen, Nat.mul_one], fun hn => ⟨a, rfl, ?_, fun j u hu => ?_⟩⟩, fun b hb => ?_⟩
    · have h0 := cell_lt' (hcell 0 (by omega))
      rw [block_of_add] at h0
      exact h0
    · have hj : j < (u8s ((zs.take len).map Int.toNat)).length := (List.getElem?_eq_some_iff.1 hu).1
      rw [u8s_len, hlen] at hj
      have hjz : j < zs.length := by omega
      have hw := wf8 (hwz _ (List.getElem_mem hjz))
      rw [hcell j hjz, ← hu]
      simp [u8s, hj, hjz]
      omega
    · obtain ⟨z, hz2, rfl⟩ := List.mem_map.1 hb
      have := wf8 (hwz z (List.mem_of_mem_take hz2))
      omega

theorem four_list : ∀ {cs : List Value}, cs.length = 4 → ∃ v0 v1 v2 v3, cs = [v0, v1, v2, v3]
  | [a, b, c, d], _ => ⟨a, b, c, d, rfl⟩

/-- An entry's cells, as they read. -/
theorem en_cells {H : Type} {enc : TypeId × Value → H} {W : World} {fuel : Nat} {cs : List Value} {x : DataW H × List MemPlace} (h : DataW.trod enc Tryd.prog W 0 (fun _ => true) true fuel 44 cs = some x) : ∃ r : Ex, cs = exC r ∧ InOk W W.heap.size r := by
  have hc1 : Tryd.prog.cellsOf 3 = 1 := by kernel_rfl
  have hcP : Tryd.prog.cellsOf 31 = 1 := by kernel_rfl
  have hcD : Tryd.prog.cellsOf 32 = 1 := by kernel_rfl
  have hcE : Tryd.prog.cellsOf 44 = 4 := by kernel_rfl
  obtain ⟨xs, n, -, -, hl, hx, hf⟩ := DataW.trod_struct Tryd.underlying44 h
  rw [hcE] at hl
  have hx4 : xs.length = 4 := hx
  have g : ∀ i, i < 4 → ∃ y, xs[i]? = some y := fun i hi => ⟨_, List.getElem?_eq_getElem (by omega)⟩
  obtain ⟨y0, e0⟩ := g 0 (by omega)
  obtain ⟨y1, e1⟩ := g 1 (by omega)
  obtain ⟨y2, e2⟩ := g 2 (by omega)
  obtain ⟨y3, e3⟩ := g 3 (by omega)
  have f0 := hf 0 _ rfl
  have f1 := hf 1 _ rfl
  have f2 := hf 2 _ rfl
  have f3 := hf 3 _ rfl
  rw [e0] at f0
  rw [e1] at f1
  rw [e2] at f2
  rw [e3] at f3
  obtain ⟨v0, v1, v2, v3, rfl⟩ := four_list hl
  have f0' : DataW.trod enc Tryd.prog W 0 (fun _ => true) true n 31 (([v0, v1, v2, v3].drop 0).take (Tryd.prog.cellsOf 31)) = some y0 := f0
  have f1' : DataW.trod enc Tryd.prog W 0 (fun _ => true) true n 3 (([v0, v1, v2, v3].drop 1).take (Tryd.prog.cellsOf 3)) = some y1 := f1
  have f2' : DataW.trod enc Tryd.prog W 0 (fun _ => true) true n 3 (([v0, v1, v2, v3].drop 2).take (Tryd.prog.cellsOf 3)) = some y2 := f2
  have f3' : DataW.trod enc Tryd.prog W 0 (fun _ => true) true n 32 (([v0, v1, v2, v3].drop 3).take (Tryd.prog.cellsOf 32)) = some y3 := f3
  rw [hcP] at f0'
  rw [hc1] at f1' f2'
  rw [hcD] at f3'
  obtain ⟨A, n1, c1, p, hv0, hp, hpc, hpc2, hR, hs⟩ := open_strs f0'
  obtain ⟨k, hk, -, -⟩ := DataW.trod_int Tryd.underlying3 f1'
  obtain ⟨m, hm, -, -⟩ := DataW.trod_int Tryd.underlying3 f2'
  obtain ⟨D, n2, c2, d, hv3, hd, hdc, hdc2, hRd, hb⟩ := open_bytes f3'
  injection hk with hk
  injection hm with hm
  subst hv0 hv3 hk hm
  refine ⟨⟨⟨p, k, m, d⟩, A, c1, D, c2⟩, by unfold exC; simp only; rw [hp, hd], ?_⟩
  subst hp hd
  exact ⟨hR, hRd, ⟨hpc, hpc2⟩, ⟨hdc, hdc2⟩, hs, hb⟩

theorem list_of {α : Type} {P : Nat → α → Prop} : ∀ (n : Nat), (∀ i, i < n → ∃ r, P i r) → ∃ l : List α, l.length = n ∧ ∀ i r, l[i]? = some r → P i r
  | 0, _ => ⟨[], rfl, fun i r h => by simp at h⟩
  | n + 1, h => by
    obtain ⟨l, h1, h2⟩ := list_of n (fun i hi => h i (by omega))
    obtain ⟨r, hr⟩ := h n (by omega)
    refine ⟨l ++ [r], by simp [h1], fun i r' hi => ?_⟩
    rcases Nat.lt_or_ge i l.length with hlt | hge
    · rw [List.getElem?_append_left hlt] at hi
      exact h2 i r' hi
    · rw [List.getElem?_append_right hge] at hi
      have hi0 : i - l.length = 0 := by
        rcases Nat.eq_zero_or_pos (i - l.length) with e | e
        · exact e
        · rw [List.getElem?_eq_none (by simp; omega)] at hi; cases hi
      rw [hi0] at hi
      simp at hi
      subst hi
      have : i = n := by omega
      subst this
      exact hr

theorem exs_split : ∀ (l : List Ex) (j : Nat) (v : Value), (exsC l)[j]? = some v → ∃ i k r, j = i * 4 + k ∧ l[i]? = some r ∧ (exC r)[k]? = some v
  | [], j, v, h => by simp [exsC] at h
  | x :: l, j, v, h => by
    simp only [exsC, List.flatMap_cons] at h
    rcases Nat.lt_or_ge j (exC x).length with hlt | hge
    · rw [List.getElem?_append_left hlt] at h
      exact ⟨0, j, x, by simp, by simp, h⟩
    · rw [List.getElem?_append_right hge] at h
      obtain ⟨i, k, r, h1, h2, h3⟩ := exs_split l _ v h
      rw [exC_len] at h1 hge
      exact ⟨i + 1, k, r, by omega, by simpa using h2, h3⟩

set_option maxRecDepth 100000 in
theorem open_ents {H : Type} {enc : TypeId × Value → H} {W : World} {v : Value} {d : DataW H} {p : List MemPlace} (h0 : DataW.Trod enc Tryd.prog W 0 (fun _ => true) true 22 v d p) {base : Nat} (o : Value.okWide Tryd.prog W .any base 22 v) :
    ∃ (A : Option Addr) (n c : Nat) (l : List Ex), v = .slice A n c ∧ n ≤ c ∧ c ≤ 9223372036854775807 ∧ Ins W A n l := by
  have hcE : Tryd.prog.cellsOf 44 = 4 := by kernel_rfl
  obtain ⟨A0, n0, c0, rfl⟩ := okWide_slice Tryd.underlying22 o
  obtain ⟨fuel, h⟩ := h0
  rcases open_slice Tryd.underlying22 h with ⟨hcs, -⟩ | ⟨a, len, cap, m, n, D, Pl, hcs, -, hl, hm, hmm, -, hi⟩
  · simp [Value.cells] at hcs
    obtain ⟨rfl, rfl, rfl⟩ := hcs
    exact ⟨none, 0, 0, [], rfl, Nat.le_refl _, by omega, ⟨Reads.none_, fun x hx => by cases hx⟩⟩
  · simp [Value.cells] at hcs
    obtain ⟨rfl, rfl, rfl⟩ := hcs
    rw [if_pos rfl] at hmm
    rw [hcE] at hi
    unfold maxLen at hm
    obtain ⟨l, h1, h2⟩ := list_of (P := fun i (x : Ex) => W.cells? 0 (a.add (i * 4)) 4 = some (exC x) ∧ InOk W W.heap.size x) n0 (fun i hil => by
      obtain ⟨cs', hc, ht⟩ := hi i (by omega)
      obtain ⟨r, rfl, hr⟩ := en_cells ht
      exact ⟨r, hc, hr⟩)
    refine ⟨some a, n0, c0, l, rfl, hl, hm, ⟨⟨by rw [exsC_len, h1], fun hn => ⟨a, rfl, ?_, fun j u hu => ?_⟩⟩, fun x hx => ?_⟩⟩
    · obtain ⟨r, hr⟩ : ∃ r, l[0]? = some r := ⟨_, List.getElem?_eq_getElem (by omega)⟩
      obtain ⟨_, hcl, hat⟩ := World.cells?_some (h2 0 r hr).1
      have h3 := hat 0 (by omega)
      have h4 := cell_lt' (h3.trans (show (exC r)[0]? = some _ from rfl))
      rw [block_of_add, block_of_add] at h4
      exact h4
    · obtain ⟨i, k, r, rfl, hr, hk⟩ := exs_split l j u hu
      obtain ⟨_, hcl, hat⟩ := World.cells?_some (h2 i r hr).1
      have hk4 : k < 4 := by have := (List.getElem?_eq_some_iff.1 hk).1; rw [exC_len] at this; exact this
      have h3 := hat k hk4
      rw [add_of_add] at h3
      rw [h3, hk]
    · obtain ⟨i, hx2⟩ := List.mem_iff_getElem?.1 hx
      exact (h2 i x hx2).2

set_option maxRecDepth 100000 in
/-- The library's variable holds some number, by the world's shape. -/
theorem mx_of {W : World} (hsh : W.ShapedOpen Tryd.prog) : Mx W :=
  cell_of_shapedOpen_int (P := Tryd.prog) (g := 2) (t := 3) (zero := #[.int .i64 0]) hsh (of_decide_eq_true (by kernel_rfl)) (by kernel_rfl) rfl (by kernel_rfl) (by kernel_rfl) Tryd.underlying3

end Go.Proofs.YticcphppnmoogaaDoor
