/-
  Entries that come in.
  A start in which the rows' tables lie.
  The digest's tables, out of the rows' lists.
  ArchiveBytes at any input that reads.
  The card of the law 'ArchiveBytes': it returns true at every input, and each argument reads behind the call as it read before; the listed variables are tied to the program's text. Conditions: none.
-/
import Derived.Test.YticcphppnmoogaaGreatDoorBy9
import Derived.ProofKit
import Derived.OpenShut
import Derived.SliceStrings
import Derived.Lib.SmallJoins
import Derived.Deep.Slices
import Derived.Shelf.Vars
import Derived.Test.YticcphppnmoogaaGreatDoorCards
import Derived.Test.YticcphppnmoogaaGreatDoorTie
import Derived.Deep.DeepHandedRow
import Derived.Stop.LaidErr
import Derived.Test.YticcphppnmoogaaGreatDoorBy12
import Derived.Lib.LaidTab
import Derived.Test.YticcphppnmoogaaGreatDoorBy28
import Derived.ShutString
import Derived.ChangeOld
import Derived.Below

namespace Go.Proofs.YticcphppnmoogaaGreatDoor
open Go.ChangeShapes Go.WideShapes Go.ChangeAt Go.RowKit Go.ChangeMaps Go.Deep Go.Joins

theorem wf8 {n : Int} (h : (Lit.int .u8 n).wf = true) : 0 ≤ n ∧ n < 256 := by
  have h1 : decide (IntKind.u8.min ≤ n) && decide (n ≤ IntKind.u8.max) := h
  simp only [Bool.and_eq_true, decide_eq_true_eq] at h1
  have e1 : IntKind.u8.min = 0 := by decide
  have e2 : IntKind.u8.max = 255 := by decide
  omega

/-- A slice of strings that comes in. -/
theorem open_strs {H : Type} {enc : TypeId × Value → H} {W : World} {fuel : Nat} {v : Value} {x : DataW H × List MemPlace} (h : DataW.trod enc Tryz.prog W 0 (fun _ => true) true fuel 38 [v] = some x) :
    ∃ (A : Option Addr) (n c : Nat) (p : List ByteArray), v = .slice A n c ∧ p.length = n ∧ n ≤ c ∧ c ≤ 9223372036854775807 ∧ Reads W W.heap.size 1 A n (strV p) ∧ ∀ s ∈ p, s.size ≤ 9223372036854775807 := by
  rcases open_strings Tryz.underlying38 Tryz.underlying9 (by kernel_rfl) h with ⟨hcs, -⟩ | ⟨a, len, cap, ss, hcs, -, hl, hm, hz, -, hcell, hsz⟩
  · injection hcs with hcs
    subst hcs
    exact ⟨none, 0, 0, [], rfl, rfl, Nat.le_refl _, by omega, Reads.none_, fun s hs => by cases hs⟩
  · injection hcs with hcs
    subst hcs
    simp only [if_true] at hz
    unfold maxLen at hm hsz
    have hlen : (ss.take len).length = len := by rw [List.length_take]; omega
    refine ⟨some a, len, cap, ss.take len, rfl, hlen, hl, hm, ⟨by rw [strV_len, hlen, Nat.mul_one], fun hn => ⟨a, rfl, ?_, fun j u hu => ?_⟩⟩, fun s hs => hsz s (List.mem_of_mem_take hs)⟩
    · have h0 := cell_lt' (hcell 0 (by omega))
      rw [block_of_add] at h0
      exact h0
    · have hj : j < (strV (ss.take len)).length := (List.getElem?_eq_some_iff.1 hu).1
      rw [strV_len, hlen] at hj
      rw [hcell j (by omega), ← hu]
      simp [strV, hj, show j < ss.length by omega]

/-- A slice of bytes that comes in. -/
theorem open_bytes {H : Type} {enc : TypeId × Value → H} {W : World} {fuel : Nat} {v : Value} {x : DataW H × List MemPlace} (h : DataW.trod enc Tryz.prog W 0 (fun _ => true) true fuel 22 [v] = some x) :
    ∃ (A : Option Addr) (n c : Nat) (d : List Nat), v = .slice A n c ∧ d.length = n ∧ n ≤ c ∧ c ≤ 9223372036854775807 ∧ Reads W W.heap.size 1 A n (u8s d) ∧ ∀ b ∈ d, b < 256 := by
  rcases open_ints Tryz.underlying22 Tryz.underlying5 (by kernel_rfl) h with ⟨hcs, -⟩ | ⟨a, len, cap, zs, hcs, -, hl, hm, hz, -, hcell, hwz⟩
  · injection hcs with hcs
    subst hcs
    exact ⟨none, 0, 0, [], rfl, rfl, Nat.le_refl _, by omega, Reads.none_, fun s hs => by cases hs⟩
  · injection hcs with hcs
    subst hcs
    simp only [if_true] at hz
    unfold maxLen at hm
    have hlen : ((zs.take len).map Int.toNat).length = len := by rw [List.length_map, List.length_take]; omega
    refine ⟨some a, len, cap, (zs.take len).map Int.toNat, rfl, hlen, hl, hm, ⟨by rw [u8s_len, hlen, Nat.mul_one], fun hn => ⟨a, rfl, ?_, fun j u hu => ?_⟩⟩, fun b hb => ?_⟩
    · have h0 := cell_lt' (hcell 0 (by omega))
      rw [block_of_add] at h0
      exact h0
    · have hj : j < (u8s ((zs.take len).map Int.toNat)).length := (List.getElem?_eq_some_iff.1 hu).1
      rw [u8s_len, hlen] at hj
      have hjz : j < zs.length := by omega
      have hw := wf8 (hwz _ (List.getElem_mem hjz))
      rw [hcell j hjz, ← hu]
      simp [u8s, hj, hjz]
      omega
    · obtain ⟨z, hz2, rfl⟩ := List.mem_map.1 hb
      have := wf8 (hwz z (List.mem_of_mem_take hz2))
      omega

theorem four_list : ∀ {cs : List Value}, cs.length = 4 → ∃ v0 v1 v2 v3, cs = [v0, v1, v2, v3]
  | [a, b, c, d], _ => ⟨a, b, c, d, rfl⟩

/-- An entry's cells, as they read. -/
theorem en_cells {H : Type} {enc : TypeId × Value → H} {W : World} {fuel : Nat} {cs : List Value} {x : DataW H × List MemPlace} (h : DataW.trod enc Tryz.prog W 0 (fun _ => true) true fuel 64 cs = some x) : ∃ r : Ex, cs = exC r ∧ InOk W W.heap.size r := by
  have hc1 : Tryz.prog.cellsOf 3 = 1 := by kernel_rfl
  have hcP : Tryz.prog.cellsOf 38 = 1 := by kernel_rfl
  have hcD : Tryz.prog.cellsOf 22 = 1 := by kernel_rfl
  have hcE : Tryz.prog.cellsOf 64 = 4 := by kernel_rfl
  obtain ⟨xs, n, -, -, hl, hx, hf⟩ := DataW.trod_struct Tryz.underlying64 h
  rw [hcE] at hl
  have hx4 : xs.length = 4 := hx
  have g : ∀ i, i < 4 → ∃ y, xs[i]? = some y := fun i hi => ⟨_, List.getElem?_eq_getElem (by omega)⟩
  obtain ⟨y0, e0⟩ := g 0 (by omega)
  obtain ⟨y1, e1⟩ := g 1 (by omega)
  obtain ⟨y2, e2⟩ := g 2 (by omega)
  obtain ⟨y3, e3⟩ := g 3 (by omega)
  have f0 := hf 0 _ rfl
  have f1 := hf 1 _ rfl
  have f2 := hf 2 _ rfl
  have f3 := hf 3 _ rfl
  rw [e0] at f0
  rw [e1] at f1
  rw [e2] at f2
  rw [e3] at f3
  obtain ⟨v0, v1, v2, v3, rfl⟩ := four_list hl
  have f0' : DataW.trod enc Tryz.prog W 0 (fun _ => true) true n 38 (([v0, v1, v2, v3].drop 0).take (Tryz.prog.cellsOf 38)) = some y0 := f0
  have f1' : DataW.trod enc Tryz.prog W 0 (fun _ => true) true n 3 (([v0, v1, v2, v3].drop 1).take (Tryz.prog.cellsOf 3)) = some y1 := f1
  have f2' : DataW.trod enc Tryz.prog W 0 (fun _ => true) true n 3 (([v0, v1, v2, v3].drop 2).take (Tryz.prog.cellsOf 3)) = some y2 := f2
  have f3' : DataW.trod enc Tryz.prog W 0 (fun _ => true) true n 22 (([v0, v1, v2, v3].drop 3).take (Tryz.prog.cellsOf 22)) = some y3 := f3
  rw [hcP] at f0'
  rw [hc1] at f1' f2'
  rw [hcD] at f3'
  obtain ⟨A, n1, c1, p, hv0, hp, hpc, hpc2, hR, hs⟩ := open_strs f0'
  obtain ⟨k, hk, -, -⟩ := DataW.trod_int Tryz.underlying3 f1'
  obtain ⟨m, hm, -, -⟩ := DataW.trod_int Tryz.underlying3 f2'
  obtain ⟨D, n2, c2, d, hv3, hd, hdc, hdc2, hRd, hb⟩ := open_bytes f3'
  injection hk with hk
  injection hm with hm
  subst hv0 hv3 hk hm
  refine ⟨⟨⟨p, k, m, d⟩, A, c1, D, c2⟩, by unfold exC; simp only; rw [hp, hd], ?_⟩
  subst hp hd
  exact ⟨hR, hRd, ⟨hpc, hpc2⟩, ⟨hdc, hdc2⟩, hs, hb⟩

theorem list_of {α : Type} {P : Nat → α → Prop} : ∀ (n : Nat), (∀ i, i < n → ∃ r, P i r) → ∃ l : List α, l.length = n ∧ ∀ i r, l[i]? = some r → P i r
  | 0, _ => ⟨[], rfl, fun i r h => by simp at h⟩
  | n + 1, h => by
    obtain ⟨l, h1, h2⟩ := list_of n (fun i hi => h i (by omega))
    obtain ⟨r, hr⟩ := h n (by omega)
    refine ⟨l ++ [r], by simp [h1], fun i r' hi => ?_⟩
    rcases Nat.lt_or_ge i l.length with hlt | hge
    · rw [List.getElem?_append_left hlt] at hi
      exact h2 i r' hi
    · rw [List.getElem?_append_right hge] at hi
      have hi0 : i - l.length = 0 := by
        rcases Nat.eq_zero_or_pos (i - l.length) with e | e
        · exact e
        · rw [List.getElem?_eq_none (by simp; omega)] at hi; cases hi
      rw [hi0] at hi
      simp at hi
      subst hi
      have : i = n := by omega
      subst this
      exact hr

theorem exs_split : ∀ (l : List Ex) (j : Nat) (v : Value), (exsC l)[j]? = some v → ∃ i k r, j = i * 4 + k ∧ l[i]? = some r ∧ (exC r)[k]? = some v
  | [], j, v, h => by simp [exsC] at h
  | x :: l, j, v, h => by
    simp only [exsC, List.flatMap_cons] at h
    rcases Nat.lt_or_ge j (exC x).length with hlt | hge
    · rw [List.getElem?_append_left hlt] at h
      exact ⟨0, j, x, by simp, by simp, h⟩
    · rw [List.getElem?_append_right hge] at h
      obtain ⟨i, k, r, h1, h2, h3⟩ := exs_split l _ v h
      rw [exC_len] at h1 hge
      exact ⟨i + 1, k, r, by omega, by simpa using h2, h3⟩

set_option maxRecDepth 100000 in
theorem open_ents {H : Type} {enc : TypeId × Value → H} {W : World} {v : Value} {d : DataW H} {p : List MemPlace} (h0 : DataW.Trod enc Tryz.prog W 0 (fun _ => true) true 27 v d p) {base : Nat} (o : Value.okWide Tryz.prog W .any base 27 v) :
    ∃ (A : Option Addr) (n c : Nat) (l : List Ex), v = .slice A n c ∧ n ≤ c ∧ c ≤ 9223372036854775807 ∧ Ins W A n l := by
  have hcE : Tryz.prog.cellsOf 64 = 4 := by kernel_rfl
  obtain ⟨A0, n0, c0, rfl⟩ := okWide_slice Tryz.underlying27 o
  obtain ⟨fuel, h⟩ := h0
  rcases open_slice Tryz.underlying27 h with ⟨hcs, -⟩ | ⟨a, len, cap, m, n, D, Pl, hcs, -, hl, hm, hmm, -, hi⟩
  · simp [Value.cells] at hcs
    obtain ⟨rfl, rfl, rfl⟩ := hcs
    exact ⟨none, 0, 0, [], rfl, Nat.le_refl _, by omega, ⟨Reads.none_, fun x hx => by cases hx⟩⟩
  · simp [Value.cells] at hcs
    obtain ⟨rfl, rfl, rfl⟩ := hcs
    rw [if_pos rfl] at hmm
    rw [hcE] at hi
    unfold maxLen at hm
    obtain ⟨l, h1, h2⟩ := list_of (P := fun i (x : Ex) => W.cells? 0 (a.add (i * 4)) 4 = some (exC x) ∧ InOk W W.heap.size x) n0 (fun i hil => by
      obtain ⟨cs', hc, ht⟩ := hi i (by omega)
      obtain ⟨r, rfl, hr⟩ := en_cells ht
      exact ⟨r, hc, hr⟩)
    refine ⟨some a, n0, c0, l, rfl, hl, hm, ⟨⟨by rw [exsC_len, h1], fun hn => ⟨a, rfl, ?_, fun j u hu => ?_⟩⟩, fun x hx => ?_⟩⟩
    · obtain ⟨r, hr⟩ : ∃ r, l[0]? = some r := ⟨_, List.getElem?_eq_getElem (by omega)⟩
      obtain ⟨_, hcl, hat⟩ := World.cells?_some (h2 0 r hr).1
      have h3 := hat 0 (by omega)
      have h4 := cell_lt' (h3.trans (show (exC r)[0]? = some _ from rfl))
      rw [block_of_add, block_of_add] at h4
      exact h4
    · obtain ⟨i, k, r, rfl, hr, hk⟩ := exs_split l j u hu
      obtain ⟨_, hcl, hat⟩ := World.cells?_some (h2 i r hr).1
      have hk4 : k < 4 := by have := (List.getElem?_eq_some_iff.1 hk).1; rw [exC_len] at this; exact this
      have h3 := hat k hk4
      rw [add_of_add] at h3
      rw [h3, hk]
    · obtain ⟨i, hx2⟩ := List.mem_iff_getElem?.1 hx
      exact (h2 i x hx2).2

set_option maxRecDepth 100000 in
/-- The library's variable holds some number, by the world's shape. -/
theorem mx_of {W : World} (hsh : W.ShapedOpen Tryz.prog) : Mx W :=
  cell_of_shapedOpen_int (P := Tryz.prog) (g := 1) (t := 3) (zero := #[.int .i64 0]) hsh (of_decide_eq_true (by kernel_rfl)) (by kernel_rfl) rfl (by kernel_rfl) (by kernel_rfl) Tryz.underlying3

end Go.Proofs.YticcphppnmoogaaGreatDoor

namespace Go.Proofs.YticcphppnmoogaaGreatDoor
open Go.RowKit

def litC : DataW Unit → List Value
  | .lit (.int k n) => [.int k n]
  | _ => []
def rowC : DataW Unit → List Value
  | .agg l => l.flatMap litC
  | _ => []
def rowsC : DataW Unit → List Value
  | .agg l => l.flatMap rowC
  | _ => []
def layCells (cs : Array Value) : Obj → Obj
  | .cells _ t frozen => .cells cs t frozen
  | o => o
/-- The settled world, the four tables as their initialisers lay them. -/
noncomputable def laidWorld (os : Os) : World :=
  { World.holding Tryz.prog os ⟨#[], #[], []⟩ with heap := ((((World.holding Tryz.prog os ⟨#[], #[], []⟩).heap.modify 0 (layCells (rowC Rows.laid_creel_digest_first).toArray)).modify 2 (layCells (rowC Rows.laid_creel_digest_round).toArray)).modify 3 (layCells (rowC Rows.laid_unicode_utf8_first).toArray)).modify 4 (layCells (rowsC Rows.laid_unicode_utf8_acceptRanges).toArray) }

end Go.Proofs.YticcphppnmoogaaGreatDoor

namespace Go.Proofs.YticcphppnmoogaaGreatDoor
open Go.ChangeShapes Go.WideShapes Go.ChangeAt Go.RowKit Go.ChangeMaps

theorem gR : Tryz.prog.globalNamed "creel/digest.round" = some 2 := by kernel_rfl
theorem gRT : (Tryz.prog.globals[2]?).map (·.type) = some 162 := by kernel_rfl
theorem gF : Tryz.prog.globalNamed "creel/digest.first" = some 0 := by kernel_rfl
theorem gFT : (Tryz.prog.globals[0]?).map (·.type) = some 118 := by kernel_rfl
theorem tabs_of {rest : List (String × DataW Unit)} {W : World} (h : laidMet Tryz.prog (("creel/digest.round", Rows.laid_creel_digest_round) :: ("creel/digest.first", Rows.laid_creel_digest_first) :: rest) W) : Tabs W := by
  have h1 : Lib.TabIs Tryz.prog W "creel/digest.round" .u32 (KT.map fun n : Nat => (n : Int)) :=
    Lib.tabIs_of_head (rest := ("creel/digest.first", Rows.laid_creel_digest_first) :: rest) gR gRT Tryz.underlying162 Tryz.underlying116 (by kernel_rfl) (by kernel_rfl) h
  have h2 : Lib.TabIs Tryz.prog W "creel/digest.first" .u32 (FT.map fun n : Nat => (n : Int)) :=
    Lib.tabIs_of_head (rest := rest) gF gFT Tryz.underlying118 Tryz.underlying116 (by kernel_rfl) (by kernel_rfl) (laidMet.tail h)
  have c1 : ∀ i, i < 64 → W.cell? ⟨2, i, none⟩ = some (.int .u32 ((KT.getD i 0 : Nat) : Int)) := fun i hi => by
    rw [h1.cell gR i (by simpa [KT] using hi)]
    have : i < KT.length := by simpa [KT] using hi
    simp [this]
  have c2 : ∀ i, i < 8 → W.cell? ⟨0, i, none⟩ = some (.int .u32 ((FT.getD i 0 : Nat) : Int)) := fun i hi => by
    rw [h2.cell gF i (by simpa [FT] using hi)]
    have : i < FT.length := by simpa [FT] using hi
    simp [this]
  have l1 : 2 < W.heap.size := cell_lt' (c1 0 (by decide))
  have l2 : 0 < W.heap.size := cell_lt' (c2 0 (by decide))
  exact ⟨by omega, c1, c2⟩

end Go.Proofs.YticcphppnmoogaaGreatDoor

namespace Go.Proofs.YticcphppnmoogaaGreatDoor
open Go.ChangeShapes Go.WideShapes Go.ChangeAt Go.RowKit Go.ChangeMaps

set_option maxRecDepth 100000 in
theorem abytes_any {H : Type} {enc : TypeId × Value → H} (W : World) (base : Nat) {v0 : Value} {d0 : DataW H} {p0 : List MemPlace}
    (h0 : DataW.Trod enc Tryz.prog W 0 (fun _ => true) true 27 v0 d0 p0)
    (o0 : Value.okWide Tryz.prog W .any base 27 v0) (hT : Tabs W) (hsh : W.ShapedOpen Tryz.prog) :
    Calls Tryz.prog 4 #[v0] W fun e w' => e = .returned (.bool true) ∧ Below W.heap.size W w' := by
  obtain ⟨A, n, c, l, rfl, hn, hc, hI⟩ := open_ents h0 o0
  exact bytes_walk A n c l W (by omega) hI (mx_of hsh) hT

end Go.Proofs.YticcphppnmoogaaGreatDoor

namespace Go.Proofs.YticcphppnmoogaaGreatDoor.archiveBytes
open Go.ChangeShapes Go.WideShapes Go.ChangeAt Go.RowKit
set_option linter.unusedVariables false
set_option maxRecDepth 100000

theorem own : ownKnob Tryz.prog.godebug = none := by kernel_rfl
theorem laidOut : laidOutB Tryz.prog = true := by kernel_rfl

theorem contract (H : Type) (enc : TypeId × Value → H) (W : World) (base : Nat) (args : Array Value) (ds gs : List (DataW H)) (before : List MemPlace)
    (hval0 : ∀ (j : Nat) t v, Tryz.f4.params[j]? = some t → args[j]? = some v → Value.okWide Tryz.prog W .any base t v)
    (hW : DataW.Whole enc Tryz.prog Tryz.f4.params.toList Rows.archiveBytesSpec.vars false W args.toList ds gs before) (hL : laidMetH Tryz.prog Rows.archiveBytesRow.laid W) (hsh : W.ShapedOpen Tryz.prog) :
    Calls Tryz.prog 4 args W fun e W' => ∃ v, e = .returned v ∧ Rows.archiveBytesSpec.post enc Tryz.prog Tryz.f4 false true false false W args v W' := by
  have hval : ∀ (j : Nat) t v, Tryz.f4.params[j]? = some t → args[j]? = some v → Value.okWide Tryz.prog W .any base t v := hval0
  have hW' := hW
  obtain ⟨p, q, hA0, hV, rfl, hfz, hnd⟩ := hW
  have hA : DataW.TrodAll enc Tryz.prog W 0 (fun _ => true) true Tryz.f4.params.toList args.toList ds p := hA0
  rw [Tryz.params4] at hA hval
  obtain ⟨v0, vs0, d0, ds0, p0, q0, hargs, rfl, rfl, h0, r0⟩ := trodAll_cons hA
  obtain ⟨rfl, rfl, rfl⟩ := trodAll_nil r0
  obtain rfl : args = #[v0] := by cases args; simp_all
  obtain ⟨rfl, rfl⟩ := trodVars_none hV
  have lt0 : ∀ x ∈ p0, x.block < W.heap.size := by obtain ⟨m, hm⟩ := h0; exact DataW.trod_lt m _ _ _ hm
  refine (abytes_any W base h0 (hval 0 27 v0 rfl rfl) (tabs_of hL) hsh).mono fun e W' ⟨he, bel⟩ => ?_
  subst he
  exact ⟨_, rfl, _, _, _, [], _, [], hW', trodAll_mk1 (shut_bool Tryz.underlying4 _), (trodAll_cons_mk (Below.trod laidOut (by kernel_rfl) (of_decide_eq_true (by kernel_rfl)) h0 bel lt0) trodAll_mk0), rfl, bel.frame _, fun h => by cases h⟩

theorem laid_met (os : Os) : laidMet Tryz.prog Rows.archiveBytesRow.laid ((laidWorld os).forCall (fun _ _ => 0) ⟨#[], #[.slice none 0 0], []⟩).memory :=
  laidMet_of_run' 8 (by kernel_rfl) (by kernel_rfl)
theorem reads (os : Os) {H : Type} (enc : TypeId × Value → H) : ∃ places, DataW.whole enc Tryz.prog ((laidWorld os).forCall (fun _ _ => 0) ⟨#[], #[.slice none 0 0], []⟩).memory Tryz.f4.params.toList Rows.archiveBytesSpec.vars false (#[.slice none 0 0] : Array Value).toList 8 = some ([.nil], [], places) :=
  ⟨[], by kernel_rfl⟩

set_option maxRecDepth 100000 in
theorem lifted (os : Os) (started : os.Started) (H : Type) (enc : TypeId × Value → H) (F : Stop.Interp) :
    ReturnsInHanded {} Tryz.checked os 4 .any ((OpenSpec.ofChange Rows.archiveBytesSpec).preRow enc Tryz.prog Tryz.f4 Rows.archiveBytesRow.domain false Rows.archiveBytesRow.laid) (((OpenSpec.ofChange Rows.archiveBytesSpec).at F).post enc Tryz.prog Tryz.f4 false true false false) := by
  obtain ⟨places, hx⟩ := reads os enc
  refine returnsInHanded_of_row (C := Tryz.checked) (s := OpenSpec.ofChange Rows.archiveBytesSpec) own started (by kernel_rfl) Tryz.func4
    (witness_row_at (enc := enc) (C := Tryz.checked) false (laidWorld os) #[.slice none 0 0] rfl (by kernel_rfl) (by kernel_rfl) (by kernel_rfl)
      (OpenSpec.preRow_of_cond 8 hx (by kernel_rfl) (fun k hk => by cases hk) (by kernel_rfl) (laid_met os))) ?_
  intro W base args ds gs before hval hW _ _ _ hL hsh _
  exact contract H enc W base args ds gs before hval hW hL hsh

theorem said : Rows.ArchiveBytesSaid :=
  OpenClaim.holds_of_cond 4 Tryz.f4 rfl rfl rfl rfl rfl rfl rfl ⟨rfl, rfl, rfl, rfl, rfl⟩ rfl rfl rfl rfl rfl (by kernel_rfl) Tryz.func4 (by kernel_rfl)
    (of_decide_eq_true (by kernel_rfl)) (by unfold Func.isWrapper; first | (rw [if_pos (by decide +kernel)]; kernel_rfl) | (rw [if_neg (by decide +kernel)]; exact ⟨rfl, rfl⟩))
    (fun os started H enc _ F => by rw [OpenClaim.pre_eq_preRow]; exact lifted os started H enc F)

theorem plain (f : FuncId) (fn : Func) (hf : Tryz.pinned.checked.prog.funcNamed "creel/creellaw12.ArchiveBytes" = some f) (hfn : Tryz.pinned.checked.prog.funcs[f]? = some fn) :
    false = Tryz.pinned.checked.prog.looks [] ∧ ∀ (j : Nat) t, fn.params[j]? = some t → Tryz.pinned.checked.prog.wantsStandIn t = false := by
  obtain rfl : f = 4 := Option.some.inj ((show Tryz.prog.funcNamed "creel/creellaw12.ArchiveBytes" = some 4 by kernel_rfl).symm.trans hf) |>.symm
  obtain rfl : fn = Tryz.f4 := (Option.some.inj (Tryz.func4.symm.trans hfn)).symm
  refine ⟨by kernel_rfl, fun j t ht => ?_⟩
  rw [Tryz.params4] at ht
  have hm := Array.mem_of_getElem? ht
  simp only [List.mem_toArray, List.mem_cons, List.not_mem_nil, or_false] at hm
  rcases hm with rfl
  · exact (show Tryz.prog.wantsStandIn 27 = false by kernel_rfl)

theorem proved : Rows.ArchiveBytesCardSaid :=
  Claim7.holds_tied_plain_at .later [] _ _ _ _ said (fun _ h => by cases h) (by kernel_rfl) (fun _ h => by cases h) archiveBytes_row_tie rfl ⟨rfl, rfl⟩ (by kernel_rfl) rfl plain (by kernel_rfl)
end Go.Proofs.YticcphppnmoogaaGreatDoor.archiveBytes
