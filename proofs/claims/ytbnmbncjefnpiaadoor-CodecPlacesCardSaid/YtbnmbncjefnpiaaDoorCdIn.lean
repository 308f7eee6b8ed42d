/-
  Tokens that come in.
-/
import Derived.Test.YtbnmbncjefnpiaaDoorCdS
import Derived.Test.YtbnmbncjefnpiaaDoorCdU
import Derived.ProofKit
import Derived.OpenShut
import Derived.Lib.SmallJoins
import Derived.Deep.Slices
import Derived.Shelf.Vars
namespace Go.Proofs.YtbnmbncjefnpiaaDoor
open Go.ChangeShapes Go.WideShapes Go.ChangeAt Go.RowKit Go.ChangeMaps Go.Deep Go.Joins

theorem wf8 {n : Int} (h : (Lit.int .u8 n).wf = true) : 0 ≤ n ∧ n < 256 := by
  have h1 : decide (IntKind.u8.min ≤ n) && decide (n ≤ IntKind.u8.max) := h
  simp only [Bool.and_eq_true, decide_eq_true_eq] at h1
  have e1 : IntKind.u8.min = 0 := by decide
  have e2 : IntKind.u8.max = 255 := by decide
  omega

/-- A slice of bytes that comes in. -/
theorem open_bytes {H : Type} {enc : TypeId × Value → H} {W : World} {fuel : Nat} {v : Value} {x : DataW H × List MemPlace} (h : DataW.trod enc Tryd.prog W 0 (fun _ => true) true fuel 23 [v] = some x) :
    ∃ (A : Option Addr) (n c : Nat) (d : List Nat), v = .slice A n c ∧ d.length = n ∧ n ≤ c ∧ c ≤ 9223372036854775807 ∧ Reads W W.heap.size 1 A n (u8s d) ∧ ∀ b ∈ d, b < 256 := by
  rcases open_ints Tryd.underlying23 Tryd.underlying5 (by kernel_rfl) h with ⟨hcs, -⟩ | ⟨a, len, cap, zs, hcs, -, hl, hm, hz, -, hcell, hwz⟩
  · injection hcs with hcs
    subst hcs
    exact ⟨none, 0, 0, [], rfl, rfl, Nat.le_refl _, by omega, Reads.none_, fun s hs => by cases hs⟩
  · injection hcs with hcs
    subst hcs
    simp only [if_true] at hz
    unfold maxLen at hm
    have hlen : ((zs.take len).map Int.toNat).length = len := by rw [List.length_map, List.length_take]; omega
    refine ⟨some a, len, cap, (zs.take len).map Int.toNat, rfl, hlen, hl, hm, ⟨by rw [u8s_len, hlen, Nat.mul_one], fun hn => ⟨a, rfl, ?_, fun j u hu => ?_⟩⟩, fun b hb => ?_⟩
    · have h0 := cell_lt' (hcell 0 (by omega))
      rw [block_of_add] at h0
      exact h0
    · have hj : j < (u8s ((zs.take len).map Int.toNat)).length := (List.getElem?_eq_some_iff.1 hu).1
      rw [u8s_len, hlen] at hj
      have hjz : j < zs.length := by omega
      have hw := wf8 (hwz _ (List.getElem_mem hjz))
      rw [hcell j hjz, ← hu]
      simp [u8s, hj, hjz]
      omega
    · obtain ⟨z, hz2, rfl⟩ := List.mem_map.1 hb
      have := wf8 (hwz z (List.mem_of_mem_take hz2))
      omega

theorem three_list : ∀ {cs : List Value}, cs.length = 3 → ∃ v0 v1 v2, cs = [v0, v1, v2]
  | [a, b, c], _ => ⟨a, b, c, rfl⟩
theorem wf64 {n : Int} (h : (Lit.int .i64 n).wf = true) : -9223372036854775808 ≤ n ∧ n ≤ 9223372036854775807 := by
  have h1 : decide (IntKind.i64.min ≤ n) && decide (n ≤ IntKind.i64.max) := h
  simp only [Bool.and_eq_true, decide_eq_true_eq] at h1
  have e1 : IntKind.i64.min = -9223372036854775808 := by decide
  have e2 : IntKind.i64.max = 9223372036854775807 := by decide
  omega

/-- A token with its header. -/
structure Tx where
  t : Tk
  p : Option Addr
  c : Nat
def txC (x : Tx) : List Value := [.int .i64 x.t.k, .int .i64 x.t.n, .slice x.p x.t.b.length x.c]
theorem txC_len (x : Tx) : (txC x).length = 3 := rfl
def txsC (l : List Tx) : List Value := l.flatMap txC
theorem txsC_len (l : List Tx) : (txsC l).length = l.length * 3 := by
  induction l with
  | nil => rfl
  | cons r l ih => simp only [txsC, List.flatMap_cons, List.length_append, txC_len, List.length_cons] at *; omega
theorem txsC_at : ∀ (l : List Tx) (i : Nat) (r : Tx), l[i]? = some r → ∀ (j : Nat) (v : Value), (txC r)[j]? = some v → (txsC l)[i * 3 + j]? = some v
  | [], i, r, h, _, _, _ => by simp at h
  | x :: l, 0, r, h, j, v, hv => by
    simp at h; subst h
    have hj : j < (txC x).length := (List.getElem?_eq_some_iff.1 hv).1
    simp only [txsC, List.flatMap_cons, Nat.zero_mul, Nat.zero_add]
    rw [List.getElem?_append_left hj, hv]
  | x :: l, i + 1, r, h, j, v, hv => by
    have h' : l[i]? = some r := by simpa using h
    have e : (i + 1) * 3 + j = (txC x).length + (i * 3 + j) := by rw [txC_len]; omega
    simp only [txsC, List.flatMap_cons]
    rw [e, List.getElem?_append_right (by omega), Nat.add_sub_cancel_left]
    exact txsC_at l i r h' j v hv
theorem txsC_split : ∀ (l : List Tx) (j : Nat) (v : Value), (txsC l)[j]? = some v → ∃ i k r, j = i * 3 + k ∧ l[i]? = some r ∧ (txC r)[k]? = some v
  | [], j, v, h => by simp [txsC] at h
  | x :: l, j, v, h => by
    simp only [txsC, List.flatMap_cons] at h
    rcases Nat.lt_or_ge j (txC x).length with hlt | hge
    · rw [List.getElem?_append_left hlt] at h
      exact ⟨0, j, x, by simp, by simp, h⟩
    · rw [List.getElem?_append_right hge] at h
      obtain ⟨i, k, r, h1, h2, h3⟩ := txsC_split l _ v h
      rw [txC_len] at h1 hge
      exact ⟨i + 1, k, r, by omega, by simpa using h2, h3⟩
structure TxOk (w : World) (B : Nat) (x : Tx) : Prop where
  row : Reads w B 1 x.p x.t.b.length (u8s x.t.b)
  cap : x.t.b.length ≤ x.c ∧ x.c ≤ 9223372036854775807
  by_ : ∀ b ∈ x.t.b, b < 256
  k1 : -9223372036854775808 ≤ x.t.k
  k2 : x.t.k ≤ 9223372036854775807
  n1 : -9223372036854775808 ≤ x.t.n
  n2 : x.t.n ≤ 9223372036854775807
structure Toks (w : World) (A : Option Addr) (n : Nat) (l : List Tx) : Prop where
  row : Reads w w.heap.size 3 A n (txsC l)
  ok : ∀ x ∈ l, TxOk w w.heap.size x
theorem Toks.n_ {w : World} {A : Option Addr} {n : Nat} {l : List Tx} (h : Toks w A n l) : l.length = n := by
  have hl := h.row.1
  rw [txsC_len] at hl
  omega
theorem TxOk.below {w w' : World} {B : Nat} {x : Tx} (h : TxOk w B x) (hb : Below B w w') : TxOk w' B x := ⟨h.row.below hb, h.cap, h.by_, h.k1, h.k2, h.n1, h.n2⟩
theorem TxOk.more {w : World} {B B' : Nat} {x : Tx} (h : TxOk w B x) (hb : B ≤ B') : TxOk w B' x := ⟨h.row.more hb, h.cap, h.by_, h.k1, h.k2, h.n1, h.n2⟩
theorem Toks.be {w w' : World} {A : Option Addr} {n : Nat} {l : List Tx} (h : Toks w A n l) (hb : Below w.heap.size w w') : Toks w' A n l :=
  ⟨(h.row.below hb).more hb.size, fun x hx => ((h.ok x hx).below hb).more hb.size⟩
theorem Toks.at_ {w : World} {A : Option Addr} {n : Nat} {l : List Tx} (h : Toks w A n l) {i : Nat} {x : Tx} (hi : l[i]? = some x) :
    ∃ ad, A = some ad ∧ ad.block < w.heap.size ∧ (∀ j v, (txC x)[j]? = some v → w.cell? ((ad.add (i * 3)).add j) = some v) ∧ TxOk w w.heap.size x := by
  have hl := h.n_
  have hil : i < l.length := (List.getElem?_eq_some_iff.1 hi).1
  obtain ⟨ad, e, hb, hc⟩ := h.row.2 (by omega)
  exact ⟨ad, e, hb, fun j v hv => by rw [add_of_add]; exact hc _ _ (txsC_at l i x hi j v hv), h.ok x (List.mem_of_getElem? hi)⟩

theorem tk_cells {H : Type} {enc : TypeId × Value → H} {W : World} {fuel : Nat} {cs : List Value} {x : DataW H × List MemPlace} (h : DataW.trod enc Tryd.prog W 0 (fun _ => true) true fuel 51 cs = some x) : ∃ r : Tx, cs = txC r ∧ TxOk W W.heap.size r := by
  have hc1 : Tryd.prog.cellsOf 3 = 1 := by kernel_rfl
  have hcD : Tryd.prog.cellsOf 23 = 1 := by kernel_rfl
  have hcE : Tryd.prog.cellsOf 51 = 3 := by kernel_rfl
  obtain ⟨xs, n, -, -, hl, hx, hf⟩ := DataW.trod_struct Tryd.underlying51 h
  rw [hcE] at hl
  have hx3 : xs.length = 3 := hx
  have g : ∀ i, i < 3 → ∃ y, xs[i]? = some y := fun i hi => ⟨_, List.getElem?_eq_getElem (by omega)⟩
  obtain ⟨y0, e0⟩ := g 0 (by omega)
  obtain ⟨y1, e1⟩ := g 1 (by omega)
  obtain ⟨y2, e2⟩ := g 2 (by omega)
  have f0 := hf 0 _ rfl
  have f1 := hf 1 _ rfl
  have f2 := hf 2 _ rfl
  rw [e0] at f0
  rw [e1] at f1
  rw [e2] at f2
  obtain ⟨v0, v1, v2, rfl⟩ := three_list hl
  have f0' : DataW.trod enc Tryd.prog W 0 (fun _ => true) true n 3 (([v0, v1, v2].drop 0).take (Tryd.prog.cellsOf 3)) = some y0 := f0
  have f1' : DataW.trod enc Tryd.prog W 0 (fun _ => true) true n 3 (([v0, v1, v2].drop 1).take (Tryd.prog.cellsOf 3)) = some y1 := f1
  have f2' : DataW.trod enc Tryd.prog W 0 (fun _ => true) true n 23 (([v0, v1, v2].drop 2).take (Tryd.prog.cellsOf 23)) = some y2 := f2
  rw [hc1] at f0' f1'
  rw [hcD] at f2'
  obtain ⟨k, hk, -, hwk⟩ := DataW.trod_int Tryd.underlying3 f0'
  obtain ⟨m, hm, -, hwm⟩ := DataW.trod_int Tryd.underlying3 f1'
  obtain ⟨D, n2, c2, d, hv2, hd, hdc, hdc2, hRd, hb⟩ := open_bytes f2'
  injection hk with hk
  injection hm with hm
  subst hv2 hk hm
  refine ⟨⟨⟨k, m, d⟩, D, c2⟩, by unfold txC; simp only; rw [hd], ?_⟩
  subst hd
  exact ⟨hRd, ⟨hdc, hdc2⟩, hb, (wf64 hwk).1, (wf64 hwk).2, (wf64 hwm).1, (wf64 hwm).2⟩

theorem list_ofP {α : Type} {P : Nat → α → Prop} : ∀ (n : Nat), (∀ i, i < n → ∃ r, P i r) → ∃ l : List α, l.length = n ∧ ∀ i r, l[i]? = some r → P i r
  | 0, _ => ⟨[], rfl, fun i r h => by simp at h⟩
  | n + 1, h => by
    obtain ⟨l, h1, h2⟩ := list_ofP n (fun i hi => h i (by omega))
    obtain ⟨r, hr⟩ := h n (by omega)
    refine ⟨l ++ [r], by simp [h1], fun i r' hi => ?_⟩
    rcases Nat.lt_or_ge i l.length with hlt | hge
    · rw [List.getElem?_append_left hlt] at hi
      exact h2 i r' hi
    · rw [List.getElem?_append_right hge] at hi
      have hi0 : i - l.length = 0 := by
        rcases Nat.eq_zero_or_pos (i - l.length) with e | e
        · exact e
        · rw [List.getElem?_eq_none (by simp; omega)] at hi; cases hi
      rw [hi0] at hi
      simp at hi
      subst hi
      have : i = n := by omega
      subst this
      exact hr

set_option maxRecDepth 100000 in
theorem open_toks {H : Type} {enc : TypeId × Value → H} {W : World} {v : Value} {d : DataW H} {p : List MemPlace} (h0 : DataW.Trod enc Tryd.prog W 0 (fun _ => true) true 22 v d p) {base : Nat} (o : Value.okWide Tryd.prog W .any base 22 v) :
    ∃ (A : Option Addr) (n c : Nat) (l : List Tx), v = .slice A n c ∧ n ≤ c ∧ c ≤ 9223372036854775807 ∧ Toks W A n l := by
  have hcE : Tryd.prog.cellsOf 51 = 3 := by kernel_rfl
  obtain ⟨A0, n0, c0, rfl⟩ := okWide_slice Tryd.underlying22 o
  obtain ⟨fuel, h⟩ := h0
  rcases open_slice Tryd.underlying22 h with ⟨hcs, -⟩ | ⟨a, len, cap, m, n, D, Pl, hcs, -, hl, hm, hmm, -, hi⟩
  · simp [Value.cells] at hcs
    obtain ⟨rfl, rfl, rfl⟩ := hcs
    exact ⟨none, 0, 0, [], rfl, Nat.le_refl _, by omega, ⟨Reads.none_, fun x hx => by cases hx⟩⟩
  · simp [Value.cells] at hcs
    obtain ⟨rfl, rfl, rfl⟩ := hcs
    rw [if_pos rfl] at hmm
    rw [hcE] at hi
    unfold maxLen at hm
    obtain ⟨l, h1, h2⟩ := list_ofP (P := fun i (x : Tx) => W.cells? 0 (a.add (i * 3)) 3 = some (txC x) ∧ TxOk W W.heap.size x) n0 (fun i hil => by
      obtain ⟨cs', hc, ht⟩ := hi i (by omega)
      obtain ⟨r, rfl, hr⟩ := tk_cells ht
      exact ⟨r, hc, hr⟩)
    refine ⟨some a, n0, c0, l, rfl, hl, hm, ⟨⟨by rw [txsC_len, h1], fun hn => ⟨a, rfl, ?_, fun j u hu => ?_⟩⟩, fun x hx => ?_⟩⟩
    · obtain ⟨r, hr⟩ : ∃ r, l[0]? = some r := ⟨_, List.getElem?_eq_getElem (by omega)⟩
      obtain ⟨_, hcl, hat⟩ := World.cells?_some (h2 0 r hr).1
      have h3 := hat 0 (by omega)
      have h4 := cell_lt' (h3.trans (show (txC r)[0]? = some _ from rfl))
      rw [block_of_add, block_of_add] at h4
      exact h4
    · obtain ⟨i, k, r, rfl, hr, hk⟩ := txsC_split l j u hu
      obtain ⟨_, hcl, hat⟩ := World.cells?_some (h2 i r hr).1
      have hk4 : k < 3 := by have := (List.getElem?_eq_some_iff.1 hk).1; rw [txC_len] at this; exact this
      have h3 := hat k hk4
      rw [add_of_add] at h3
      rw [h3, hk]
    · obtain ⟨i, hx2⟩ := List.mem_iff_getElem?.1 hx
      exact (h2 i x hx2).2

end Go.Proofs.YtbnmbncjefnpiaaDoor
