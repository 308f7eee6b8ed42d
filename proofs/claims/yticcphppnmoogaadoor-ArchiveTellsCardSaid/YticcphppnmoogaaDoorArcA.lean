/-
  Entries: what they are, and how they lie in memory.
-/
import Derived.Test.YticcphppnmoogaaDoorPthF
import Derived.Test.YticcphppnmoogaaDoorModeRfA
namespace Go.Proofs.YticcphppnmoogaaDoor
open Go.RowKit
attribute [local go_sem ↓] Go.wp_at_zero Go.wp_at_succ

/-- An entry. -/
structure En where
  path : List ByteArray
  kind : Int
  mode : Int
  data : List Nat
/-- .. with the headers of its two slices. -/
structure Ex where
  e : En
  pa : Option Addr
  pc : Nat
  da : Option Addr
  dc : Nat
def exC (x : Ex) : List Value := [.slice x.pa x.e.path.length x.pc, .int .i64 x.e.kind, .int .i64 x.e.mode, .slice x.da x.e.data.length x.dc]
theorem exC_len (x : Ex) : (exC x).length = 4 := rfl
theorem exC_one (x : Ex) : ∀ v ∈ exC x, v.oneCell' = true := by
  intro v hv
  simp only [exC, List.mem_cons, List.not_mem_nil, or_false] at hv
  rcases hv with rfl | rfl | rfl | rfl <;> rfl
def exsC (l : List Ex) : List Value := l.flatMap exC
theorem exsC_len (l : List Ex) : (exsC l).length = l.length * 4 := by
  induction l with
  | nil => rfl
  | cons r l ih => simp only [exsC, List.flatMap_cons, List.length_append, exC_len, List.length_cons] at *; omega
theorem exsC_one (l : List Ex) : ∀ v ∈ exsC l, v.oneCell' = true := by
  intro v hv
  obtain ⟨r, _, h⟩ := List.mem_flatMap.1 hv
  exact exC_one r v h
theorem exsC_at : ∀ (l : List Ex) (i : Nat) (r : Ex), l[i]? = some r → ∀ (j : Nat) (v : Value), (exC r)[j]? = some v → (exsC l)[i * 4 + j]? = some v
  | [], i, r, h, _, _, _ => by simp at h
  | x :: l, 0, r, h, j, v, hv => by
    simp at h; subst h
    have hj : j < (exC x).length := (List.getElem?_eq_some_iff.1 hv).1
    simp only [exsC, List.flatMap_cons, Nat.zero_mul, Nat.zero_add]
    rw [List.getElem?_append_left hj, hv]
  | x :: l, i + 1, r, h, j, v, hv => by
    have h' : l[i]? = some r := by simpa using h
    have e : (i + 1) * 4 + j = (exC x).length + (i * 4 + j) := by rw [exC_len]; omega
    simp only [exsC, List.flatMap_cons]
    rw [e, List.getElem?_append_right (by omega), Nat.add_sub_cancel_left]
    exact exsC_at l i r h' j v hv
theorem exsC_app (a b : List Ex) : exsC (a ++ b) = exsC a ++ exsC b := by simp [exsC]

/-- Its two slices read so. -/
structure ExOk (w : World) (B : Nat) (x : Ex) : Prop where
  path : Reads w B 1 x.pa x.e.path.length (strV x.e.path)
  data : Reads w B 1 x.da x.e.data.length (u8s x.e.data)
  pcap : x.e.path.length ≤ x.pc ∧ x.pc ≤ 9223372036854775807
  dcap : x.e.data.length ≤ x.dc ∧ x.dc ≤ 9223372036854775807
  plen : x.e.path.length ≤ 100
  slen : ∀ s ∈ x.e.path, s.size ≤ 1000
  dlen : x.e.data.length ≤ 100000
  byte : ∀ b ∈ x.e.data, b < 256
theorem ExOk.below {w w' : World} {B : Nat} {x : Ex} (h : ExOk w B x) (hb : Below B w w') : ExOk w' B x :=
  ⟨h.path.below hb, h.data.below hb, h.pcap, h.dcap, h.plen, h.slen, h.dlen, h.byte⟩
theorem ExOk.more {w : World} {B B' : Nat} {x : Ex} (h : ExOk w B x) (hb : B ≤ B') : ExOk w B' x :=
  ⟨h.path.more hb, h.data.more hb, h.pcap, h.dcap, h.plen, h.slen, h.dlen, h.byte⟩
theorem ExOk.be {w w' : World} {x : Ex} (h : ExOk w w.heap.size x) (hb : Below w.heap.size w w') : ExOk w' w'.heap.size x := (h.below hb).more hb.size

/-- A slice of entries. -/
structure Exs (w : World) (A : Option Addr) (n : Nat) (l : List Ex) : Prop where
  row : Reads w w.heap.size 4 A n (exsC l)
  ok : ∀ x ∈ l, ExOk w w.heap.size x
theorem Exs.n_ {w : World} {A : Option Addr} {n : Nat} {l : List Ex} (h : Exs w A n l) : l.length = n := by
  have hl := h.row.1
  rw [exsC_len] at hl
  omega
theorem Exs.be {w w' : World} {A : Option Addr} {n : Nat} {l : List Ex} (h : Exs w A n l) (hb : Below w.heap.size w w') : Exs w' A n l :=
  ⟨(h.row.below hb).more hb.size, fun x hx => (h.ok x hx).be hb⟩
theorem Exs.at_ {w : World} {A : Option Addr} {n : Nat} {l : List Ex} (h : Exs w A n l) {i : Nat} {x : Ex} (hi : l[i]? = some x) :
    ∃ ad, A = some ad ∧ ad.block < w.heap.size ∧ (∀ j v, (exC x)[j]? = some v → w.cell? ((ad.add (i * 4)).add j) = some v) ∧ ExOk w w.heap.size x := by
  have hl := h.n_
  have hil : i < l.length := (List.getElem?_eq_some_iff.1 hi).1
  obtain ⟨ad, e, hb, hc⟩ := h.row.2 (by omega)
  exact ⟨ad, e, hb, fun j v hv => by rw [add_of_add]; exact hc _ _ (exsC_at l i x hi j v hv), h.ok x (List.mem_of_getElem? hi)⟩
theorem exsC_take (l : List Ex) (k : Nat) : exsC (l.take k) = (exsC l).take (k * 4) := by
  induction l generalizing k with
  | nil => simp [exsC]
  | cons x l ih =>
    cases k with
    | zero => simp [exsC]
    | succ k =>
      have e : (k + 1) * 4 = (exC x).length + k * 4 := by rw [exC_len]; omega
      have h1 : exsC (x :: l) = exC x ++ exsC l := by simp [exsC]
      have h2 : exsC ((x :: l).take (k + 1)) = exC x ++ exsC (l.take k) := by simp [exsC]
      rw [h1, h2, e, List.take_length_add_append, ih]
theorem Exs.take_ {w : World} {A : Option Addr} {n k : Nat} {l : List Ex} (h : Exs w A n l) (hk : k ≤ n) : Exs w A k (l.take k) := by
  have hl := h.n_
  refine ⟨⟨by rw [exsC_len, List.length_take]; omega, fun hp => ?_⟩, fun x hx => h.ok x (List.mem_of_mem_take hx)⟩
  obtain ⟨ad, e, hb, hc⟩ := h.row.2 (by omega)
  refine ⟨ad, e, hb, fun j u hu => hc j u ?_⟩
  rw [exsC_take, List.getElem?_take] at hu
  split at hu
  · exact hu
  · cases hu

theorem enInfo : (Tryd.prog.info? 34).map (fun i => (i.zero, i.size, i.bytes)) = some (some (.agg #[.slice none 0 0, .int .i64 0, .int .i64 0, .slice none 0 0]), 4, 64) := by kernel_rfl
theorem enSize : (Tryd.prog.info? 34).map (·.size) = some 4 := by kernel_rfl

end Go.Proofs.YticcphppnmoogaaDoor
