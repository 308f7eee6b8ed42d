/-
  The codec's values in memory.
-/
import Derived.Test.YtbnmbncjefnpiaaDoorCdV
import Derived.Test.YtbnmbncjefnpiaaDoorPthC
namespace Go.Proofs.YtbnmbncjefnpiaaDoor
open Go.RowKit

/-- A row that reads so, in blocks of a set. -/
def RdC (w : World) (S : Nat → Prop) (size : Nat) (A : Option Addr) (n : Nat) (xs : List Value) : Prop :=
  xs.length = n * size ∧ (0 < n → ∃ ad, A = some ad ∧ S ad.block ∧ ∀ j u, xs[j]? = some u → w.cell? (ad.add j) = some u)
section
variable {w w' : World} {S S' : Nat → Prop} {size n : Nat} {A : Option Addr} {xs : List Value}
theorem RdC.reads {B : Nat} (h : RdC w S size A n xs) (hS : ∀ b, S b → b < B) : Reads w B size A n xs :=
  ⟨h.1, fun hn => by
    obtain ⟨ad, e, hb, hc⟩ := h.2 hn
    exact ⟨ad, e, hS _ hb, hc⟩⟩
theorem RdC.of {B : Nat} (h : Reads w B size A n xs) : RdC w (fun b => b < B) size A n xs := h
theorem RdC.mono (h : RdC w S size A n xs) (hS : ∀ b, S b → S' b) : RdC w S' size A n xs :=
  ⟨h.1, fun hn => by
    obtain ⟨ad, e, hb, hc⟩ := h.2 hn
    exact ⟨ad, e, hS _ hb, hc⟩⟩
theorem RdC.keep (h : RdC w S size A n xs) (hk : ∀ p : Addr, S p.block → w'.cell? p = w.cell? p) : RdC w' S size A n xs :=
  ⟨h.1, fun hn => by
    obtain ⟨ad, e, hb, hc⟩ := h.2 hn
    exact ⟨ad, e, hb, fun j u hu => (hk _ (by rw [block_of_add]; exact hb)).trans (hc j u hu)⟩⟩
theorem RdC.nil : RdC w S size none 0 [] := ⟨by simp, fun h => absurd h (by omega)⟩
theorem RdC.own {base c : Nat} {e : TypeId} (h : w.ownsRow base e size (.slice A n c) n xs) (hS : ∀ g, Value.ownBlock (.slice A n c) = some g → base ≤ g → g < w.heap.size → S g) : RdC w S size A n xs :=
  ⟨h.1, fun hn => by
    obtain ⟨g, cap, hv, h1, h2, h3⟩ := ownCells h hn
    injection hv with e1 _ _
    subst e1
    refine ⟨_, rfl, hS g rfl h1 h2, fun j u hu => ?_⟩
    have e2 : (⟨g, 0, none⟩ : Addr).add j = ⟨g, j, none⟩ := by unfold Addr.add; split <;> simp_all
    rw [e2]; exact h3 j u hu⟩
end

/-- A value with the headers of its two slices. -/
inductive Vx where
  | mk (k n : Int) (pb : Option Addr) (b : List Nat) (cb : Nat) (pl : Option Addr) (l : List Vx) (cl : Nat)
theorem Vx.ind_ {p : Vx → Prop} (h : ∀ k n pb b cb pl l cl, (∀ x ∈ l, p x) → p (.mk k n pb b cb pl l cl)) (v : Vx) : p v :=
  Vx.rec (motive_1 := p) (motive_2 := fun l => ∀ x ∈ l, p x) (fun k n pb b cb pl l cl ih => h k n pb b cb pl l cl ih) (fun _ hx => nomatch hx)
    (fun a r ha hr x hx => by rcases List.mem_cons.1 hx with e | hx; · exact e ▸ ha
                              · exact hr x hx) v
namespace Vx
def k : Vx → Int | .mk k _ _ _ _ _ _ _ => k
def l : Vx → List Vx | .mk _ _ _ _ _ _ l _ => l
end Vx
mutual
def Vx.v : Vx → Vc
  | .mk k n _ b _ _ l _ => .mk k n b (vsOf l)
def vsOf : List Vx → List Vc
  | [] => []
  | x :: r => x.v :: vsOf r
end
theorem vsOf_map : ∀ l : List Vx, vsOf l = l.map Vx.v
  | [] => rfl
  | x :: r => by rw [vsOf, vsOf_map r]; rfl
theorem vsOf_len (l : List Vx) : (vsOf l).length = l.length := by rw [vsOf_map]; simp
theorem vsOf_app (l m : List Vx) : vsOf (l ++ m) = vsOf l ++ vsOf m := by simp [vsOf_map]
def vxC : Vx → List Value
  | .mk k n pb b cb pl l cl => [.int .i64 k, .int .i64 n, .slice pb b.length cb, .slice pl l.length cl]
theorem vxC_len (x : Vx) : (vxC x).length = 4 := by cases x; rfl
theorem vxC_one (x : Vx) : ∀ v ∈ vxC x, v.oneCell' = true := by
  intro v hv
  cases x
  simp only [vxC, List.mem_cons, List.not_mem_nil, or_false] at hv
  rcases hv with rfl | rfl | rfl | rfl <;> rfl
def vxsC (l : List Vx) : List Value := l.flatMap vxC
theorem vxsC_len (l : List Vx) : (vxsC l).length = l.length * 4 := by
  induction l with
  | nil => rfl
  | cons r l ih => simp only [vxsC, List.flatMap_cons, List.length_append, vxC_len, List.length_cons] at *; omega
theorem vxsC_one (l : List Vx) : ∀ v ∈ vxsC l, v.oneCell' = true := by
  intro v hv
  obtain ⟨r, _, h⟩ := List.mem_flatMap.1 hv
  exact vxC_one r v h
theorem vxsC_at : ∀ (l : List Vx) (i : Nat) (r : Vx), l[i]? = some r → ∀ (j : Nat) (v : Value), (vxC r)[j]? = some v → (vxsC l)[i * 4 + j]? = some v
  | [], i, r, h, _, _, _ => by simp at h
  | x :: l, 0, r, h, j, v, hv => by
    simp at h; subst h
    have hj : j < (vxC x).length := (List.getElem?_eq_some_iff.1 hv).1
    simp only [vxsC, List.flatMap_cons, Nat.zero_mul, Nat.zero_add]
    rw [List.getElem?_append_left hj, hv]
  | x :: l, i + 1, r, h, j, v, hv => by
    have h' : l[i]? = some r := by simpa using h
    have e : (i + 1) * 4 + j = (vxC x).length + (i * 4 + j) := by rw [vxC_len]; omega
    simp only [vxsC, List.flatMap_cons]
    rw [e, List.getElem?_append_right (by omega), Nat.add_sub_cancel_left]
    exact vxsC_at l i r h' j v hv
theorem vxsC_app (a b : List Vx) : vxsC (a ++ b) = vxsC a ++ vxsC b := by simp [vxsC]
theorem vxsC_one' (x : Vx) : vxsC [x] = vxC x := by simp [vxsC]

/-- What is known of the numbers of a value. -/
structure VxNum (k n : Int) (b : List Nat) (cb ln cl : Nat) : Prop where
  n1 : -9223372036854775808 ≤ n
  n2 : n ≤ 9223372036854775807
  k1 : -9223372036854775808 ≤ k
  k2 : k ≤ 9223372036854775807
  bc : b.length ≤ cb ∧ cb ≤ 9223372036854775807
  lc : ln ≤ cl ∧ cl ≤ 9223372036854775807
  bl : b.length ≤ 1000000
  ll : ln ≤ 1000000
  by_ : ∀ c ∈ b, c < 256
mutual
def VxOk (w : World) (S : Nat → Prop) : Vx → Prop
  | .mk k n pb b cb pl l cl => RdC w S 1 pb b.length (u8s b) ∧ RdC w S 4 pl l.length (vxsC l) ∧ VxNum k n b cb l.length cl ∧ VxsOk w S l
def VxsOk (w : World) (S : Nat → Prop) : List Vx → Prop
  | [] => True
  | x :: r => VxOk w S x ∧ VxsOk w S r
end
theorem VxsOk_iff {w : World} {S : Nat → Prop} : ∀ l : List Vx, VxsOk w S l ↔ ∀ x ∈ l, VxOk w S x
  | [] => ⟨fun _ _ hx => (nomatch hx), fun _ => trivial⟩
  | x :: r => by
    rw [VxsOk, VxsOk_iff r]
    constructor
    · intro h y hy
      rcases List.mem_cons.1 hy with rfl | hy
      · exact h.1
      · exact h.2 y hy
    · exact fun h => ⟨h x (List.mem_cons_self ..), fun y hy => h y (List.mem_cons_of_mem _ hy)⟩
theorem VxOk.iff {w : World} {S : Nat → Prop} {k n : Int} {pb : Option Addr} {b : List Nat} {cb : Nat} {pl : Option Addr} {l : List Vx} {cl : Nat} :
    VxOk w S (.mk k n pb b cb pl l cl) ↔ RdC w S 1 pb b.length (u8s b) ∧ RdC w S 4 pl l.length (vxsC l) ∧ VxNum k n b cb l.length cl ∧ ∀ x ∈ l, VxOk w S x := by rw [VxOk, VxsOk_iff]
theorem VxOk.keep {w w' : World} {S : Nat → Prop} (hk : ∀ p : Addr, S p.block → w'.cell? p = w.cell? p) (x : Vx) : VxOk w S x → VxOk w' S x := by
  induction x using Vx.ind_ with
  | h k n pb b cb pl l cl ih =>
    intro h
    rw [VxOk.iff] at h ⊢
    exact ⟨h.1.keep hk, h.2.1.keep hk, h.2.2.1, fun x hx => ih x hx (h.2.2.2 x hx)⟩
theorem VxOk.mono {w : World} {S S' : Nat → Prop} (hS : ∀ b, S b → S' b) (x : Vx) : VxOk w S x → VxOk w S' x := by
  induction x using Vx.ind_ with
  | h k n pb b cb pl l cl ih =>
    intro h
    rw [VxOk.iff] at h ⊢
    exact ⟨h.1.mono hS, h.2.1.mono hS, h.2.2.1, fun x hx => ih x hx (h.2.2.2 x hx)⟩
/-- Old memory stays. -/
abbrev VxIn (w : World) (x : Vx) : Prop := VxOk w (fun b => b < w.heap.size) x
theorem VxOk.be {w w' : World} {x : Vx} (h : VxIn w x) (hb : Below w.heap.size w w') : VxIn w' x :=
  VxOk.mono (fun _ h => Nat.lt_of_lt_of_le h hb.size) x (VxOk.keep (fun _ hp => hb.cell hp) x h)
theorem VxOk.only {w w' : World} {S : Nat → Prop} {r : Option Nat} {x : Vx} (h : VxOk w S x) (hg : w.grownBy w' r) (hS : ∀ b, S b → b < w.heap.size ∧ some b ≠ r) : VxOk w' S x :=
  VxOk.keep (fun p hp => World.cell?_of_block (hg.block p.block (hS _ hp).1 (hS _ hp).2)) x h
/-- A row of values. -/
structure Vxs (w : World) (A : Option Addr) (n : Nat) (l : List Vx) : Prop where
  row : Reads w w.heap.size 4 A n (vxsC l)
  ok : ∀ x ∈ l, VxIn w x
theorem Vxs.n_ {w : World} {A : Option Addr} {n : Nat} {l : List Vx} (h : Vxs w A n l) : l.length = n := by
  have hl := h.row.1
  rw [vxsC_len] at hl
  omega
theorem Vxs.be {w w' : World} {A : Option Addr} {n : Nat} {l : List Vx} (h : Vxs w A n l) (hb : Below w.heap.size w w') : Vxs w' A n l :=
  ⟨(h.row.below hb).more hb.size, fun x hx => (h.ok x hx).be hb⟩
theorem Vxs.at_ {w : World} {A : Option Addr} {n : Nat} {l : List Vx} (h : Vxs w A n l) {i : Nat} {x : Vx} (hi : l[i]? = some x) :
    ∃ ad, A = some ad ∧ ad.block < w.heap.size ∧ (∀ j v, (vxC x)[j]? = some v → w.cell? ((ad.add (i * 4)).add j) = some v) ∧ VxIn w x := by
  have hl := h.n_
  have hil : i < l.length := (List.getElem?_eq_some_iff.1 hi).1
  obtain ⟨ad, e, hb, hc⟩ := h.row.2 (by omega)
  exact ⟨ad, e, hb, fun j v hv => by rw [add_of_add]; exact hc _ _ (vxsC_at l i x hi j v hv), h.ok x (List.mem_of_getElem? hi)⟩
theorem VxOk.parts {w : World} {k n : Int} {pb : Option Addr} {b : List Nat} {cb : Nat} {pl : Option Addr} {l : List Vx} {cl : Nat} (h : VxIn w (.mk k n pb b cb pl l cl)) :
    Reads w w.heap.size 1 pb b.length (u8s b) ∧ Vxs w pl l.length l ∧ VxNum k n b cb l.length cl := by
  have h := VxOk.iff.1 h
  exact ⟨h.1, ⟨h.2.1, h.2.2.2⟩, h.2.2.1⟩

theorem vxSize : (Tryd.prog.info? 26).map (·.size) = some 4 := by kernel_rfl
theorem vxInfo : (Tryd.prog.info? 26).map (fun i => (i.zero, i.size, i.bytes)) = some (some (.agg #[.int .i64 0, .int .i64 0, .slice none 0 0, .slice none 0 0]), 4, 64) := by kernel_rfl
section
variable {ops : Array Oper} {rest : List Oper} {op : Oper} {a : Act} {w : World} {Q : Exit → Act → World → Prop} {g : Nat}
/-- A value is loaded from any address. -/
theorem ld_vx {ad : Addr} {x : Vx} (hc : ∀ j v, (vxC x)[j]? = some v → w.cell? (ad.add j) = some v) (hgd : op.guard = none) (y : Operand) (ho : op.op = .load 26 y) (hy : a.eval y = .pointer (some ad))
    (h : wpList Tryd.prog ops Q rest (a.put op.dst (.agg (vxC x).toArray)) w) : wpList Tryd.prog ops Q (op :: rest) a w :=
  wpList_load_at hgd 26 y ho _ hy (vxC x) _ hc Tryd.underlying26 rfl (by rw [vxSize, vxC_len]) h
theorem ld_vx0 {cs : Array Value} (hB : Blk w g 26 cs) (hgd : op.guard = none) (x : Operand) (ho : op.op = .load 26 x) (hx : a.eval x = .pointer (some ⟨g, 0, none⟩)) (hs : cs.size = 4)
    (h : wpList Tryd.prog ops Q rest (a.put op.dst (.agg cs)) w) : wpList Tryd.prog ops Q (op :: rest) a w :=
  wpList_load_row hgd 26 x ho g hx 26 cs (0, 0) _ hB Tryd.underlying26 rfl (by rw [vxSize, hs]) h
end

end Go.Proofs.YtbnmbncjefnpiaaDoor
