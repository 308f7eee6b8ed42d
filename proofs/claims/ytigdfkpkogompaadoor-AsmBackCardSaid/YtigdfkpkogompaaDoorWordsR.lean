/-
  A region that draws its order: operations that only read, in the text's order; then allocs that are free among each other, in any order; then what follows.
-/
import Derived.Test.YtigdfkpkogompaaDoorWordsQ
import Derived.OrdersHeld
namespace Go.Proofs.YtigdfkpkogompaaDoor
open Go Go.RowKit

section
variable {P : Program} {ops : Array Oper} {md : Region.Mode} {S : World → Prop} {Q : Exit → Act → World → Prop}

def wpTake (P : Program) (ops : Array Oper) (S : World → Prop) (K : Act → Prop) : List Oper → Act → Prop
  | [], a => K a
  | o :: rest, a => ∃ v, YieldsIf P ops S o v a ∧ wpTake P ops S K rest (a.put o.dst v)
theorem wpTake_step {K : Act → Prop} {o : Oper} {rest : List Oper} {a : Act} (v : Value) (hw : Region.wanted o (yielded ops a.tmps) = true) (hv : ∀ w, S w → (execOp a.eval o).run P w = .ok (.value v) w)
    (h : wpTake P ops S K rest (a.put o.dst v)) : wpTake P ops S K (o :: rest) a := ⟨v, .inl ⟨hw, hv⟩, h⟩
def takeB (md : Region.Mode) (ops : Array Oper) : Nat → Nat → Array Bool → Bool
  | 0, _, _ => true
  | f + 1, k, s => (Region.ready md ops s).contains k && Region.free md ops s k && takeB md ops f (k + 1) (s.setIfInBounds k true)
def markN : Nat → Nat → Array Bool → Array Bool
  | 0, _, s => s
  | f + 1, k, s => markN f (k + 1) (s.setIfInBounds k true)

theorem wpAnyH_takes (hsel : Region.noSelect ops = true) (hQ : ∀ c a d v w, Q (.panic c) (Act.put a d v) w → Q (.panic c) a w) {g : Nat} {w : World} (hS : S w) :
    ∀ (l : List Oper) (k : Nat) (s : Array Bool) (a : Act), (∀ j, j < l.length → l[j]? = ops[k + j]?) → takeB md ops l.length k s = true →
      wpTake P ops S (fun a' => wpAnyH P md ops Q S g (markN l.length k s) a' w) l a → wpAnyH P md ops Q S (l.length + g) s a w := by
  intro l
  induction l with
  | nil => intro k s a _ _ h; rw [List.length_nil, Nat.zero_add]; exact h
  | cons o l ih =>
    intro k s a hl hB h
    obtain ⟨v, hy, h⟩ := h
    have h0 : ops[k]? = some o := by simpa using (hl 0 (by simp)).symm
    simp only [List.length_cons, takeB, Bool.and_eq_true] at hB
    obtain ⟨⟨hr, hf⟩, hB⟩ := hB
    rw [List.length_cons, show l.length + 1 + g = (l.length + g) + 1 by omega]
    exact wpAnyH_take h0 hsel hf hr (fun c a w => hQ c a _ _ w) hy hS (ih (k + 1) _ _ (fun j hj => by have := hl (j + 1) (by simp; omega); simpa [Nat.add_assoc, Nat.add_comm 1 j] using this) hB h)

/-- What the allocs have done: G tells which slot holds which new block. -/
structure Done (w0 w : World) (N : Nat) (t : TypeId) (zc : Array Value) (all : List (Nat × Tmp)) (a0 a : Act) (G : Tmp → Option Nat) : Prop where
  defers : a.defers = a0.defers
  size : a.tmps.size = a0.tmps.size
  same : ∀ k, G k = none → a.tmps[k]? = a0.tmps[k]?
  ptr : ∀ k b, G k = some b → k < a0.tmps.size → a.tmps[k]? = some (.pointer (some ⟨b, 0, none⟩))
  inj : ∀ k k' b, G k = some b → G k' = some b → k = k'
  blk : ∀ k b, G k = some b → N ≤ b ∧ Blk w b t zc
  only : ∀ k b, G k = some b → ∃ i, (i, k) ∈ all
  below : Below N w0 w

def allocB (md : Region.Mode) (ops : Array Oper) (E : Array Bool) : Nat → List (Nat × Tmp) → Array Bool → Bool
  | 0, rem, s => rem.isEmpty && (s == E)
  | f + 1, rem, s => !rem.isEmpty && decide (Region.ready md ops s = rem.map (·.1)) && rem.all fun x => allocB md ops E f (rem.filter fun y => y.1 != x.1) (s.setIfInBounds x.1 true)

theorem wpAnyH_allocs {w0 : World} {N : Nat} {t : TypeId} {zc : Array Value} {all : List (Nat × Tmp)} {a0 : Act} {E : Array Bool} {g : Nat}
    (hal : ∀ x ∈ all, x.2 < a0.tmps.size ∧ ∃ o, ops[x.1]? = some o ∧ o.dst = some x.2 ∧ (∀ ys, Region.wanted o ys = true) ∧ ∀ ρ w, (execOp ρ o).run P w = .ok (.value (.pointer (some ⟨w.heap.size, 0, none⟩))) (w.alloc (.cells zc t)))
    (huq : ∀ x ∈ all, ∀ y ∈ all, x.2 = y.2 → x.1 = y.1) (hN : N = w0.heap.size) (hSb : ∀ w, Below N w0 w → S w)
    (hE : ∀ G a w, Done w0 w N t zc all a0 a G → (∀ x ∈ all, ∃ b, G x.2 = some b) → wpAnyH P md ops Q S g E a w) :
    ∀ (f : Nat) (rem : List (Nat × Tmp)) (s : Array Bool) (a : Act) (w : World) (G : Tmp → Option Nat), allocB md ops E f rem s = true → (∀ x ∈ rem, x ∈ all) → (∀ x ∈ rem, G x.2 = none) → (∀ x ∈ all, x ∈ rem ∨ ∃ b, G x.2 = some b) →
      Done w0 w N t zc all a0 a G → wpAnyH P md ops Q S (f + g) s a w := by
  subst hN
  intro f
  induction f with
  | zero =>
    intro rem s a w G hB _ _ hall hd
    simp only [allocB, Bool.and_eq_true, List.isEmpty_iff, beq_iff_eq] at hB
    obtain ⟨rfl, rfl⟩ := hB
    rw [Nat.zero_add]
    exact hE G a w hd (fun x hx => by
      rcases hall x hx with h | h
      · cases h
      · exact h)
  | succ f ih =>
    intro rem s a w G hB hin hno hall hd
    simp only [allocB, Bool.and_eq_true, Bool.not_eq_true', decide_eq_true_eq, List.all_eq_true] at hB
    obtain ⟨⟨hne, hr⟩, hB⟩ := hB
    rw [show f + 1 + g = (f + g) + 1 by omega]
    refine wpAnyH_all hr (by cases rem <;> simp_all) fun i hi => ?_
    obtain ⟨x, hx, rfl⟩ := List.mem_map.1 hi
    obtain ⟨hxs, o, ho, hdst, hw, hex⟩ := hal x (hin x hx)
    have hnew : (w.alloc (.cells zc t)).heap.size = w.heap.size + 1 := by simp
    have hd' : Done w0 (w.alloc (.cells zc t)) w0.heap.size t zc all a0 (a.put (some x.2) (.pointer (some ⟨w.heap.size, 0, none⟩))) (fun k => if k = x.2 then some w.heap.size else G k) := by
      refine ⟨hd.defers, by simp [Act.put, hd.size], fun k hk => ?_, fun k b hk hks => ?_, fun k k' b hk hk' => ?_, fun k b hk => ?_, fun k b hk => ?_, below_al hd.below _⟩
      · by_cases e : k = x.2
        · simp [e] at hk
        · rw [if_neg e] at hk
          rw [← hd.same k hk]
          simp [Act.put, Ne.symm e]
      · by_cases e : k = x.2
        · rw [if_pos e] at hk
          cases hk
          subst e
          simp [Act.put, hd.size, hxs]
        · rw [if_neg e] at hk
          rw [← hd.ptr k b hk hks]
          simp [Act.put, Ne.symm e]
      · by_cases e : k = x.2 <;> by_cases e' : k' = x.2
        · rw [e, e']
        · rw [if_pos e] at hk; rw [if_neg e'] at hk'
          cases hk
          exact absurd (hd.blk k' _ hk').2.lt (by omega)
        · rw [if_neg e] at hk; rw [if_pos e'] at hk'
          cases hk'
          exact absurd (hd.blk k _ hk).2.lt (by omega)
        · rw [if_neg e] at hk; rw [if_neg e'] at hk'
          exact hd.inj k k' b hk hk'
      · by_cases e : k = x.2
        · rw [if_pos e] at hk
          cases hk
          exact ⟨hd.below.size, Blk.new w t zc⟩
        · rw [if_neg e] at hk
          exact ⟨(hd.blk k b hk).1, (hd.blk k b hk).2.alloc _⟩
      · by_cases e : k = x.2
        · exact ⟨x.1, by rw [e]; exact hin x hx⟩
        · rw [if_neg e] at hk; exact hd.only k b hk
    have next := ih (rem.filter fun y => y.1 != x.1) (s.setIfInBounds x.1 true) _ _ _ (hB x hx) (fun y hy => hin y (List.mem_filter.1 hy).1) (fun y hy => by
        obtain ⟨h1, h2⟩ := List.mem_filter.1 hy
        have h3 : y.2 ≠ x.2 := fun e => by have := huq y (hin y h1) x (hin x hx) e; simp [this] at h2
        exact (if_neg h3).trans (hno y h1)) (fun y hy => by
        by_cases e : y.2 = x.2
        · exact .inr ⟨w.heap.size, if_pos e⟩
        · rcases hall y hy with h | ⟨b, h⟩
          · refine .inl (List.mem_filter.2 ⟨h, ?_⟩)
            obtain ⟨-, o', ho', hdst', -⟩ := hal y hy
            have : y.1 ≠ x.1 := fun e1 => by
              rw [e1, ho] at ho'
              cases ho'
              rw [hdst] at hdst'
              injection hdst' with hdst'
              exact e hdst'.symm
            simpa using this
          · exact .inr ⟨b, (if_neg e).trans h⟩) hd'
    unfold wpOp
    rw [ho]
    simp only [hw, if_true, Oper.wp, hex, Oper.upon]
    rw [hdst]
    exact .inl ⟨hSb _ hd'.below, next⟩

/-- A store of a whole array, the only operation that may come up. -/
theorem wpAnyH_store {k g : Nat} {E : Array Bool} {o : Oper} {a : Act} {w : World} (hr : Region.ready md ops E = [k]) (ho : ops[k]? = some o) (hw : Region.wanted o (yielded ops a.tmps) = true) (ty : TypeId) (x y : Operand) (hop : o.op = .store ty x y) (hd : o.dst = none)
    (b : Nat) (t : TypeId) (l vs : List Value) (hB : Blk w b t l.toArray) (hx : a.eval x = .pointer (some ⟨b, 0, none⟩)) (hy : a.eval y = .agg vs.toArray) (hl : vs.length = l.length) (hi : (P.info? ty).map (·.size) = some vs.length) (h1 : ∀ v ∈ vs, v.oneCell' = true)
    (h : ∀ w', Blk w' b t vs.toArray → w.grownBy w' (some b) → S w' ∧ wpAnyH P md ops Q S g (E.setIfInBounds k true) a w') : wpAnyH P md ops Q S (g + 1) E a w := by
  refine wpAnyH_all hr (by simp) fun i hi' => ?_
  obtain rfl : i = k := by simpa using hi'
  have hB' := blk_setCells vs 0 w l hB (by omega)
  have e : l.take 0 ++ vs ++ l.drop (0 + vs.length) = vs := by simp [hl]
  rw [e] at hB'
  have h2 := h _ hB' (only_setCells b vs 0 w w (only_refl w _))
  unfold wpOp
  rw [ho]
  simp only [hw, if_true]
  refine .inl (wp_store_mid ty x y hop b 0 vs.toArray hx hy (there_blk hB (by simp; omega)) (by simpa using hi) (all_oneCell_toArray h1) ?_)
  rw [hd]
  exact h2

/-- Four slots, four new blocks: the frame. -/
theorem Done.four {w0 w : World} {N : Nat} {t : TypeId} {zc : Array Value} {a0 a : Act} {G : Tmp → Option Nat} {i0 i1 i2 i3 : Nat} {d0 d1 d2 d3 : Tmp} (h : Done w0 w N t zc [(i0, d0), (i1, d1), (i2, d2), (i3, d3)] a0 a G)
    {b0 b1 b2 b3 : Nat} (g0 : G d0 = some b0) (g1 : G d1 = some b1) (g2 : G d2 = some b2) (g3 : G d3 = some b3) (n01 : d0 ≠ d1) (n02 : d0 ≠ d2) (n03 : d0 ≠ d3) (n12 : d1 ≠ d2) (n13 : d1 ≠ d3) (n23 : d2 ≠ d3) :
    a = (((a0.put (some d0) (.pointer (some ⟨b0, 0, none⟩))).put (some d1) (.pointer (some ⟨b1, 0, none⟩))).put (some d2) (.pointer (some ⟨b2, 0, none⟩))).put (some d3) (.pointer (some ⟨b3, 0, none⟩)) := by
  have key : ∀ k : Nat, a.tmps[k]? = ((((a0.put (some d0) (.pointer (some ⟨b0, 0, none⟩))).put (some d1) (.pointer (some ⟨b1, 0, none⟩))).put (some d2) (.pointer (some ⟨b2, 0, none⟩))).put (some d3) (.pointer (some ⟨b3, 0, none⟩))).tmps[k]? := by
    intro k
    by_cases hk : k < a0.tmps.size
    · cases hG : G k with
      | none =>
        have e0 : d0 ≠ k := fun e => by rw [e, hG] at g0; cases g0
        have e1 : d1 ≠ k := fun e => by rw [e, hG] at g1; cases g1
        have e2 : d2 ≠ k := fun e => by rw [e, hG] at g2; cases g2
        have e3 : d3 ≠ k := fun e => by rw [e, hG] at g3; cases g3
        rw [h.same k hG]
        simp [Act.put, e0, e1, e2, e3]
      | some b =>
        rw [h.ptr k b hG hk]
        obtain ⟨i, hi⟩ := h.only k b hG
        simp only [List.mem_cons, Prod.mk.injEq, List.not_mem_nil, or_false] at hi
        rcases hi with ⟨-, rfl⟩ | ⟨-, rfl⟩ | ⟨-, rfl⟩ | ⟨-, rfl⟩
        · rw [hG] at g0; cases g0
          simp [Act.put, Ne.symm n01, Ne.symm n02, Ne.symm n03, hk]
        · rw [hG] at g1; cases g1
          simp [Act.put, Ne.symm n12, Ne.symm n13, hk]
        · rw [hG] at g2; cases g2
          simp [Act.put, Ne.symm n23, hk]
        · rw [hG] at g3; cases g3
          simp [Act.put, hk]
    · rw [Array.getElem?_eq_none (by rw [h.size]; omega), Array.getElem?_eq_none (by simp [Act.put]; omega)]
  have ht := Array.ext_getElem? key
  have hdf := h.defers
  cases a
  cases a0
  simp only [Act.put] at ht hdf ⊢
  subst ht hdf
  rfl

/-- The beginning: the first n operations only read, where S holds. -/
theorem wp_region_takes {id n : Nat} {l : List Oper} {a : Act} {w : World} (S : World → Prop) (hm : P.follows .mixedOrders = true)
    (hB : (Region.noSelect l.toArray && decide (n ≤ l.length) && takeB .any l.toArray n 0 (Array.replicate l.length false)) = true)
    (hQ : ∀ c a d v w, Q (.panic c) (Act.put a d v) w → Q (.panic c) a w) (hS : S { w with drawn := w.drawn + 1 })
    (h : wpTake P l.toArray S (fun a' => wpAnyH P .any l.toArray Q S (l.length - n) (markN n 0 (Array.replicate l.length false)) a' { w with drawn := w.drawn + 1 }) (l.take n) a) : (Code.region id l.toArray true).wp P Q a w := by
  simp only [Bool.and_eq_true, decide_eq_true_eq] at hB
  obtain ⟨⟨hsel, hn⟩, hB⟩ := hB
  have htl : (l.take n).length = n := by simp; omega
  have hsz : l.toArray.size = l.length := by simp
  refine wp_region_held (S := S) hm ?_
  have := wpAnyH_takes (md := .any) (Q := Q) hsel hQ (g := l.length - n) hS (l.take n) 0 (Array.replicate l.length false) a (fun j hj => by
    rw [htl] at hj
    simp [hj]) (by rw [htl]; exact hB) (by rw [htl]; exact h)
  rw [htl, show n + (l.length - n) = l.length by omega] at this
  rw [hsz]
  exact this
end

end Go.Proofs.YtigdfkpkogompaaDoor
