/-
  Whole arrays into and out of a block that is known whole.
-/
import Derived.Test.YtigdfkpkogompaaDoorWordsF
import Derived.Deep.MidRow
import Derived.Deep.RegionHeld3
import Derived.Deep.DrawnRows
namespace Go.Proofs.YtigdfkpkogompaaDoor
open Go.RowKit

/-- A fact that no tactic looks into. -/
structure Sl (p : Prop) : Prop where
  out : p

theorem only_setCells (g : Nat) : ∀ (vs : List Value) (o : Nat) (a w : World), a.grownBy w (some g) → a.grownBy (w.setCells g o vs) (some g)
  | [], _, _, _, h => h
  | v :: r, o, a, _, h => only_setCells g r (o + 1) a _ (only_setCell h o v)
theorem size_setCells (g : Nat) : ∀ (vs : List Value) (o : Nat) (w : World), (w.setCells g o vs).heap.size = w.heap.size
  | [], _, _ => rfl
  | v :: r, o, w => by
    show ((w.setCell ⟨g, o, none⟩ v).setCells g (o + 1) r).heap.size = _
    rw [size_setCells g r (o + 1)]
    simp [World.setCell]
theorem set_splice (l : List Value) (v : Value) (r : List Value) (o : Nat) (h : o + (v :: r).length ≤ l.length) :
    (l.set o v).take (o + 1) ++ r ++ (l.set o v).drop (o + 1 + r.length) = l.take o ++ (v :: r) ++ l.drop (o + (v :: r).length) := by
  have hlen : (v :: r).length = r.length + 1 := rfl
  have h1 : (l.set o v).take (o + 1) = l.take o ++ [v] := by
    rw [List.take_succ_eq_append_getElem (by simp; omega), List.take_set_of_le (Nat.le_refl _)]
    simp
  have h2 : (l.set o v).drop (o + 1 + r.length) = l.drop (o + (v :: r).length) := by
    rw [List.drop_set_of_lt (by omega), hlen]
    congr 1; omega
  rw [h1, h2]; simp
theorem blk_setCells {g : Nat} {t : TypeId} : ∀ (vs : List Value) (o : Nat) (w : World) (l : List Value), Blk w g t l.toArray → o + vs.length ≤ l.length → Blk (w.setCells g o vs) g t (l.take o ++ vs ++ l.drop (o + vs.length)).toArray
  | [], o, w, l, h, _ => by
    have e : l.take o ++ [] ++ l.drop (o + ([] : List Value).length) = l := by simp
    rw [e]; exact h
  | v :: r, o, w, l, h, hl => by
    have h1 : Blk (w.setCell ⟨g, o, none⟩ v) g t (l.set o v).toArray := blk_set _ _ _ _ o v _ h (by simp)
    have hlen : (v :: r).length = r.length + 1 := rfl
    have h2 := blk_setCells r (o + 1) _ (l.set o v) h1 (by simp; omega)
    rw [set_splice l v r o hl] at h2
    exact h2

section
variable {P : Program} {ops : Array Oper} {rest : List Oper} {op : Oper} {a : Act} {w : World} {Q : Exit → Act → World → Prop}
theorem there_blk {g : Nat} {t : TypeId} {l : List Value} (h : Blk w g t l.toArray) {o n : Nat} (hl : o + n ≤ l.length) : w.there g o n := fun j hj =>
  ⟨by rw [h.cell]; simp; omega, h.frozen _⟩
theorem range_blk {g : Nat} {t : TypeId} {l : List Value} (h : Blk w g t l.toArray) (o n : Nat) : w.rangeAt g o ((l.drop o).take n) := fun j v hv => by
  rw [h.cell]
  rw [List.getElem?_take] at hv
  split at hv
  · rw [List.getElem?_drop] at hv; simpa using hv
  · cases hv
/-- An array (or a struct) is stored into a block that is known whole, from offset o on: the world behind it is a letter. -/
theorem wpList_store_blk (hgd : op.guard = none) (ty : TypeId) (x y : Operand) (ho : op.op = .store ty x y)
    (g o : Nat) (t : TypeId) (l vs : List Value) (hB : Blk w g t l.toArray) (hx : a.eval x = .pointer (some ⟨g, o, none⟩)) (hy : a.eval y = .agg vs.toArray)
    (hl : o + vs.length ≤ l.length) (hi : (P.info? ty).map (·.size) = some vs.length) (h1 : ∀ v ∈ vs, v.oneCell' = true)
    (h : ∀ w', Blk w' g t (l.take o ++ vs ++ l.drop (o + vs.length)).toArray → w.grownBy w' (some g) → w'.heap.size = w.heap.size → wpList P ops Q rest (a.put op.dst undef) w') : wpList P ops Q (op :: rest) a w :=
  wpList_store_mid hgd ty x y ho g o vs.toArray hx hy (there_blk hB (by simpa using hl)) (by simpa using hi) (all_oneCell_toArray h1)
    (h _ (blk_setCells vs o w l hB hl) (only_setCells g vs o w w (only_refl w _)) (size_setCells g vs o w))
/-- .. is loaded out of one. -/
theorem wpList_load_blk (hgd : op.guard = none) (ty : TypeId) (x : Operand) (ho : op.op = .load ty x)
    (g o n : Nat) (t : TypeId) (l : List Value) (d : TypeDesc) (hB : Blk w g t l.toArray) (hx : a.eval x = .pointer (some ⟨g, o, none⟩)) (hl : o + n ≤ l.length)
    (hu : P.underlying ty = some d) (hd : d.isRow = true) (hi : (P.info? ty).map (·.size) = some n)
    (h : wpList P ops Q rest (a.put op.dst (.agg ((l.drop o).take n).toArray)) w) : wpList P ops Q (op :: rest) a w :=
  wpList_load_mid hgd ty x ho g o hx ((l.drop o).take n) d (range_blk hB o n) hu hd (by rw [hi]; simp; omega) h
theorem wpList_load_vs (hgd : op.guard = none) (ty : TypeId) (x : Operand) (ho : op.op = .load ty x)
    (g o n : Nat) (t : TypeId) (l vs : List Value) (d : TypeDesc) (hB : Blk w g t l.toArray) (hx : a.eval x = .pointer (some ⟨g, o, none⟩)) (hv : (l.drop o).take n = vs) (hn : vs.length = n)
    (hu : P.underlying ty = some d) (hd : d.isRow = true) (hi : (P.info? ty).map (·.size) = some n)
    (h : wpList P ops Q rest (a.put op.dst (.agg vs.toArray)) w) : wpList P ops Q (op :: rest) a w :=
  wpList_load_mid hgd ty x ho g o hx vs d (by rw [← hv]; exact range_blk hB o n) hu hd (by rw [hi, hn]) h
/-- An array (or a struct) is stored into the block that was just made: the world behind it is a letter. -/
theorem wpList_store_fresh {w1 : World} (hgd : op.guard = none) (ty : TypeId) (x y : Operand) (ho : op.op = .store ty x y)
    (t : TypeId) (l vs : List Value) (cs : Array Value) (hcs : cs = l.toArray) (hx : a.eval x = .pointer (some ⟨w1.heap.size, 0, none⟩)) (hy : a.eval y = .agg vs.toArray)
    (hl : vs.length = l.length) (hi : (P.info? ty).map (·.size) = some vs.length) (h1 : ∀ v ∈ vs, v.oneCell' = true)
    (h : ∀ w', Blk w' w1.heap.size t vs.toArray → Below w1.heap.size w1 w' → w'.heap.size = w1.heap.size + 1 → wpList P ops Q rest (a.put op.dst undef) w') :
    wpList P ops Q (op :: rest) a (w1.alloc (.cells cs t)) := by
  subst hcs
  refine wpList_store_blk hgd ty x y ho w1.heap.size 0 t l vs (Blk.new _ _ _) hx hy (by omega) hi h1 fun w' h2 h3 h4 => ?_
  have e : l.take 0 ++ vs ++ l.drop (0 + vs.length) = vs := by simp [hl]
  rw [e] at h2
  exact h w' h2 (below_only (below_al (Below.refl _ _) _) h3 (by simp) (Nat.le_refl _)) (by rw [h4]; simp)
/-- A block is known whole behind an alloc of zeros (the list is given). -/
theorem blk_newl {w : World} {g : Nat} {t : TypeId} {l : List Value} {cs : Array Value} (hg : g = w.heap.size) (h : cs = l.toArray) : Blk (w.alloc (.cells cs t)) g t l.toArray := by subst hg h; exact Blk.new w t _
end

end Go.Proofs.YtigdfkpkogompaaDoor
