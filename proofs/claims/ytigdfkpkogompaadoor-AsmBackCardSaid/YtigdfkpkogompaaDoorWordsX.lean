/-
  Whole loads inside a quiet head; three results of which the first lies in a cell.
-/
import Derived.Test.YtigdfkpkogompaaDoorWordsQ
import Derived.Test.YtigdfkpkogompaaDoorWordsS
import Derived.Test.YtigdfkpkogompaaDoorWordsG
namespace Go.Proofs.YtigdfkpkogompaaDoor
open Go.RowKit

theorem wpQuiet_loadW {P : Program} {ops : Array Oper} {C : World → Prop} {Q : Act → Prop} {a : Act} {o : Oper} {rest : List Oper} (hgd : Region.wanted o (yielded ops a.tmps) = true) (ty : TypeId) (x : Operand) (ho : o.op = .load ty x)
    (ad : Addr) (v : Value) (hx : a.eval x = .pointer (some ad)) (hL : ∀ w, C w → (loadVar ty ad).run P w = .ok v w) (h : wpQuiet P ops C Q rest (a.put o.dst v)) : wpQuiet P ops C Q (o :: rest) a := by
  unfold wpQuiet
  rw [if_pos hgd]
  refine ⟨v, fun w hw => ?_, h⟩
  unfold Oper.quietAt execOp
  simp only [ho, hx, Instr.loadAt, Instr.sureAddr, Sem.run_bind, Sem.run_pure, Result.andThen_ok, hL w hw]
  exact ⟨rfl, rfl⟩
/-- A block that is known whole is loaded whole, whatever was drawn. -/
theorem load_blk {P : Program} {w : World} {g : Nat} {t ty : TypeId} {cs : Array Value} {d : TypeDesc} (h : Blk w g t cs) (hu : P.underlying ty = some d) (hd : d.isRow = true) (hs : (P.info? ty).map (·.size) = some cs.size) :
    ∀ w', (∃ k, w' = w.drewN k) → (loadVar ty ⟨g, 0, none⟩).run P w' = .ok (.agg cs) w' := fun w' ⟨k, hk⟩ => by
  subst hk
  have hB := h.drewN k
  have := run_loadVar_at (P := P) (w.drewN k) ⟨g, 0, none⟩ ty cs.toList d (fun j v hv => by
    have e2 : (⟨g, 0, none⟩ : Addr).add j = ⟨g, j, none⟩ := by unfold Addr.add; split <;> simp_all
    rw [e2, hB.cell j]; simpa using hv) hu hd (by simpa using hs)
  simpa using this
theorem results_cell2 {fn : Func} {p u v : Tmp} {ty : TypeId} (h : fn.results = #[.cell p ty, .tmp u, .tmp v]) (tmps : Array Value) (P : Program) (w : World) {g : Nat} {t : TypeId} {cs : Array Value} {fs : Array Field} {x y : Value}
    (hp : tmps.getD p undef = .pointer (some ⟨g, 0, none⟩)) (hB : Blk w g t cs) (hu : P.underlying ty = some (.struct fs))
    (hi : (P.info? ty).map (·.size) = some cs.size) (hx : tmps.getD u undef = x) (hy : tmps.getD v undef = y) :
    (results fn tmps).run P w = .ok (.tuple #[.agg cs, x, y]) w := by
  have hl := run_loadVar_row (P := P) w g t ty cs (0, 0) _ hB hu rfl hi
  subst hx hy
  have hp2 : tmps[p]?.getD undef = .pointer (some ⟨g, 0, none⟩) := by simpa using hp
  simp [results, h, hp2, asAddr, hl]
/-- A whole store, by the operation's own law: the world behind it is a letter. -/
theorem wp_store_allB {P : Program} {o : Oper} {a : Act} {w : World} {K : Act → World → Prop} {Q : Exit → Act → World → Prop} (ty : TypeId) (x y : Operand) (ho : o.op = .store ty x y)
    (g : Nat) (t : TypeId) (l vs : List Value) (hB : Blk w g t l.toArray) (hx : a.eval x = .pointer (some ⟨g, 0, none⟩)) (hy : a.eval y = .agg vs.toArray)
    (hl : vs.length = l.length) (hi : (P.info? ty).map (·.size) = some vs.length) (h1 : ∀ v ∈ vs, v.oneCell' = true)
    (h : ∀ w', Blk w' g t vs.toArray → w.grownBy w' (some g) → w'.heap.size = w.heap.size → K (a.put o.dst undef) w') : o.wp P a w K Q := by
  have hb := blk_setCells vs 0 w l hB (by omega)
  rw [show l.take 0 ++ vs ++ l.drop (0 + vs.length) = vs by simp [hl]] at hb
  exact wp_store_mid ty x y ho g 0 vs.toArray hx hy (there_blk hB (by simp; omega)) (by simpa using hi) (all_oneCell_toArray h1)
    (h _ hb (only_setCells g vs 0 w w (only_refl w _)) (size_setCells g vs 0 w))
/-- As the kit's store into the middle of a row: the world behind it is a letter. -/
theorem wpList_store_midL {P : Program} {ops : Array Oper} {rest : List Oper} {op : Oper} {a : Act} {w : World} {Q : Exit → Act → World → Prop} (hgd : op.guard = none) (ty : TypeId) (x y : Operand) (ho : op.op = .store ty x y)
    (b o : Nat) (cells : Array Value) (hx : a.eval x = .pointer (some ⟨b, o, none⟩)) (hy : a.eval y = .agg cells)
    (ht : w.there b o cells.size) (hi : (P.info? ty).map (·.size) = some cells.size) (h1 : cells.all (·.oneCell') = true)
    (h : ∀ w', Sl (w.setCells b o cells.toList = w') → wpList P ops Q rest (a.put op.dst undef) w') : wpList P ops Q (op :: rest) a w :=
  wpList_store_mid hgd ty x y ho b o cells hx hy ht hi h1 (h _ ⟨rfl⟩)

end Go.Proofs.YtigdfkpkogompaaDoor
