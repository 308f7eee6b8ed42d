/-
  A struct result that lies in memory, read out of a block that is known whole.
-/
import Derived.Test.YtigdfkpkogompaaDoorWordsB
import Derived.Laws.ResultCell
namespace Go.Proofs.YtigdfkpkogompaaDoor
open Go.RowKit

theorem Blk.be {w w' : World} {g : Nat} {t : TypeId} {cs : Array Value} (h : Blk w g t cs) (hb : Below w.heap.size w w') : Blk w' g t cs := h.below hb h.lt
theorem blk_set (w : World) (g : Nat) (t : TypeId) (cs : Array Value) (i : Nat) (u : Value) (cs' : Array Value) (h : Blk w g t cs) (e : cs.setIfInBounds i u = cs') : Blk (w.setCell ⟨g, i, none⟩ u) g t cs' := by
  subst e; exact h.set_ i u
theorem blk_set4 {w : World} {g : Nat} {t : TypeId} {a b c d a' b' c' d' : Value} (h : Blk w g t #[a, b, c, d]) :
    Blk ((((w.setCell ⟨g, 0, none⟩ a').setCell ⟨g, 1, none⟩ b').setCell ⟨g, 2, none⟩ c').setCell ⟨g, 3, none⟩ d') g t #[a', b', c', d'] :=
  blk_set _ _ _ _ 3 _ _ (blk_set _ _ _ _ 2 _ _ (blk_set _ _ _ _ 1 _ _ (blk_set _ _ _ _ 0 _ _ h rfl) rfl) rfl) rfl

theorem res_cell_tmp {fn : Func} {p u : Tmp} {ty : TypeId} (h : fn.results = #[.cell p ty, .tmp u]) (tmps : Array Value) (P : Program) (w : World) {g : Nat} {t : TypeId} {cs : Array Value} {fs : Array Field} {v : Value}
    (hp : tmps.getD p undef = .pointer (some ⟨g, 0, none⟩)) (hB : Blk w g t cs) (hu : P.underlying ty = some (.struct fs))
    (hi : (P.info? ty).map (·.size) = some cs.size) (hv : tmps.getD u undef = v) :
    (results fn tmps).run P w = .ok (.tuple #[.agg cs, v]) w := by
  rw [results_cell_tmp h, hp, hv]
  have hl := run_loadVar_row (P := P) w g t ty cs (0, 0) _ hB hu rfl hi
  simp [asAddr, Result.andThen, hl]
theorem res_cell {fn : Func} {p : Tmp} {ty : TypeId} (h : fn.results = #[.cell p ty]) (tmps : Array Value) (P : Program) (w : World) {g : Nat} {t : TypeId} {cs : Array Value} {fs : Array Field}
    (hp : tmps.getD p undef = .pointer (some ⟨g, 0, none⟩)) (hB : Blk w g t cs) (hu : P.underlying ty = some (.struct fs))
    (hi : (P.info? ty).map (·.size) = some cs.size) :
    (results fn tmps).run P w = .ok (.agg cs) w := by
  have hl := run_loadVar_row (P := P) w g t ty cs (0, 0) _ hB hu rfl hi
  have hp2 : tmps[p]?.getD undef = .pointer (some ⟨g, 0, none⟩) := by simpa using hp
  simp [results, h, hp2, asAddr, hl]

/-- What the call itself has made and still reads, beside old memory: blocks that are known whole. -/
def Keep (w wx : World) (L : List (Nat × TypeId × Array Value)) : Prop := Below w.heap.size w wx ∧ ∀ x ∈ L, Blk wx x.1 x.2.1 x.2.2
section
variable {w wx w' : World} {L : List (Nat × TypeId × Array Value)}
theorem Keep.start (w : World) : Keep w w [] := ⟨Below.refl _ _, fun x hx => by cases hx⟩
theorem Keep.al (h : Keep w wx L) (o : Obj) : Keep w (wx.alloc o) L := ⟨below_al h.1 o, fun x hx => (h.2 x hx).alloc o⟩
theorem Keep.dr (h : Keep w wx L) : Keep w wx.drew L := ⟨h.1.drew, fun x hx => (h.2 x hx).drew⟩
theorem Keep.be (h : Keep w wx L) (hb : Below wx.heap.size wx w') : Keep w w' L := ⟨below_tr h.1 hb, fun x hx => (h.2 x hx).be hb⟩
theorem Keep.new (h : Keep w wx L) (t : TypeId) (cs : Array Value) : Keep w (wx.alloc (.cells cs t)) ((wx.heap.size, t, cs) :: L) :=
  ⟨below_al h.1 _, fun x hx => by
    rcases List.mem_cons.1 hx with rfl | hx
    · exact Blk.new wx t cs
    · exact (h.2 x hx).alloc _⟩
theorem Keep.b0 {g : Nat} {t : TypeId} {cs : Array Value} (h : Keep w wx ((g, t, cs) :: L)) : Blk wx g t cs := h.2 _ (List.mem_cons_self ..)
theorem Keep.tl {x : Nat × TypeId × Array Value} (h : Keep w wx (x :: L)) : Keep w wx L := ⟨h.1, fun y hy => h.2 y (List.mem_cons_of_mem _ hy)⟩
end

end Go.Proofs.YtigdfkpkogompaaDoor
