/-
  The contracts of archive.copied, Find's predicate, slices.IndexFunc at entries, Find.
-/
import Derived.Test.YticcphppnmoogaaDoorArcA
import Derived.Test.YticcphppnmoogaaDoorWordsV
namespace Go.Proofs.YticcphppnmoogaaDoor
open Go.RowKit
attribute [local go_sem ↓] Go.wp_at_zero Go.wp_at_succ

theorem wp_of_call {P : Program} {o : Oper} {a : Act} {w : World} {K : Act → World → Prop} {Q : Exit → Act → World → Prop} {f : FuncId} {args : Array Value} {R : Ending → World → Prop} (hrun : (execOp a.eval o).run P w = .ok (.enter f args) w)
    (hc : Calls P f args w R) (h : ∀ e w', R e w' → ∃ v, e = .returned v ∧ K (a.put o.dst v) w') : o.wp P a w K Q := by
  unfold Oper.wp
  rw [hrun]
  refine hc.mono fun e w' hr => ?_
  obtain ⟨v, rfl, hk⟩ := h e w' hr
  exact hk
/-- A whole row stored over a whole row. -/
theorem wpList_store_all {P : Program} {ops : Array Oper} {rest : List Oper} {op : Oper} {a : Act} {w : World} {Q : Exit → Act → World → Prop} (hgd : op.guard = none) (ty : TypeId) (x y : Operand) (ho : op.op = .store ty x y)
    (g : Nat) (t : TypeId) (l vs : List Value) (hB : Blk w g t l.toArray) (hx : a.eval x = .pointer (some ⟨g, 0, none⟩)) (hy : a.eval y = .agg vs.toArray)
    (hl : vs.length = l.length) (hi : (P.info? ty).map (·.size) = some vs.length) (h1 : ∀ v ∈ vs, v.oneCell' = true)
    (h : ∀ w', Blk w' g t vs.toArray → w.grownBy w' (some g) → w'.heap.size = w.heap.size → wpList P ops Q rest (a.put op.dst undef) w') : wpList P ops Q (op :: rest) a w := by
  refine wpList_store_blk hgd ty x y ho g 0 t l vs hB hx hy (by omega) hi h1 fun w' h2 h3 h4 => ?_
  have e : l.take 0 ++ vs ++ l.drop (0 + vs.length) = vs := by simp [hl]
  rw [e] at h2
  exact h w' h2 h3 h4
theorem four_one (a b c d : Value) (ha : a.oneCell' = true) (hb : b.oneCell' = true) (hc : c.oneCell' = true) (hd : d.oneCell' = true) : ∀ v ∈ [a, b, c, d], v.oneCell' = true := by
  intro v hv
  simp only [List.mem_cons, List.not_mem_nil, or_false] at hv
  rcases hv with rfl | rfl | rfl | rfl <;> assumption
section
variable {ops : Array Oper} {rest : List Oper} {op : Oper} {a : Act} {w : World} {Q : Exit → Act → World → Prop} {g : Nat}
theorem ld_en {cs : Array Value} (hB : Blk w g 34 cs) (hgd : op.guard = none) (x : Operand) (ho : op.op = .load 34 x) (hx : a.eval x = .pointer (some ⟨g, 0, none⟩)) (hs : cs.size = 4)
    (h : wpList Tryd.prog ops Q rest (a.put op.dst (.agg cs)) w) : wpList Tryd.prog ops Q (op :: rest) a w :=
  wpList_load_row hgd 34 x ho g hx 34 cs (0, 0) _ hB Tryd.underlying34 rfl (by rw [enSize, hs]) h
theorem st_en {cs : Array Value} (hB : Blk w g 34 cs) (hgd : op.guard = none) (x y : Operand) (ho : op.op = .store 34 x y) (pa : Option Addr) (pl pc : Nat) (k m : Int) (da : Option Addr) (dl dc : Nat)
    (hx : a.eval x = .pointer (some ⟨g, 0, none⟩)) (hy : a.eval y = .agg #[.slice pa pl pc, .int .i64 k, .int .i64 m, .slice da dl dc]) (hs : cs.size = 4)
    (h : ∀ w', Blk w' g 34 #[.slice pa pl pc, .int .i64 k, .int .i64 m, .slice da dl dc] → w.grownBy w' (some g) → w'.heap.size = w.heap.size → wpList Tryd.prog ops Q rest (a.put op.dst undef) w') : wpList Tryd.prog ops Q (op :: rest) a w :=
  wpList_store_all hgd 34 x y ho g 34 cs.toList [.slice pa pl pc, .int .i64 k, .int .i64 m, .slice da dl dc] hB hx hy (by simp [hs]) enSize (four_one _ _ _ _ rfl rfl rfl rfl) h
end

theorem ownCapS {w : World} {base n size c : Nat} {e : TypeId} {A : Option Addr} {xs : List Value} (h : w.ownsRow base e size (.slice A n c) n xs) : n ≤ c ∧ c ≤ 9223372036854775807 := by
  obtain ⟨A', c', e, h1, h2⟩ := ownCap h
  injection e with _ _ e
  subst e
  unfold maxLen at h2
  exact ⟨h1, by omega⟩
/-- Its two slices are rows of the call's own. -/
structure ExOwn (w : World) (base : Nat) (x : Ex) : Prop where
  path : w.ownsRow base 9 1 (.slice x.pa x.e.path.length x.pc) x.e.path.length (strV x.e.path)
  data : w.ownsRow base 5 1 (.slice x.da x.e.data.length x.dc) x.e.data.length (u8s x.e.data)
  plen : x.e.path.length ≤ 100
  slen : ∀ s ∈ x.e.path, s.size ≤ 1000
  dlen : x.e.data.length ≤ 100000
  byte : ∀ b ∈ x.e.data, b < 256
theorem ExOwn.ok {w : World} {base : Nat} {x : Ex} (h : ExOwn w base x) : ExOk w w.heap.size x :=
  ⟨Reads.of_own h.path, Reads.of_own h.data, ownCapS h.path, ownCapS h.data, h.plen, h.slen, h.dlen, h.byte⟩
theorem ExOwn.far {w w' : World} {base g : Nat} {x : Ex} (h : ExOwn w base x) (hg : w.grownBy w' (some g)) (hb : g < base) : ExOwn w' base x :=
  ⟨h.path.kept hg (ownNe h.path hb), h.data.kept hg (ownNe h.data hb), h.plen, h.slen, h.dlen, h.byte⟩
theorem ExOwn.be {w w' : World} {base : Nat} {x : Ex} (h : ExOwn w base x) (hb : Below w.heap.size w w') : ExOwn w' base x :=
  ⟨own_below h.path hb, own_below h.data hb, h.plen, h.slen, h.dlen, h.byte⟩
theorem ExOwn.mono {w : World} {b b' : Nat} {x : Ex} (h : ExOwn w b x) (hb : b' ≤ b) : ExOwn w b' x :=
  ⟨own_mono h.path hb, own_mono h.data hb, h.plen, h.slen, h.dlen, h.byte⟩

def CopyPost (w : World) (e0 : En) (e : Ending) (w' : World) : Prop := ∃ x' : Ex, e = .returned (.agg (exC x').toArray) ∧ x'.e = e0 ∧ ExOwn w' w.heap.size x' ∧ Below w.heap.size w w'

set_option maxRecDepth 100000 in
set_option maxHeartbeats 2000000 in
theorem copied_any (x : Ex) (w : World) (hx : ExOk w w.heap.size x) : Calls Tryd.prog 25 #[.agg (exC x).toArray] w (CopyPost w x.e) := by
  obtain ⟨⟨p, k, m, d⟩, pa, pc, da, dc⟩ := x
  have hp : Reads w w.heap.size 1 pa p.length (strV p) := hx.path
  have hd : Reads w w.heap.size 1 da d.length (u8s d) := hx.data
  have hpl : p.length ≤ 100 := hx.plen
  have hdl : d.length ≤ 100000 := hx.dlen
  have HX := Sl.mk hx
  clear hx
  show Calls Tryd.prog 25 #[.agg #[.slice pa p.length pc, .int .i64 k, .int .i64 m, .slice da d.length dc]] w _
  obtain ⟨pl, hple⟩ : ∃ pl, p.length = pl := ⟨_, rfl⟩
  obtain ⟨dl, hdle⟩ : ∃ dl, d.length = dl := ⟨_, rfl⟩
  have HPL := Sl.mk hple
  have HDL := Sl.mk hdle
  rw [hple] at hp hpl ⊢
  rw [hdle] at hd hdl ⊢
  clear hple hdle
  obtain ⟨w0, hw0⟩ : ∃ w0, (w.alloc (.cells #[.slice pa pl pc, .int .i64 k, .int .i64 m, .slice da dl dc] 34)).alloc (.cells #[.slice none 0 0, .int .i64 0, .int .i64 0, .slice none 0 0] 34) = w0 := ⟨_, rfl⟩
  have hE0 : Below w.heap.size w w0 := by rw [← hw0]; exact below_al (below_al (Below.refl _ _) _) _
  have hX0 : Blk w0 w.heap.size 34 #[.slice pa pl pc, .int .i64 k, .int .i64 m, .slice da dl dc] := by rw [← hw0]; exact (Blk.new _ _ _).alloc _
  have hZ0 : Blk w0 (w.heap.size + 1) 34 #[.slice none 0 0, .int .i64 0, .int .i64 0, .slice none 0 0] := by rw [← hw0]; exact Blk.new' (by simp)
  have hs0 : w0.heap.size = w.heap.size + 2 := by rw [← hw0]; simp
  go_enter Tryd.func25, Tryd.ntmps25
  go_wp2_with fail
  clear hw0
  obtain ⟨wd, hwd⟩ : ∃ wd, w0.drew = wd := ⟨_, rfl⟩
  have hXd : Blk wd w.heap.size 34 #[.slice pa pl pc, .int .i64 k, .int .i64 m, .slice da dl dc] := by rw [← hwd]; exact hX0.drew
  have hZd : Blk wd (w.heap.size + 1) 34 #[.slice none 0 0, .int .i64 0, .int .i64 0, .slice none 0 0] := by rw [← hwd]; exact hZ0.drew
  have hEd : Below w.heap.size w wd := by rw [← hwd]; exact hE0.drew
  have hsd : wd.heap.size = w.heap.size + 2 := by rw [← hwd]; exact hs0
  have HSF : Sl (∀ W, Below wd.heap.size wd W → W.cell? ⟨w.heap.size, 0, none⟩ = some (.slice pa pl pc) ∧ W.cell? ⟨w.heap.size, 3, none⟩ = some (.slice da dl dc)) := Sl.mk (fun W hW =>
    ⟨(hXd.below hW hXd.lt).cell 0, (hXd.below hW hXd.lt).cell 3⟩)
  refine wp_region_X (fun W => Below wd.heap.size wd W) [7, 8, 9] (by kernel_rfl) (by rw [hwd]; exact Below.refl _ _) (fun hS => ?_)
  rw [hwd] at hS ⊢
  clear hwd hX0 hZ0 hE0 hs0
  have eg1 : ∀ args w, (callFunc 38 args).run Tryd.prog w = .ok (.enter 38 args) w := enters_of Tryd.func38 (by kernel_rfl) rfl
  have eg2 : ∀ args w, (callFunc 39 args).run Tryd.prog w = .ok (.enter 39 args) w := enters_of Tryd.func39 (by kernel_rfl) rfl
  refine wpAnyX_S (i := 0) (v := ?_) rfl (by kernel_rfl) (by kernel_rfl) (by kernel_rfl) (by kernel_rfl) (fun _ _ _ h => h) (Or.inl ⟨by rfl, ?_⟩) hS ?_
  rotate_left 1
  · (intro w' hw'; (first | rw [hw'] | (have hw2 := HSF.out w' hw') | skip); go_simp; (try with_reducible rfl))
  simp only [Act.put, List.setIfInBounds_toArray, List.set_cons_zero, List.set_cons_succ]
  refine wpAnyX_S (i := 3) (v := ?_) rfl (by kernel_rfl) (by kernel_rfl) (by kernel_rfl) (by kernel_rfl) (fun _ _ _ h => h) (Or.inl ⟨by rfl, ?_⟩) hS ?_
  rotate_left 1
  · (intro w' hw'; (first | rw [hw'] | (have hw2 := HSF.out w' hw') | skip); go_simp; (try with_reducible rfl))
  simp only [Act.put, List.setIfInBounds_toArray, List.set_cons_zero, List.set_cons_succ]
  refine wpAnyX_S (i := 1) (v := ?_) rfl (by kernel_rfl) (by kernel_rfl) (by kernel_rfl) (by kernel_rfl) (fun _ _ _ h => h) (Or.inl ⟨by rfl, ?_⟩) hS ?_
  rotate_left 1
  · (intro w' hw'; (first | rw [hw'] | (have hw2 := HSF.out w' hw') | skip); go_simp; (try with_reducible rfl))
  simp only [Act.put, List.setIfInBounds_toArray, List.set_cons_zero, List.set_cons_succ]
  refine wpAnyX_S (i := 4) (v := ?_) rfl (by kernel_rfl) (by kernel_rfl) (by kernel_rfl) (by kernel_rfl) (fun _ _ _ h => h) (Or.inl ⟨by rfl, ?_⟩) hS ?_
  rotate_left 1
  · (intro w' hw'; (first | rw [hw'] | (have hw2 := HSF.out w' hw') | skip); go_simp; (try with_reducible rfl))
  simp only [Act.put, List.setIfInBounds_toArray, List.set_cons_zero, List.set_cons_succ]
  refine wpAnyX_oneL (k := 2) rfl (by kernel_rfl) rfl ?_
  refine wp_of_call (f := 38) (args := #[.slice pa pl pc]) (by go_simp) (sclone_any pa pl pc p wd (by omega) ((hp.below hEd).more (by omega))) (fun e w1 hq => ?_)
  obtain ⟨v1, rfl, hown1, hB1⟩ := hq
  obtain ⟨A1, c1, rfl⟩ := ownForm hown1
  refine ⟨_, rfl, fun _ => hB1, ?_⟩
  simp only [Act.put, List.setIfInBounds_toArray, List.set_cons_zero, List.set_cons_succ]
  have hS1 : Below wd.heap.size wd w1 := hB1
  clear hS
  have hS := hS1
  refine wpAnyX_S (i := 6) (v := ?_) rfl (by kernel_rfl) (by kernel_rfl) (by kernel_rfl) (by kernel_rfl) (fun _ _ _ h => h) (Or.inl ⟨by rfl, ?_⟩) hS ?_
  rotate_left 1
  · (intro w' hw'; (first | rw [hw'] | (have hw2 := HSF.out w' hw') | skip); go_simp; (try with_reducible rfl))
  simp only [Act.put, List.setIfInBounds_toArray, List.set_cons_zero, List.set_cons_succ]
  refine wpAnyX_oneL (k := 5) rfl (by kernel_rfl) rfl ?_
  refine wp_of_call (f := 39) (args := #[.slice da dl dc]) (by go_simp) (bclone_any da dl dc d w1 (by omega) (((hd.below hEd).more (by omega)).below hB1 |>.more hB1.size)) (fun e w2 hq => ?_)
  obtain ⟨v2, rfl, hown2, hB2⟩ := hq
  obtain ⟨A2, c2, rfl⟩ := ownForm hown2
  refine ⟨_, rfl, fun _ => below_tr hB1 hB2, ?_⟩
  simp only [Act.put, List.setIfInBounds_toArray, List.set_cons_zero, List.set_cons_succ]
  refine wpAnyX_tailF [7, 8, 9] (by kernel_rfl) (by rfl) (by rfl) (by rfl) ?_
  simp only [List.filterMap_cons, List.filterMap_nil, List.getElem?_cons_succ, List.getElem?_cons_zero]
  have hB12 := below_tr hB1 hB2
  have hX2 := hXd.below hB12 hXd.lt
  have hZ2 := hZd.below hB12 hZd.lt
  have hE2 : Below w.heap.size w w2 := below_tr hEd hB12
  have ho1 := own_below hown1 hB2
  have ho2 := own_mono (b' := wd.heap.size) hown2 hB1.size
  clear hS hS1 hB1 hB2 hB12 hown1 hown2 hEd hXd hZd HSF hp hd
  have c0 := hX2.cell 0
  have f0 := hX2.frozen 0
  have f3 := hX2.frozen 3
  have c3 := hX2.cell 3
  have hX3 : Blk (w2.setCell ⟨w.heap.size, 0, none⟩ (.slice A1 pl c1)) w.heap.size 34 #[.slice A1 pl c1, .int .i64 k, .int .i64 m, .slice da dl dc] := blk_set _ _ _ _ 0 _ _ hX2 rfl
  have hX4 : Blk ((w2.setCell ⟨w.heap.size, 0, none⟩ (.slice A1 pl c1)).setCell ⟨w.heap.size, 3, none⟩ (.slice A2 dl c2)) w.heap.size 34 #[.slice A1 pl c1, .int .i64 k, .int .i64 m, .slice A2 dl c2] := blk_set _ _ _ _ 3 _ _ hX3 rfl
  have hG4 : w2.grownBy ((w2.setCell ⟨w.heap.size, 0, none⟩ (.slice A1 pl c1)).setCell ⟨w.heap.size, 3, none⟩ (.slice A2 dl c2)) (some w.heap.size) := only_setCell (only_setCell (only_refl _ _) _ _) _ _
  have hZ4 := blk_only hZ2 hG4 (by omega)
  have HG4 := Sl.mk hG4
  have HO := Sl.mk (And.intro ho1 ho2)
  have HE2 := Sl.mk hE2
  clear ho1 ho2 hG4 hZ2 hX2 hX3 hE2
  go_wp2_with fail
  refine NoPanic.normal ?_
  go_wp2_with (first | refine ld_en hX4 rfl (.tmp 1) rfl rfl rfl ?_ | refine st_en hZ4 rfl (.tmp 2) (.tmp 11) rfl A1 pl c1 k m A2 dl c2 rfl rfl rfl ?_)
  intro w5 hZ5 hG5 _
  obtain ⟨ho1, ho2⟩ := HO.out
  have ho1' := (ho1.kept HG4.out (ownNe ho1 (by omega))).kept hG5 (ownNe ho1 (by omega))
  have ho2' := (ho2.kept HG4.out (ownNe ho2 (by omega))).kept hG5 (ownNe ho2 (by omega))
  have hE4 := below_only HE2.out HG4.out HE2.out.size (Nat.le_refl _)
  have hE5 := below_only hE4 hG5 hE4.size (by omega)
  have HF := Sl.mk (And.intro hE5 (And.intro ho1' ho2'))
  clear ho1 ho2 ho1' ho2' hE4 hE5 hG5 hX4 hZ4
  go_wp2_with fail
  refine bodyPost_ret (res_cell Tryd.results25 _ _ _ rfl hZ5 Tryd.underlying34 enSize) rfl ?_
  obtain ⟨hE5, ho1, ho2⟩ := HF.out
  have hx := HX.out
  refine ⟨⟨⟨p, k, m, d⟩, A1, c1, A2, c2⟩, ?_, rfl, ?_, hE5⟩
  · show Ending.returned (.agg #[.slice A1 pl c1, .int .i64 k, .int .i64 m, .slice A2 dl c2]) = .returned (.agg #[.slice A1 p.length c1, .int .i64 k, .int .i64 m, .slice A2 d.length c2])
    rw [HPL.out, HDL.out]
  · rw [← HPL.out] at ho1
    rw [← HDL.out] at ho2
    exact ⟨own_mono ho1 (by omega), own_mono ho2 (by omega), hx.plen, hx.slen, hx.dlen, hx.byte⟩

end Go.Proofs.YticcphppnmoogaaDoor
