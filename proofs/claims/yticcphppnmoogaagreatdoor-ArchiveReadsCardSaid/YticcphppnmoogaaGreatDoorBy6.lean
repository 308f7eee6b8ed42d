/-
  The contracts of archive.copied, Find's predicate, slices.IndexFunc at entries, Find.
  The contracts of Find's predicate, slices.IndexFunc at entries, Find.
  The contracts of the six checks of an entry.
-/
import Derived.Test.YticcphppnmoogaaGreatDoorBy4
import Derived.Test.YticcphppnmoogaaGreatDoorBy5
import Derived.Laws.IdiomStrings
import Derived.Laws.BytesArg

namespace Go.Proofs.YticcphppnmoogaaGreatDoor
open Go.RowKit
attribute [local go_sem ↓] Go.wp_at_zero Go.wp_at_succ

theorem wp_of_call {P : Program} {o : Oper} {a : Act} {w : World} {K : Act → World → Prop} {Q : Exit → Act → World → Prop} {f : FuncId} {args : Array Value} {R : Ending → World → Prop} (hrun : (execOp a.eval o).run P w = .ok (.enter f args) w)
    (hc : Calls P f args w R) (h : ∀ e w', R e w' → ∃ v, e = .returned v ∧ K (a.put o.dst v) w') : o.wp P a w K Q := by
  unfold Oper.wp
  rw [hrun]
  refine hc.mono fun e w' hr => ?_
  obtain ⟨v, rfl, hk⟩ := h e w' hr
  exact hk
/-- A whole row stored over a whole row. -/
theorem wpList_store_all {P : Program} {ops : Array Oper} {rest : List Oper} {op : Oper} {a : Act} {w : World} {Q : Exit → Act → World → Prop} (hgd : op.guard = none) (ty : TypeId) (x y : Operand) (ho : op.op = .store ty x y)
    (g : Nat) (t : TypeId) (l vs : List Value) (hB : Blk w g t l.toArray) (hx : a.eval x = .pointer (some ⟨g, 0, none⟩)) (hy : a.eval y = .agg vs.toArray)
    (hl : vs.length = l.length) (hi : (P.info? ty).map (·.size) = some vs.length) (h1 : ∀ v ∈ vs, v.oneCell' = true)
    (h : ∀ w', Blk w' g t vs.toArray → w.grownBy w' (some g) → w'.heap.size = w.heap.size → wpList P ops Q rest (a.put op.dst undef) w') : wpList P ops Q (op :: rest) a w := by
  refine wpList_store_blk hgd ty x y ho g 0 t l vs hB hx hy (by omega) hi h1 fun w' h2 h3 h4 => ?_
  have e : l.take 0 ++ vs ++ l.drop (0 + vs.length) = vs := by simp [hl]
  rw [e] at h2
  exact h w' h2 h3 h4
theorem four_one (a b c d : Value) (ha : a.oneCell' = true) (hb : b.oneCell' = true) (hc : c.oneCell' = true) (hd : d.oneCell' = true) : ∀ v ∈ [a, b, c, d], v.oneCell' = true := by
  intro v hv
  simp only [List.mem_cons, List.not_mem_nil, or_false] at hv
  rcases hv with rfl | rfl | rfl | rfl <;> assumption
section
variable {ops : Array Oper} {rest : List Oper} {op : Oper} {a : Act} {w : World} {Q : Exit → Act → World → Prop} {g : Nat}
theorem ld_en {cs : Array Value} (hB : Blk w g 40 cs) (hgd : op.guard = none) (x : Operand) (ho : op.op = .load 40 x) (hx : a.eval x = .pointer (some ⟨g, 0, none⟩)) (hs : cs.size = 4)
    (h : wpList Tryz.prog ops Q rest (a.put op.dst (.agg cs)) w) : wpList Tryz.prog ops Q (op :: rest) a w :=
  wpList_load_row hgd 40 x ho g hx 40 cs (0, 0) _ hB Tryz.underlying40 rfl (by rw [enSize, hs]) h
theorem st_en {cs : Array Value} (hB : Blk w g 40 cs) (hgd : op.guard = none) (x y : Operand) (ho : op.op = .store 40 x y) (pa : Option Addr) (pl pc : Nat) (k m : Int) (da : Option Addr) (dl dc : Nat)
    (hx : a.eval x = .pointer (some ⟨g, 0, none⟩)) (hy : a.eval y = .agg #[.slice pa pl pc, .int .i64 k, .int .i64 m, .slice da dl dc]) (hs : cs.size = 4)
    (h : ∀ w', Blk w' g 40 #[.slice pa pl pc, .int .i64 k, .int .i64 m, .slice da dl dc] → w.grownBy w' (some g) → w'.heap.size = w.heap.size → wpList Tryz.prog ops Q rest (a.put op.dst undef) w') : wpList Tryz.prog ops Q (op :: rest) a w :=
  wpList_store_all hgd 40 x y ho g 40 cs.toList [.slice pa pl pc, .int .i64 k, .int .i64 m, .slice da dl dc] hB hx hy (by simp [hs]) enSize (four_one _ _ _ _ rfl rfl rfl rfl) h
end

theorem ownCapS {w : World} {base n size c : Nat} {e : TypeId} {A : Option Addr} {xs : List Value} (h : w.ownsRow base e size (.slice A n c) n xs) : n ≤ c ∧ c ≤ 9223372036854775807 := by
  obtain ⟨A', c', e, h1, h2⟩ := ownCap h
  injection e with _ _ e
  subst e
  unfold maxLen at h2
  exact ⟨h1, by omega⟩
/-- Its two slices are rows of the call's own. -/
structure ExOwn (w : World) (base : Nat) (x : Ex) : Prop where
  path : w.ownsRow base 9 1 (.slice x.pa x.e.path.length x.pc) x.e.path.length (strV x.e.path)
  data : w.ownsRow base 5 1 (.slice x.da x.e.data.length x.dc) x.e.data.length (u8s x.e.data)
  plen : x.e.path.length ≤ 100
  slen : ∀ s ∈ x.e.path, s.size ≤ 1000
  dlen : x.e.data.length ≤ 100000
  byte : ∀ b ∈ x.e.data, b < 256
theorem ExOwn.ok {w : World} {base : Nat} {x : Ex} (h : ExOwn w base x) : ExOk w w.heap.size x :=
  ⟨Reads.of_own h.path, Reads.of_own h.data, ownCapS h.path, ownCapS h.data, h.plen, h.slen, h.dlen, h.byte⟩
theorem ExOwn.far {w w' : World} {base g : Nat} {x : Ex} (h : ExOwn w base x) (hg : w.grownBy w' (some g)) (hb : g < base) : ExOwn w' base x :=
  ⟨h.path.kept hg (ownNe h.path hb), h.data.kept hg (ownNe h.data hb), h.plen, h.slen, h.dlen, h.byte⟩
theorem ExOwn.be {w w' : World} {base : Nat} {x : Ex} (h : ExOwn w base x) (hb : Below w.heap.size w w') : ExOwn w' base x :=
  ⟨own_below h.path hb, own_below h.data hb, h.plen, h.slen, h.dlen, h.byte⟩
theorem ExOwn.mono {w : World} {b b' : Nat} {x : Ex} (h : ExOwn w b x) (hb : b' ≤ b) : ExOwn w b' x :=
  ⟨own_mono h.path hb, own_mono h.data hb, h.plen, h.slen, h.dlen, h.byte⟩

def CopyPost (w : World) (e0 : En) (e : Ending) (w' : World) : Prop := ∃ x' : Ex, e = .returned (.agg (exC x').toArray) ∧ x'.e = e0 ∧ ExOwn w' w.heap.size x' ∧ Below w.heap.size w w'

set_option maxRecDepth 100000 in
set_option maxHeartbeats 2000000 in
theorem copied_any (x : Ex) (w : World) (hx : ExOk w w.heap.size x) : Calls Tryz.prog 99 #[.agg (exC x).toArray] w (CopyPost w x.e) := by
  obtain ⟨⟨p, k, m, d⟩, pa, pc, da, dc⟩ := x
  have hp : Reads w w.heap.size 1 pa p.length (strV p) := hx.path
  have hd : Reads w w.heap.size 1 da d.length (u8s d) := hx.data
  have hpl : p.length ≤ 100 := hx.plen
  have hdl : d.length ≤ 100000 := hx.dlen
  have HX := Sl.mk hx
  clear hx
  show Calls Tryz.prog 99 #[.agg #[.slice pa p.length pc, .int .i64 k, .int .i64 m, .slice da d.length dc]] w _
  obtain ⟨pl, hple⟩ : ∃ pl, p.length = pl := ⟨_, rfl⟩
  obtain ⟨dl, hdle⟩ : ∃ dl, d.length = dl := ⟨_, rfl⟩
  have HPL := Sl.mk hple
  have HDL := Sl.mk hdle
  rw [hple] at hp hpl ⊢
  rw [hdle] at hd hdl ⊢
  clear hple hdle
  obtain ⟨w0, hw0⟩ : ∃ w0, (w.alloc (.cells #[.slice pa pl pc, .int .i64 k, .int .i64 m, .slice da dl dc] 40)).alloc (.cells #[.slice none 0 0, .int .i64 0, .int .i64 0, .slice none 0 0] 40) = w0 := ⟨_, rfl⟩
  have hE0 : Below w.heap.size w w0 := by rw [← hw0]; exact below_al (below_al (Below.refl _ _) _) _
  have hX0 : Blk w0 w.heap.size 40 #[.slice pa pl pc, .int .i64 k, .int .i64 m, .slice da dl dc] := by rw [← hw0]; exact (Blk.new _ _ _).alloc _
  have hZ0 : Blk w0 (w.heap.size + 1) 40 #[.slice none 0 0, .int .i64 0, .int .i64 0, .slice none 0 0] := by rw [← hw0]; exact Blk.new' (by simp)
  have hs0 : w0.heap.size = w.heap.size + 2 := by rw [← hw0]; simp
  go_enter Tryz.func99, Tryz.ntmps99
  go_wp2_with fail
  clear hw0
  obtain ⟨wd, hwd⟩ : ∃ wd, w0.drew = wd := ⟨_, rfl⟩
  have hXd : Blk wd w.heap.size 40 #[.slice pa pl pc, .int .i64 k, .int .i64 m, .slice da dl dc] := by rw [← hwd]; exact hX0.drew
  have hZd : Blk wd (w.heap.size + 1) 40 #[.slice none 0 0, .int .i64 0, .int .i64 0, .slice none 0 0] := by rw [← hwd]; exact hZ0.drew
  have hEd : Below w.heap.size w wd := by rw [← hwd]; exact hE0.drew
  have hsd : wd.heap.size = w.heap.size + 2 := by rw [← hwd]; exact hs0
  have HSF : Sl (∀ W, Below wd.heap.size wd W → W.cell? ⟨w.heap.size, 0, none⟩ = some (.slice pa pl pc) ∧ W.cell? ⟨w.heap.size, 3, none⟩ = some (.slice da dl dc)) := Sl.mk (fun W hW =>
    ⟨(hXd.below hW hXd.lt).cell 0, (hXd.below hW hXd.lt).cell 3⟩)
  refine wp_region_X (fun W => Below wd.heap.size wd W) [7, 8, 9] (by kernel_rfl) (by rw [hwd]; exact Below.refl _ _) (fun hS => ?_)
  rw [hwd] at hS ⊢
  clear hwd hX0 hZ0 hE0 hs0
  have eg1 : ∀ args w, (callFunc 95 args).run Tryz.prog w = .ok (.enter 95 args) w := enters_of Tryz.func95 (by kernel_rfl) rfl
  have eg2 : ∀ args w, (callFunc 38 args).run Tryz.prog w = .ok (.enter 38 args) w := enters_of Tryz.func38 (by kernel_rfl) rfl
  refine wpAnyX_S (i := 0) (v := ?_) rfl (by kernel_rfl) (by kernel_rfl) (by kernel_rfl) (by kernel_rfl) (fun _ _ _ h => h) (Or.inl ⟨by rfl, ?_⟩) hS ?_
  rotate_left 1
  · (intro w' hw'; (first | rw [hw'] | (have hw2 := HSF.out w' hw') | skip); go_simp; (try with_reducible rfl))
  simp only [Act.put, List.setIfInBounds_toArray, List.set_cons_zero, List.set_cons_succ]
  refine wpAnyX_S (i := 3) (v := ?_) rfl (by kernel_rfl) (by kernel_rfl) (by kernel_rfl) (by kernel_rfl) (fun _ _ _ h => h) (Or.inl ⟨by rfl, ?_⟩) hS ?_
  rotate_left 1
  · (intro w' hw'; (first | rw [hw'] | (have hw2 := HSF.out w' hw') | skip); go_simp; (try with_reducible rfl))
  simp only [Act.put, List.setIfInBounds_toArray, List.set_cons_zero, List.set_cons_succ]
  refine wpAnyX_S (i := 1) (v := ?_) rfl (by kernel_rfl) (by kernel_rfl) (by kernel_rfl) (by kernel_rfl) (fun _ _ _ h => h) (Or.inl ⟨by rfl, ?_⟩) hS ?_
  rotate_left 1
  · (intro w' hw'; (first | rw [hw'] | (have hw2 := HSF.out w' hw') | skip); go_simp; (try with_reducible rfl))
  simp only [Act.put, List.setIfInBounds_toArray, List.set_cons_zero, List.set_cons_succ]
  refine wpAnyX_S (i := 4) (v := ?_) rfl (by kernel_rfl) (by kernel_rfl) (by kernel_rfl) (by kernel_rfl) (fun _ _ _ h => h) (Or.inl ⟨by rfl, ?_⟩) hS ?_
  rotate_left 1
  · (intro w' hw'; (first | rw [hw'] | (have hw2 := HSF.out w' hw') | skip); go_simp; (try with_reducible rfl))
  simp only [Act.put, List.setIfInBounds_toArray, List.set_cons_zero, List.set_cons_succ]
  refine wpAnyX_oneL (k := 2) rfl (by kernel_rfl) rfl ?_
  refine wp_of_call (f := 95) (args := #[.slice pa pl pc]) (by go_simp) (sclone_any pa pl pc p wd (by omega) ((hp.below hEd).more (by omega))) (fun e w1 hq => ?_)
  obtain ⟨v1, rfl, hown1, hB1⟩ := hq
  obtain ⟨A1, c1, rfl⟩ := ownForm hown1
  refine ⟨_, rfl, fun _ => hB1, ?_⟩
  simp only [Act.put, List.setIfInBounds_toArray, List.set_cons_zero, List.set_cons_succ]
  have hS1 : Below wd.heap.size wd w1 := hB1
  clear hS
  have hS := hS1
  refine wpAnyX_S (i := 6) (v := ?_) rfl (by kernel_rfl) (by kernel_rfl) (by kernel_rfl) (by kernel_rfl) (fun _ _ _ h => h) (Or.inl ⟨by rfl, ?_⟩) hS ?_
  rotate_left 1
  · (intro w' hw'; (first | rw [hw'] | (have hw2 := HSF.out w' hw') | skip); go_simp; (try with_reducible rfl))
  simp only [Act.put, List.setIfInBounds_toArray, List.set_cons_zero, List.set_cons_succ]
  refine wpAnyX_oneL (k := 5) rfl (by kernel_rfl) rfl ?_
  refine wp_of_call (f := 38) (args := #[.slice da dl dc]) (by go_simp) (bclone_any da dl dc d w1 (by omega) (((hd.below hEd).more (by omega)).below hB1 |>.more hB1.size)) (fun e w2 hq => ?_)
  obtain ⟨v2, rfl, hown2, hB2⟩ := hq
  obtain ⟨A2, c2, rfl⟩ := ownForm hown2
  refine ⟨_, rfl, fun _ => below_tr hB1 hB2, ?_⟩
  simp only [Act.put, List.setIfInBounds_toArray, List.set_cons_zero, List.set_cons_succ]
  refine wpAnyX_tailF [7, 8, 9] (by kernel_rfl) (by rfl) (by rfl) (by rfl) ?_
  simp only [List.filterMap_cons, List.filterMap_nil, List.getElem?_cons_succ, List.getElem?_cons_zero]
  have hB12 := below_tr hB1 hB2
  have hX2 := hXd.below hB12 hXd.lt
  have hZ2 := hZd.below hB12 hZd.lt
  have hE2 : Below w.heap.size w w2 := below_tr hEd hB12
  have ho1 := own_below hown1 hB2
  have ho2 := own_mono (b' := wd.heap.size) hown2 hB1.size
  clear hS hS1 hB1 hB2 hB12 hown1 hown2 hEd hXd hZd HSF hp hd
  have c0 := hX2.cell 0
  have f0 := hX2.frozen 0
  have f3 := hX2.frozen 3
  have c3 := hX2.cell 3
  have hX3 : Blk (w2.setCell ⟨w.heap.size, 0, none⟩ (.slice A1 pl c1)) w.heap.size 40 #[.slice A1 pl c1, .int .i64 k, .int .i64 m, .slice da dl dc] := blk_set _ _ _ _ 0 _ _ hX2 rfl
  have hX4 : Blk ((w2.setCell ⟨w.heap.size, 0, none⟩ (.slice A1 pl c1)).setCell ⟨w.heap.size, 3, none⟩ (.slice A2 dl c2)) w.heap.size 40 #[.slice A1 pl c1, .int .i64 k, .int .i64 m, .slice A2 dl c2] := blk_set _ _ _ _ 3 _ _ hX3 rfl
  have hG4 : w2.grownBy ((w2.setCell ⟨w.heap.size, 0, none⟩ (.slice A1 pl c1)).setCell ⟨w.heap.size, 3, none⟩ (.slice A2 dl c2)) (some w.heap.size) := only_setCell (only_setCell (only_refl _ _) _ _) _ _
  have hZ4 := blk_only hZ2 hG4 (by omega)
  have HG4 := Sl.mk hG4
  have HO := Sl.mk (And.intro ho1 ho2)
  have HE2 := Sl.mk hE2
  clear ho1 ho2 hG4 hZ2 hX2 hX3 hE2
  go_wp2_with fail
  refine NoPanic.normal ?_
  go_wp2_with (first | refine ld_en hX4 rfl (.tmp 1) rfl rfl rfl ?_ | refine st_en hZ4 rfl (.tmp 2) (.tmp 11) rfl A1 pl c1 k m A2 dl c2 rfl rfl rfl ?_)
  intro w5 hZ5 hG5 _
  obtain ⟨ho1, ho2⟩ := HO.out
  have ho1' := (ho1.kept HG4.out (ownNe ho1 (by omega))).kept hG5 (ownNe ho1 (by omega))
  have ho2' := (ho2.kept HG4.out (ownNe ho2 (by omega))).kept hG5 (ownNe ho2 (by omega))
  have hE4 := below_only HE2.out HG4.out HE2.out.size (Nat.le_refl _)
  have hE5 := below_only hE4 hG5 hE4.size (by omega)
  have HF := Sl.mk (And.intro hE5 (And.intro ho1' ho2'))
  clear ho1 ho2 ho1' ho2' hE4 hE5 hG5 hX4 hZ4
  go_wp2_with fail
  refine bodyPost_ret (res_cell Tryz.results99 _ _ _ rfl hZ5 Tryz.underlying40 enSize) rfl ?_
  obtain ⟨hE5, ho1, ho2⟩ := HF.out
  have hx := HX.out
  refine ⟨⟨⟨p, k, m, d⟩, A1, c1, A2, c2⟩, ?_, rfl, ?_, hE5⟩
  · show Ending.returned (.agg #[.slice A1 pl c1, .int .i64 k, .int .i64 m, .slice A2 dl c2]) = .returned (.agg #[.slice A1 p.length c1, .int .i64 k, .int .i64 m, .slice A2 d.length c2])
    rw [HPL.out, HDL.out]
  · rw [← HPL.out] at ho1
    rw [← HDL.out] at ho2
    exact ⟨own_mono ho1 (by omega), own_mono ho2 (by omega), hx.plen, hx.slen, hx.dlen, hx.byte⟩

end Go.Proofs.YticcphppnmoogaaGreatDoor

namespace Go.Proofs.YticcphppnmoogaaGreatDoor
open Go.RowKit
attribute [local go_sem ↓] Go.wp_at_zero Go.wp_at_succ

theorem below_of_drewN {w w' : World} (h : ∃ k, w' = w.drewN k) : Below w.heap.size w w' := by
  obtain ⟨k, rfl⟩ := h
  exact below_drN (Below.refl _ _) k

theorem pred_any (x : Ex) (A2 : Option Addr) (m d : Nat) (q : List ByteArray) (g : Nat) (w : World) (hx : ExOk w w.heap.size x) (hm : m ≤ 1000) (hg : g < w.heap.size) (hc : w.cell? ⟨g, 0, none⟩ = some (.slice A2 m d)) (hq : Reads w w.heap.size 1 A2 m (strV q)) :
    Calls Tryz.prog 98 #[.agg (exC x).toArray, .pointer (some ⟨g, 0, none⟩)] w fun e w' => e = .returned (.bool (eqP x.e.path q)) ∧ Below w.heap.size w w' := by
  obtain ⟨⟨p, k, mo, da⟩, pa, pc, dd, dc⟩ := x
  have hp : Reads w w.heap.size 1 pa p.length (strV p) := hx.path
  have hpl : p.length ≤ 100 := hx.plen
  clear hx
  show Calls Tryz.prog 98 #[.agg #[.slice pa p.length pc, .int .i64 k, .int .i64 mo, .slice dd da.length dc], .pointer (some ⟨g, 0, none⟩)] w _
  obtain ⟨pl, hple⟩ : ∃ pl, p.length = pl := ⟨_, rfl⟩
  obtain ⟨dl, hdle⟩ : ∃ dl, da.length = dl := ⟨_, rfl⟩
  rw [hple] at hp hpl ⊢
  rw [hdle]
  clear hple hdle
  have hE := below_al (Below.refl w.heap.size w) (.cells #[.slice pa pl pc, .int .i64 k, .int .i64 mo, .slice dd dl dc] 40)
  have HS := Sl.mk (same_any pa A2 pl pc m d p q (w.alloc (.cells #[.slice pa pl pc, .int .i64 k, .int .i64 mo, .slice dd dl dc] 40)) (by omega) (by omega) ((hp.below hE).more hE.size) ((hq.below hE).more hE.size))
  have c1 := (World.cell?_alloc_lt w (.cells #[.slice pa pl pc, .int .i64 k, .int .i64 mo, .slice dd dl dc] 40) ⟨g, 0, none⟩ hg).trans hc
  clear hp hq hc
  go_enter Tryz.func98, Tryz.ntmps98
  go_wp2_with fail
  refine HS.out.mono ?_
  rintro e w' ⟨rfl, kk, rfl⟩
  go_wp2_with fail
  go_ret
  exact ⟨rfl, below_drN hE kk⟩

def idxE (q : List ByteArray) : List Ex → Nat
  | [] => 0
  | x :: l => if eqP x.e.path q = true then 0 else idxE q l + 1
def placE (q : List ByteArray) (l : List Ex) : Int := if idxE q l < l.length then idxE q l else -1
theorem idxE_le (q : List ByteArray) : ∀ l : List Ex, idxE q l ≤ l.length
  | [] => Nat.le_refl _
  | x :: l => by unfold idxE; split <;> simp [idxE_le q l]
theorem idxE_lt {q : List ByteArray} : ∀ {l : List Ex} {x : Ex}, x ∈ l → eqP x.e.path q = true → idxE q l < l.length
  | y :: l, x, hx, he => by
    unfold idxE
    rcases List.mem_cons.1 hx with rfl | hx
    · rw [if_pos he]; simp
    · split
      · simp
      · have := idxE_lt hx he
        simp; omega

section
variable {P : Program} {ops : Array Oper} {rest : List Oper} {op : Oper} {a : Act} {w : World} {Q : Exit → Act → World → Prop}
/-- A struct is loaded from any address. -/
theorem ld_ex {ad : Addr} {x : Ex} (hc : ∀ j v, (exC x)[j]? = some v → w.cell? (ad.add j) = some v) (hgd : op.guard = none) (y : Operand) (ho : op.op = .load 40 y) (hy : a.eval y = .pointer (some ad))
    (h : wpList Tryz.prog ops Q rest (a.put op.dst (.agg (exC x).toArray)) w) : wpList Tryz.prog ops Q (op :: rest) a w :=
  wpList_load_at hgd 40 y ho _ hy (exC x) _ hc Tryz.underlying40 rfl (by rw [enSize, exC_len]) h
end

set_option maxHeartbeats 1000000 in
theorem indexe_any (A2 : Option Addr) (m d : Nat) (q : List ByteArray) (g : Nat) (A : Option Addr) (n c : Nat) (l : List Ex) (w : World) (hn : n ≤ 1000000) (hE : Exs w A n l) (hm : m ≤ 1000) (hg : g < w.heap.size) (hc : w.cell? ⟨g, 0, none⟩ = some (.slice A2 m d)) (hq : Reads w w.heap.size 1 A2 m (strV q)) :
    Calls Tryz.prog 97 #[.slice A n c, .func (.func 98) #[] #[.pointer (some ⟨g, 0, none⟩)]] w fun e w' => e = .returned (.int .i64 (placE q l)) ∧ Below w.heap.size w w' := by
  have HL := Sl.mk hE.n_
  have HE := Sl.mk hE
  have HQ := Sl.mk hq
  have HC := Sl.mk hc
  clear hE hq hc
  go_enter Tryz.func97, Tryz.ntmps97
  go_wp2_with fail
  go_loopw [5, 8] (fun _ s8 wr => ∃ i : Nat, i ≤ n ∧ s8 = .int .i64 i ∧ Sl (idxE q l = i + idxE q (l.drop i)) ∧ Below w.heap.size w wr) (fun _ s8 _ => n - (intOf s8).toNat)
  case atStart => exact ⟨0, Nat.zero_le _, rfl, ⟨by simp⟩, Below.refl _ _⟩
  case round =>
    obtain ⟨i, hi, rfl, HI, hB⟩ := hrel
    by_cases hil : i < n
    · obtain ⟨x, hx⟩ : ∃ x, l[i]? = some x := ⟨_, List.getElem?_eq_getElem (by rw [HL.out]; exact hil)⟩
      obtain ⟨ad, rfl, hbl, hld, hok⟩ := (HE.out.be hB).at_ hx
      have hd0 : wr.cell? (ad.add (i * 4)) = some (.slice x.pa x.e.path.length x.pc) := by have := hld 0 _ rfl; simpa [Addr.add] using this
      have HD := Sl.mk (drop_cons1 hx)
      have HP := Sl.mk (pred_any x A2 m d q g wr hok hm (Nat.lt_of_lt_of_le hg hB.size) ((hB.cell (p := ⟨g, 0, none⟩) hg).trans HC.out) ((HQ.out.below hB).more hB.size))
      clear hx hok
      go_wp2_with (refine ld_ex hld rfl (.tmp 14) rfl rfl ?_)
      refine HP.out.mono ?_
      rintro e w2 ⟨rfl, hB2⟩
      have hE2 := below_tr hB hB2
      clear hB hld hB2 hd0
      cases eR : eqP x.e.path q
      · have HN := Sl.mk (show idxE q l = (i + 1) + idxE q (l.drop (i + 1)) by rw [HI.out, HD.out, idxE, if_neg (by rw [eR]; simp)]; omega)
        go_wp2_with fail
        go_roundw
        case rel => exact ⟨i + 1, by omega, by go_num, HN, hE2⟩
        case measure => simp [intOf]; omega
      · have HN := Sl.mk (show placE q l = i by
          have : idxE q l = i := by rw [HI.out, HD.out, idxE, if_pos eR]; omega
          unfold placE; rw [this, if_pos (by rw [HL.out]; exact hil)])
        go_wp2_with fail
        go_ret
        exact ⟨by rw [HN.out]; rfl, hE2⟩
    · obtain rfl : i = n := by omega
      have HN := Sl.mk (show placE q l = -1 by
        have h : l.drop i = [] := List.drop_of_length_le (by rw [HL.out]; omega)
        have h0 := HI.out
        rw [h] at h0
        unfold placE; rw [if_neg (by rw [HL.out, h0]; simp [idxE])])
      go_wp2_with fail
      go_ret
      exact ⟨by rw [HN.out]; rfl, hB⟩

def FindPost (w : World) (q : List ByteArray) (l : List Ex) (e : Ending) (w' : World) : Prop :=
  Below w.heap.size w w' ∧ ((∃ x x' : Ex, l[idxE q l]? = some x ∧ x'.e = x.e ∧ ExOwn w' w.heap.size x' ∧ e = .returned (.tuple #[.agg (exC x').toArray, .int .i64 0])) ∨
    (idxE q l = l.length ∧ e = .returned (.tuple #[.agg #[.slice none 0 0, .int .i64 0, .int .i64 0, .slice none 0 0], .int .i64 7])))

set_option maxRecDepth 100000 in
set_option maxHeartbeats 1000000 in
theorem find_any (A2 : Option Addr) (m d : Nat) (q : List ByteArray) (A : Option Addr) (n c : Nat) (l : List Ex) (w : World) (hn : n ≤ 1000000) (hE : Exs w A n l) (hm : m ≤ 1000) (hq : Reads w w.heap.size 1 A2 m (strV q)) :
    Calls Tryz.prog 82 #[.slice A n c, .slice A2 m d] w (FindPost w q l) := by
  obtain ⟨w0, hw0⟩ : ∃ w0, (w.alloc (.cells #[.slice A2 m d] 38)).alloc (.cells #[.slice none 0 0, .int .i64 0, .int .i64 0, .slice none 0 0] 40) = w0 := ⟨_, rfl⟩
  have hB0 : Below w.heap.size w w0 := by rw [← hw0]; exact below_al (below_al (Below.refl _ _) _) _
  have hG0 : Blk w0 w.heap.size 38 #[.slice A2 m d] := by rw [← hw0]; exact (Blk.new _ _ _).alloc _
  have hZ0 : Blk w0 (w.heap.size + 1) 40 #[.slice none 0 0, .int .i64 0, .int .i64 0, .slice none 0 0] := by rw [← hw0]; exact Blk.new' (by simp)
  have hs0 : w0.heap.size = w.heap.size + 2 := by rw [← hw0]; simp
  have HIX := Sl.mk (indexe_any A2 m d q w.heap.size A n c l w0 hn (hE.be hB0) hm hG0.lt (hG0.cell 0) ((hq.below hB0).more hB0.size))
  have HE0 := Sl.mk (hE.be hB0)
  have HL := Sl.mk hE.n_
  clear hE hq
  go_enter Tryz.func82, Tryz.ntmps82
  go_wp2_with fail
  clear hw0
  refine HIX.out.mono ?_
  rintro e w1 ⟨rfl, hB1⟩
  have hZ1 := hZ0.be hB1
  have hE1 := below_tr hB0 hB1
  have HE1 := Sl.mk (HE0.out.be hB1)
  have hge1 := hB1.size
  rw [hs0] at hge1
  clear hZ0 hB0 hB1 HE0 hG0 HIX hs0
  by_cases hi : idxE q l < l.length
  · obtain ⟨x, hx⟩ : ∃ x, l[idxE q l]? = some x := ⟨_, List.getElem?_eq_getElem hi⟩
    have hp : placE q l = ((idxE q l : Nat) : Int) := by unfold placE; rw [if_pos hi]
    obtain ⟨ad, rfl, hbl, hld, hok⟩ := HE1.out.at_ hx
    rw [hp]
    have HX := Sl.mk hx
    obtain ⟨i, hii⟩ : ∃ i, idxE q l = i := ⟨_, rfl⟩
    have hin : i < n := by have := HL.out; omega
    have HII := Sl.mk hii
    have hd0 : w1.cell? (ad.add (idxE q l * 4)) = some (.slice x.pa x.e.path.length x.pc) := by have := hld 0 _ rfl; simpa [Addr.add] using this
    have HC := Sl.mk (copied_any x w1 hok)
    rw [hii] at hld hd0 ⊢
    clear hp hi hx hii hok
    go_wp2_with (refine ld_ex hld rfl (.tmp 15) rfl rfl ?_)
    refine HC.out.mono ?_
    rintro e w2 ⟨x', rfl, hxe, hok2, hB2⟩
    have hZ2 := hZ1.be hB2
    have hE2 := below_tr hE1 hB2
    have hge2 := hB2.size
    clear hZ1 hE1 hld hd0
    obtain ⟨⟨p', k', m', d'⟩, pa', pc', da', dc'⟩ := x'
    have HOK := Sl.mk hok2
    have HXE := Sl.mk hxe
    clear hok2 hxe
    go_wp2_with (refine st_en hZ2 rfl (.tmp 4) (.tmp 17) rfl pa' p'.length pc' k' m' da' d'.length dc' rfl rfl rfl ?_)
    intro w3 hZ3 hG3 _
    have hE3 := below_only hE2 hG3 hE2.size (by omega)
    have HG := Sl.mk hG3
    clear hG3
    go_wp2_with fail
    refine bodyPost_ret (v := .tuple #[.agg #[.slice pa' p'.length pc', .int .i64 k', .int .i64 m', .slice da' d'.length dc'], .int .i64 0]) (res_cell_tmp Tryz.results82 _ _ _ rfl hZ3 Tryz.underlying40 enSize rfl) rfl ?_
    refine ⟨hE3, .inl ⟨x, ⟨⟨p', k', m', d'⟩, pa', pc', da', dc'⟩, HX.out, HXE.out, ?_, rfl⟩⟩
    exact (HOK.out.far HG.out (by omega)).mono (by omega)
  · have hp : placE q l = -1 := by unfold placE; rw [if_neg hi]
    have HP := Sl.mk (show idxE q l = l.length by have := idxE_le q l; omega)
    rw [hp]
    clear hp hi
    go_wp2_with (refine st_en hZ1 rfl (.tmp 4) (.tmp 12) rfl none 0 0 0 0 none 0 0 rfl (by rfl) rfl ?_)
    intro w3 hZ3 hG3 _
    have hE3 := below_only hE1 hG3 hE1.size (by omega)
    clear hG3
    go_wp2_with fail
    refine bodyPost_ret (v := .tuple #[.agg #[.slice none 0 0, .int .i64 0, .int .i64 0, .slice none 0 0], .int .i64 7]) (res_cell_tmp Tryz.results82 _ _ _ rfl hZ3 Tryz.underlying40 enSize rfl) rfl ?_
    exact ⟨hE3, .inr ⟨HP.out, rfl⟩⟩

end Go.Proofs.YticcphppnmoogaaGreatDoor

namespace Go.Proofs.YticcphppnmoogaaGreatDoor
open Go.RowKit
attribute [local go_sem ↓] Go.wp_at_zero Go.wp_at_succ

def strN (d : List Nat) : ByteArray := ⟨(d.map UInt8.ofNat).toArray⟩
theorem strN_size (d : List Nat) : (strN d).size = d.length := by simp [strN, ByteArray.size]
theorem conv_str {w : World} {B n c : Nat} {A : Option Addr} {d : List Nat} (h : Reads w B 1 A n (u8s d)) (hb : ∀ b ∈ d, b < 256) :
    (convert 22 9 (.slice A n c)).run Tryz.prog w = .ok (.string (strN d)) w := by
  have hl := bytes_n h
  cases A with
  | none =>
    have h0 : n = 0 := by
      rcases Nat.eq_zero_or_pos n with h0 | h0
      · exact h0
      · obtain ⟨ad, e, _⟩ := h.2 h0; cases e
    subst h0
    obtain rfl : d = [] := List.eq_nil_of_length_eq_zero hl
    exact run_convert_bytes_nil (P := Tryz.prog) w 22 5 Tryz.underlying22 Tryz.underlying5 0 c 9 Tryz.underlying9
  | some ad =>
    have hm : (d.map UInt8.ofNat).length = n := by simpa using hl
    have := run_convert_bytes_back (P := Tryz.prog) w 22 9 5 ad c (d.map UInt8.ofNat) Tryz.underlying22 Tryz.underlying5 Tryz.underlying9 (fun j hj => by
      have hj' : j < d.length := by simpa using hj
      have hn : 0 < n := by omega
      obtain ⟨ad', e, _, hc⟩ := h.2 hn
      have e' := Option.some.inj e
      subst e'
      have h1 := hc j (.int .u8 ((d[j] : Nat) : Int)) (by simp [u8s, hj'])
      rw [h1]
      have h2 := hb d[j] (List.getElem_mem hj')
      simp only [List.getElem_map, UInt8.toNat_ofNat']
      rw [Nat.mod_eq_of_lt (by omega)])
    rw [hm] at this
    exact this

/-- What a check takes: an entry and the slice of those ahead of it. -/
def askC (x : Ex) (A : Option Addr) (n c : Nat) : List Value := exC x ++ [.slice A n c]

def pathsE (p : List ByteArray) : Int := if rightB p = false then 10 else if p = [] then 10 else if 160 < (txtF p).size then 10 else 0
def kindE (k : Int) : Int := if k = 0 then 0 else if k = 1 then 0 else if k = 2 then 0 else 17
def modesE (k m : Int) : Int := refu k m 0 0
def sizeE (k : Int) (d : Nat) : Int := if k = 1 ∧ 0 < d then 3 else if 512 < d then 2 else 0
def linkE (e : En) : Int := if e.kind = 2 then (if leadE e.path.dropLast (strN e.data) = 0 ∧ isAbs (strN e.data) = false then 0 else 10) else 0

set_option maxHeartbeats 1000000 in
theorem paths_any (x : Ex) (A : Option Addr) (n c : Nat) (w : World) (hx : ExOk w w.heap.size x) :
    Calls Tryz.prog 61 #[.agg (askC x A n c).toArray] w fun e w' => e = .returned (.int .i64 (pathsE x.e.path)) ∧ Below w.heap.size w w' := by
  obtain ⟨⟨p, k, m, d⟩, pa, pc, da, dc⟩ := x
  have hp : Reads w w.heap.size 1 pa p.length (strV p) := hx.path
  have hpl : p.length ≤ 100 := hx.plen
  have hpc : p.length ≤ pc := hx.pcap.1
  have hps : ∀ s ∈ p, s.size ≤ 1000 := hx.slen
  clear hx
  show Calls Tryz.prog 61 #[.agg #[.slice pa p.length pc, .int .i64 k, .int .i64 m, .slice da d.length dc, .slice A n c]] w fun e w' => e = .returned (.int .i64 (pathsE p)) ∧ Below w.heap.size w w'
  obtain ⟨dl, hdle⟩ : ∃ dl, d.length = dl := ⟨_, rfl⟩
  rw [hdle]
  obtain ⟨pl, hple⟩ : ∃ pl, p.length = pl := ⟨_, rfl⟩
  have HPL := Sl.mk hple
  have hts := txtF_size p hps
  have hE := below_al (Below.refl w.heap.size w) (.cells #[.slice pa pl pc, .int .i64 k, .int .i64 m, .slice da dl dc, .slice A n c] 102)
  rw [hple] at hp hpl hpc hts ⊢
  have HR := Sl.mk (right_any pa pl pc p (w.alloc (.cells #[.slice pa pl pc, .int .i64 k, .int .i64 m, .slice da dl dc, .slice A n c] 102)) (by omega) (fun s hs => by have := hps s hs; omega) ((hp.below hE).more hE.size))
  have HT := Sl.mk (text_any pa pl pc p (w.alloc (.cells #[.slice pa pl pc, .int .i64 k, .int .i64 m, .slice da dl dc, .slice A n c] 102)) (by omega) hpc hps ((hp.below hE).more hE.size))
  clear hp hps hdle hple
  cases eR : rightB p
  · have HF := Sl.mk (show pathsE p = 10 by unfold pathsE; rw [if_pos eR])
    rw [eR] at HR
    go_enter Tryz.func61, Tryz.ntmps61
    go_wp2_with fail
    refine HR.out.mono ?_
    rintro e w' ⟨rfl, rfl⟩
    go_wp2_with fail
    go_ret
    exact ⟨by rw [HF.out]; rfl, hE⟩
  rw [eR] at HR
  by_cases h0 : pl = 0
  · subst h0
    have hp0 : p = [] := List.eq_nil_of_length_eq_zero HPL.out
    have HF := Sl.mk (show pathsE p = 10 by unfold pathsE; rw [if_neg (by rw [eR]; simp), if_pos hp0])
    clear hp0
    go_enter Tryz.func61, Tryz.ntmps61
    go_wp2_with fail
    refine HR.out.mono ?_
    rintro e w' ⟨rfl, rfl⟩
    go_wp2_with fail
    go_ret
    exact ⟨by rw [HF.out]; rfl, hE⟩
  · have hp0 : p ≠ [] := fun e => h0 (by rw [← HPL.out, e]; rfl)
    have h0' : ((pl : Int) == 0) = false := by simp; omega
    have HF := Sl.mk (show pathsE p = if 160 < (txtF p).size then 10 else 0 by unfold pathsE; rw [if_neg (by rw [eR]; simp), if_neg hp0])
    obtain ⟨T, hT⟩ : ∃ T, txtF p = T := ⟨_, rfl⟩
    rw [hT] at HF HT hts
    have hd : decide ((160 : Int) < (T.size : Int)) = decide (160 < T.size) := by rw [decide_eq_decide]; omega
    have htz : T.size ≤ 200000 := by omega
    clear hT hp0 h0 hts
    by_cases h160 : 160 < T.size
    · have h160' : (160 : Int) < (T.size : Int) := by omega
      go_enter Tryz.func61, Tryz.ntmps61
      go_wp2_with fail
      refine HR.out.mono ?_
      rintro e w' ⟨rfl, rfl⟩
      go_wp2_with fail
      refine HT.out.mono ?_
      rintro e w' ⟨rfl, hB⟩
      have hE2 := below_tr hE hB
      go_wp2_with fail
      go_ret
      exact ⟨by rw [HF.out, if_pos h160]; rfl, hE2⟩
    · have h160' : ¬ (160 : Int) < (T.size : Int) := by omega
      go_enter Tryz.func61, Tryz.ntmps61
      go_wp2_with fail
      refine HR.out.mono ?_
      rintro e w' ⟨rfl, rfl⟩
      go_wp2_with fail
      refine HT.out.mono ?_
      rintro e w' ⟨rfl, hB⟩
      have hE2 := below_tr hE hB
      go_wp2_with fail
      go_ret
      exact ⟨by rw [HF.out, if_neg h160]; rfl, hE2⟩

theorem kind_any (x : Ex) (A : Option Addr) (n c : Nat) (w : World) :
    Calls Tryz.prog 62 #[.agg (askC x A n c).toArray] w fun e w' => e = .returned (.int .i64 (kindE x.e.kind)) ∧ Below w.heap.size w w' := by
  obtain ⟨⟨p, k, m, d⟩, pa, pc, da, dc⟩ := x
  show Calls Tryz.prog 62 #[.agg #[.slice pa p.length pc, .int .i64 k, .int .i64 m, .slice da d.length dc, .slice A n c]] w fun e w' => e = .returned (.int .i64 (kindE k)) ∧ Below w.heap.size w w'
  obtain ⟨dl, hdle⟩ : ∃ dl, d.length = dl := ⟨_, rfl⟩
  obtain ⟨pl, hple⟩ : ∃ pl, p.length = pl := ⟨_, rfl⟩
  rw [hdle, hple]
  clear hdle hple
  have hE := below_al (Below.refl w.heap.size w) (.cells #[.slice pa pl pc, .int .i64 k, .int .i64 m, .slice da dl dc, .slice A n c] 102)
  by_cases h0 : k = 0
  · subst h0
    go_enter Tryz.func62, Tryz.ntmps62
    go_wp2_with fail
    go_ret
    exact ⟨rfl, hE⟩
  by_cases h1 : k = 1
  · subst h1
    go_enter Tryz.func62, Tryz.ntmps62
    go_wp2_with fail
    go_ret
    exact ⟨rfl, hE⟩
  by_cases h2 : k = 2
  · subst h2
    go_enter Tryz.func62, Tryz.ntmps62
    go_wp2_with fail
    go_ret
    exact ⟨rfl, hE⟩
  · have HF := Sl.mk (show kindE k = 17 by unfold kindE; rw [if_neg h0, if_neg h1, if_neg h2])
    have b0 : (k != 0) = true := by simpa using h0
    have b1 : (k != 1) = true := by simpa using h1
    have b2 : (k != 2) = true := by simpa using h2
    clear h0 h1 h2
    go_enter Tryz.func62, Tryz.ntmps62
    go_wp2_with fail
    go_ret
    exact ⟨by rw [HF.out]; rfl, hE⟩

theorem modes_any (x : Ex) (A : Option Addr) (n c : Nat) (w : World) :
    Calls Tryz.prog 63 #[.agg (askC x A n c).toArray] w fun e w' => e = .returned (.int .i64 (modesE x.e.kind x.e.mode)) ∧ Below w.heap.size w w' := by
  obtain ⟨⟨p, k, m, d⟩, pa, pc, da, dc⟩ := x
  show Calls Tryz.prog 63 #[.agg #[.slice pa p.length pc, .int .i64 k, .int .i64 m, .slice da d.length dc, .slice A n c]] w fun e w' => e = .returned (.int .i64 (refu k m 0 0)) ∧ Below w.heap.size w w'
  obtain ⟨dl, hdle⟩ : ∃ dl, d.length = dl := ⟨_, rfl⟩
  obtain ⟨pl, hple⟩ : ∃ pl, p.length = pl := ⟨_, rfl⟩
  rw [hdle, hple]
  clear hdle hple
  have hE := below_al (Below.refl w.heap.size w) (.cells #[.slice pa pl pc, .int .i64 k, .int .i64 m, .slice da dl dc, .slice A n c] 102)
  go_enter Tryz.func63, Tryz.ntmps63
  go_wp2_with fail
  refine (refusal_any k m 0 0 _).mono ?_
  rintro e w' ⟨rfl, hB⟩
  go_wp2_with fail
  go_ret
  exact ⟨rfl, below_tr hE hB⟩

theorem size_any (x : Ex) (A : Option Addr) (n c : Nat) (w : World) (hx : x.e.data.length ≤ 100000) :
    Calls Tryz.prog 64 #[.agg (askC x A n c).toArray] w fun e w' => e = .returned (.int .i64 (sizeE x.e.kind x.e.data.length)) ∧ Below w.heap.size w w' := by
  obtain ⟨⟨p, k, m, d⟩, pa, pc, da, dc⟩ := x
  have hdl : d.length ≤ 100000 := hx
  clear hx
  show Calls Tryz.prog 64 #[.agg #[.slice pa p.length pc, .int .i64 k, .int .i64 m, .slice da d.length dc, .slice A n c]] w fun e w' => e = .returned (.int .i64 (sizeE k d.length)) ∧ Below w.heap.size w w'
  obtain ⟨dl, hdle⟩ : ∃ dl, d.length = dl := ⟨_, rfl⟩
  obtain ⟨pl, hple⟩ : ∃ pl, p.length = pl := ⟨_, rfl⟩
  rw [hdle] at hdl ⊢
  rw [hple]
  clear hdle hple
  have hE := below_al (Below.refl w.heap.size w) (.cells #[.slice pa pl pc, .int .i64 k, .int .i64 m, .slice da dl dc, .slice A n c] 102)
  have main : ∀ E : Int, sizeE k dl = E → ((k = 1 ∧ 0 < dl ∧ E = 3) ∨ (¬ (k = 1 ∧ 0 < dl) ∧ 512 < dl ∧ E = 2) ∨ (¬ (k = 1 ∧ 0 < dl) ∧ ¬ 512 < dl ∧ E = 0)) := fun E h => by
    unfold sizeE at h
    split at h
    · rename_i h1; exact .inl ⟨h1.1, h1.2, h.symm⟩
    · split at h
      · rename_i h1 h2; exact .inr (.inl ⟨h1, h2, h.symm⟩)
      · rename_i h1 h2; exact .inr (.inr ⟨h1, h2, h.symm⟩)
  have hm := main _ rfl
  obtain ⟨E, hEE⟩ : ∃ E, sizeE k dl = E := ⟨_, rfl⟩
  rw [hEE] at hm ⊢
  clear main hEE
  by_cases h1 : k = 1
  · subst h1
    by_cases h0 : 0 < dl
    · have h0' : (0 : Int) < (dl : Int) := by omega
      have hE3 : E = 3 := by omega
      subst hE3
      clear hm
      go_enter Tryz.func64, Tryz.ntmps64
      go_wp2_with fail
      go_ret
      exact ⟨rfl, hE⟩
    · obtain rfl : dl = 0 := by omega
      have hE0 : E = 0 := by omega
      subst hE0
      clear hm
      go_enter Tryz.func64, Tryz.ntmps64
      go_wp2_with fail
      go_ret
      exact ⟨rfl, hE⟩
  · have b1 : (k == 1) = false := by simpa using h1
    by_cases h5 : 512 < dl
    · have h5' : (512 : Int) < (dl : Int) := by omega
      have hE2 : E = 2 := by omega
      subst hE2
      clear hm h1
      go_enter Tryz.func64, Tryz.ntmps64
      go_wp2_with fail
      go_ret
      exact ⟨rfl, hE⟩
    · have h5' : ¬ (512 : Int) < (dl : Int) := by omega
      have hE0 : E = 0 := by omega
      subst hE0
      clear hm h1
      go_enter Tryz.func64, Tryz.ntmps64
      go_wp2_with fail
      go_ret
      exact ⟨rfl, hE⟩

end Go.Proofs.YticcphppnmoogaaGreatDoor
