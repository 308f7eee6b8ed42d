/-
  A region that draws its order: reads and quiet calls first, in any order, then a tail in its own order: one walk of the text's order serves.
  Rows of the call's own: their form, their place, their cells.
  A struct or an array loaded at any address.
  Whole loads inside a quiet head; three results of which the first lies in a cell.
  Go strings of byte lists.
  The contracts of path.sign and path.Name.
  Paths as lists of names; the contracts of Right, slices.Equal, Same, slices.Clone.
  Bytes as values.
  The contracts of slices.Equal at strings, path.Same, slices.Clone at strings, bytes.Clone.
-/
import Derived.Test.YtmgblbkmbiiofaaDoorMd1
import Derived.StillTail
import Derived.Deep.QuietTactic
import Derived.BigQuiet
import Derived.Deep.MidRow
import Derived.Test.YtmgblbkmbiiofaaDoorRows
import Derived.WalkLawsBesides
import Derived.WalkSpells
import Derived.Lib.SliceRun

namespace Go.Proofs.YtmgblbkmbiiofaaDoor
open Go

section
variable {P : Program} {ops : Array Oper} {md : Region.Mode} {C : World → Prop}

/-- Whatever order the first n operations come up in, each is quiet, and behind them L holds. -/
def HeadQ (P : Program) (md : Region.Mode) (ops : Array Oper) (C : World → Prop) (n : Nat) (L : Array Bool → Act → Prop) : Nat → Array Bool → Act → Prop
  | 0, s, a => L s a
  | f + 1, s, a => Region.ready md ops s ≠ [] ∧ ∀ i ∈ Region.ready md ops s, i < n ∧ qOp P ops C i (HeadQ P md ops C n L f (s.setIfInBounds i true)) a

theorem headQ_any {n g : Nat} {L : Array Bool → Act → Prop} {Q : Exit → Act → World → Prop} (hL : ∀ s a w, C w → L s a → wpAny P md ops Q g s a w) :
    ∀ (f : Nat) (s : Array Bool) (a : Act) (w : World), C w → HeadQ P md ops C n L f s a → wpAny P md ops Q (f + g) s a w := by
  intro f
  induction f with
  | zero => intro s a w hw h; rw [Nat.zero_add]; exact hL s a w hw h
  | succ f ih =>
    intro s a w hw h
    rw [show f + 1 + g = (f + g) + 1 by omega]
    exact ⟨fun e => absurd e h.1, fun i hi => wpOp_of_qOp hw (fun a' w' hw' h' => ih _ a' w' hw' h') (h.2 i hi).2⟩

/-- An operation of the head that may come up now may be taken first. -/
theorem headQ_first {n i : Nat} {o : Oper} {v : Value} {L : Array Bool → Act → Prop} (hi : ops[i]? = some o) (hsel : ∀ (j : Nat) (o : Oper) cs b, ops[j]? = some o → o.op ≠ .select cs b)
    (hs : Region.sinkB md ops n = true) (hc : Region.chainB md ops n = true) (hn : n < ops.size) (hin : i < n) (hdone : ∀ s a, L s a → ∀ j ∈ Region.ready md ops s, n ≤ j) :
    ∀ (f : Nat) (s : Array Bool) (a : Act), HeadInv md ops n s →
      (∀ j oj, ops[j]? = some oj → j ≠ i → s.getD j true = false → (∀ e ∈ oj.after, Region.binds md e = true → e.on ≠ i) → o.apart ops oj = true) →
      i ∈ Region.ready md ops s → YieldsIn P ops C o v a → HeadQ P md ops C n L f (s.setIfInBounds i true) (a.put o.dst v) → HeadQ P md ops C n L (f + 1) s a := by
  intro f
  induction f with
  | zero =>
    intro s a inv _ hr hy H
    refine ⟨fun e => (by rw [e] at hr; cases hr), fun j hj => ?_⟩
    have hjn : j < n := Nat.lt_of_not_le fun h => tail_waits hs hc hn inv _ i rfl hin (mem_ready.1 hr).1 j h hj
    refine ⟨hjn, ?_⟩
    by_cases e : j = i
    · subst e; exact hy.qOp hi H
    · exact absurd (hdone _ _ H j (ready_mono hj e)) (by omega)
  | succ f ih =>
    intro s a inv free hr hy H
    refine ⟨fun e => (by rw [e] at hr; cases hr), fun j hj => ?_⟩
    have hjn : j < n := Nat.lt_of_not_le fun h => tail_waits hs hc hn inv _ i rfl hin (mem_ready.1 hr).1 j h hj
    refine ⟨hjn, ?_⟩
    by_cases e : j = i
    · subst e; exact hy.qOp hi H
    · obtain ⟨hun, oj, hoj, hall⟩ := mem_ready.1 hj
      have no : ∀ x ∈ oj.after, Region.binds md x = true → x.on ≠ i := fun x hx hb he => by
        have h1 := hall x hx hb
        rw [he, getD_both (mem_ready.1 hr).1] at h1
        cases h1
      have h2 := qOp_put hoj (free j oj hoj e hun no) (fun cs b => hsel i o cs b hi) (fun cs b => hsel j oj cs b hoj) hy (H.2 j (ready_mono hj e)).2
      refine qOp_mono (fun a' h3 => ih (s.setIfInBounds j true) a' (inv.set hj hjn) (fun k ok hk hki hku hno => free k ok hk hki ?_ hno) (ready_mono hr (Ne.symm e)) h3.1 ?_) h2
      · by_cases hjk : j = k
        · subst hjk; exact hun
        · rw [getD_set_ne true hjk] at hku; exact hku
      · rw [Array.setIfInBounds_comm _ _ e]; exact h3.2

theorem headQ_lex {n g : Nat} {K : Act → Prop} (hsel : Region.noSelect ops = true) (hs : Region.sinkB md ops n = true) (hc : Region.chainB md ops n = true) (hn : n < ops.size) :
    ∀ (l : List Oper) (k : Nat) (s : Array Bool) (a : Act), (∀ j, j < l.length → l[j]? = ops[k + j]?) → k + l.length = n → HeadInv md ops n s → Region.lexHead md ops g l.length k s = true →
      wpQuiet P ops C K l a → HeadQ P md ops C n (fun s' a' => Region.seqB md ops g n s' = true ∧ K a') l.length s a := by
  intro l
  induction l with
  | nil =>
    intro k s a _ hk _ hB h
    have e : k = n := by simpa using hk
    subst e
    exact ⟨by simpa [Region.lexHead] using hB, h⟩
  | cons o l ih =>
    intro k s a hl hk inv hB h
    have h0 : ops[k]? = some o := by simpa using (hl 0 (by simp)).symm
    simp only [List.length_cons, Region.lexHead, Bool.and_eq_true] at hB hk
    obtain ⟨⟨hr, hf⟩, hB⟩ := hB
    have hr' : k ∈ Region.ready md ops s := by simpa using hr
    have hq : qOp P ops C k (wpQuiet P ops C K l) a := by unfold qOp; simp only [h0]; exact h
    obtain ⟨v, hy, hK⟩ := yieldsIn_of_qOp h0 hq
    exact headQ_first h0 (Region.noSelect_spec hsel) hs hc hn (by omega) (fun _ _ hL => seqB_ready hL.1) l.length s a inv (Region.free_spec h0 hf) hr' hy
      (ih (k + 1) _ _ (fun j hj => by have := hl (j + 1) (by simp; omega); simpa [Nat.add_assoc, Nat.add_comm 1 j] using this) (by omega) (inv.set hr' (by omega)) hB hK)

/-- Behind the head, the tail as a plain list, in every world of the class. -/
theorem wp_region_quiet_tail {id : Nat} {Q : Exit → Act → World → Prop} {a : Act} {w : World} {l : List Oper} (n : Nat) (hm : P.follows .mixedOrders = true) (hB : Region.lexTailB .any l.toArray n = true)
    (h : wpQuiet P l.toArray (fun w' => ∃ k, w' = w.drewN k) (fun a' => ∀ w', (∃ k, w' = w.drewN k) → wpList P l.toArray Q (l.drop n) a' w') (l.take n) a) : (Code.region id l.toArray true).wp P Q a w := by
  simp only [Region.lexTailB, Bool.and_eq_true, decide_eq_true_eq] at hB
  obtain ⟨⟨⟨⟨hsel, hn⟩, hs⟩, hc⟩, hlex⟩ := hB
  have hn' : n < l.length := by simpa using hn
  have htl : (l.take n).length = n := by simp; omega
  have hdl : (l.drop n).length = l.toArray.size - n := by simp
  have inv0 : HeadInv .any l.toArray n (Array.replicate l.toArray.size false) :=
    ⟨by simp, fun j oj _ hl => (by rw [getD_replicate_false] at hl; cases hl), fun t _ ht => getD_in (by simpa using ht) (getD_replicate_false _ _)⟩
  have H := headQ_lex (md := .any) (g := l.toArray.size - n) hsel hs hc hn (l.take n) 0 _ a (fun j hj => by
    have hj' : j < n := by rw [htl] at hj; exact hj
    simp [hj']) (by simpa using htl) inv0 (by rw [htl]; exact hlex) h
  refine wp_region_any hm ?_
  have := headQ_any (C := fun w' => ∃ k, w' = w.drewN k) (Q := Q) (g := l.toArray.size - n) (fun s a' w' hw' hL => by
    have := wpAny_of_seq (md := .any) (Q' := Q) (l.drop n) n s a' w' (fun j => by simp [List.getElem?_drop]) (by rw [hdl]; exact hL.1) (hL.2 w' hw')
    rwa [hdl] at this) _ _ _ { w with drawn := w.drawn + 1 } ⟨1, rfl⟩ H
  rw [htl, show n + (l.toArray.size - n) = l.toArray.size by omega] at this
  exact this
end

theorem quiet_lf {P : Program} {f : FuncId} {args : Array Value} {w : World} {n : Nat} {v : Value}
    (h : Calls P f args (w.drewN n) fun e w' => e = .returned v ∧ w.drewN n = w') : Calls P f args (w.drewN n) fun e w'' => e = .returned v ∧ ∃ m, w'' = w.drewN m :=
  h.mono fun _ _ ⟨he, hm⟩ => ⟨he, n, hm.symm⟩
theorem quiet_add_lf {P : Program} {f : FuncId} {args : Array Value} {w : World} {a n : Nat} {v : Value}
    (h : Calls P f args (w.drewN (a + n)) fun e w' => e = .returned v ∧ w.drewN (a + n) = w') :
    Calls P f args (w.drewN (a + n)) fun e w'' => e = .returned v ∧ ∃ m, w'' = w.drewN (a + m) :=
  h.mono fun _ _ ⟨he, hm⟩ => ⟨he, n, hm.symm⟩
/-- A call that draws, in a world that has drawn. -/
theorem quiet_add {P : Program} {f : FuncId} {args : Array Value} {w : World} {a n : Nat} {v : Value}
    (h : Calls P f args (w.drewN (a + n)) fun e w' => e = .returned v ∧ ∃ m, w' = (w.drewN (a + n)).drewN m) :
    Calls P f args (w.drewN (a + n)) fun e w'' => e = .returned v ∧ ∃ m, w'' = w.drewN (a + m) :=
  h.mono fun _ _ ⟨he, m, hm⟩ => ⟨he, n + m, by rw [hm, World.drewN_drewN, Nat.add_assoc]⟩

end Go.Proofs.YtmgblbkmbiiofaaDoor

namespace Go.Proofs.YtmgblbkmbiiofaaDoor
open Go.RowKit

section
variable {w : World} {base n size : Nat} {e : TypeId} {v : Value} {xs : List Value}
theorem ownForm (h : w.ownsRow base e size v n xs) : ∃ A c, v = .slice A n c := by
  rcases h.2 with ⟨rfl, rfl⟩ | ⟨g', cap, cur, rfl, _⟩
  · exact ⟨none, 0, rfl⟩
  · exact ⟨_, cap, rfl⟩
theorem ownGe (h : w.ownsRow base e size v n xs) {g : Nat} (hg : v.ownBlock = some g) : base ≤ g := by
  rcases h.2 with ⟨rfl, _⟩ | ⟨g', cap, cur, rfl, hb, _⟩
  · simp [Value.ownBlock] at hg
  · have : g' = g := by simpa [Value.ownBlock] using hg
    omega
theorem ownNe (h : w.ownsRow base e size v n xs) {g : Nat} (hg : g < base) : v.ownBlock = none ∨ v.ownBlock ≠ some g := by
  rcases h.2 with ⟨rfl, _⟩ | ⟨g', cap, cur, rfl, hb, _⟩
  · exact .inl rfl
  · refine .inr fun e => ?_
    have : g' = g := by simpa [Value.ownBlock] using e
    omega
theorem ownCells (h : w.ownsRow base e size v n xs) (hn : 0 < n) : ∃ g c, v = .slice (some ⟨g, 0, none⟩) n c ∧ base ≤ g ∧ g < w.heap.size ∧ ∀ j u, xs[j]? = some u → w.cell? ⟨g, j, none⟩ = some u := by
  obtain ⟨g, c, hv, hb, hg⟩ := h.form hn
  subst hv
  refine ⟨g, c, rfl, hb, hg, fun j u hj => ?_⟩
  have := h.cells (g := g) rfl j u hj
  have hadd : (⟨g, 0, none⟩ : Addr).add j = ⟨g, j, none⟩ := by unfold Addr.add; split <;> simp_all
  rw [hadd] at this
  exact this
theorem ownCap (h : w.ownsRow base e size v n xs) : ∃ A c, v = .slice A n c ∧ n ≤ c ∧ c ≤ maxLen := by
  rcases h.2 with ⟨rfl, rfl⟩ | ⟨g', cap, cur, rfl, _, _, h1, h2, _⟩
  · exact ⟨none, 0, rfl, Nat.le_refl _, Nat.zero_le _⟩
  · exact ⟨_, cap, rfl, h1, h2⟩
end
theorem reads_newL (w0 : World) (l : List Value) (t : TypeId) {B : Nat} (hB : w0.heap.size < B) : Reads (w0.alloc (.cells l.toArray t)) B 1 (some ⟨w0.heap.size, 0, none⟩) l.length l :=
  ⟨by simp, fun _ => ⟨_, rfl, hB, fun j u hj => by
    have hadd : (⟨w0.heap.size, 0, none⟩ : Addr).add j = ⟨w0.heap.size, j, none⟩ := by unfold Addr.add; split <;> simp_all
    rw [hadd, (Blk.new w0 t l.toArray).cell j]
    simpa using hj⟩⟩

end Go.Proofs.YtmgblbkmbiiofaaDoor

namespace Go.Proofs.YtmgblbkmbiiofaaDoor
open Go.RowKit

section
variable {P : Program}
theorem run_loadVar_at (w : World) (ad : Addr) (ty : TypeId) (cs : List Value) (d : TypeDesc) (hc : ∀ j v, cs[j]? = some v → w.cell? (ad.add j) = some v)
    (hu : P.underlying ty = some d) (hd : d.isRow = true) (hi : (P.info? ty).map (·.size) = some cs.length) :
    (loadVar ty ad).run P w = .ok (.agg cs.toArray) w := by
  have hl : (loadCells ad cs.length).run P w = .ok cs.toArray w := run_loadCells_list (P := P) w ad cs hc
  cases hq : P.info? ty with
  | none => simp [hq] at hi
  | some i =>
    have hs : i.size = cs.length := by simpa [hq] using hi
    have hagg : (isAgg ty).run P w = .ok true w := by
      unfold isAgg
      rw [Sem.run_bind, run_underlying hu w]
      cases d <;> simp_all
    simp [loadVar, Sem.run_bind, hagg, sizeOf, typeInfo, hq, hs, hl]
theorem wp_load_at {op : Oper} {a : Act} {w : World} {K : Act → World → Prop} {Q : Exit → Act → World → Prop} (ty : TypeId) (x : Operand) (ho : op.op = .load ty x)
    (ad : Addr) (hx : a.eval x = .pointer (some ad)) (cs : List Value) (d : TypeDesc) (hc : ∀ j v, cs[j]? = some v → w.cell? (ad.add j) = some v)
    (hu : P.underlying ty = some d) (hd : d.isRow = true) (hi : (P.info? ty).map (·.size) = some cs.length)
    (h : K (a.put op.dst (.agg cs.toArray)) w) : op.wp P a w K Q := by
  unfold Oper.wp execOp
  simp only [ho, hx, Instr.loadAt, Instr.sureAddr, Sem.run_bind, Sem.run_pure, Result.andThen_ok, run_loadVar_at w ad ty cs d hc hu hd hi]
  exact h
theorem wpList_load_at {ops : Array Oper} {rest : List Oper} {op : Oper} {a : Act} {w : World} {Q : Exit → Act → World → Prop} (hgd : op.guard = none) (ty : TypeId) (x : Operand) (ho : op.op = .load ty x)
    (ad : Addr) (hx : a.eval x = .pointer (some ad)) (cs : List Value) (d : TypeDesc) (hc : ∀ j v, cs[j]? = some v → w.cell? (ad.add j) = some v)
    (hu : P.underlying ty = some d) (hd : d.isRow = true) (hi : (P.info? ty).map (·.size) = some cs.length)
    (h : wpList P ops Q rest (a.put op.dst (.agg cs.toArray)) w) : wpList P ops Q (op :: rest) a w :=
  wpList_plain hgd fun _ hK => wp_load_at ty x ho ad hx cs d hc hu hd hi (hK _ _ h)
end

end Go.Proofs.YtmgblbkmbiiofaaDoor

namespace Go.Proofs.YtmgblbkmbiiofaaDoor
open Go.RowKit

theorem wpQuiet_loadW {P : Program} {ops : Array Oper} {C : World → Prop} {Q : Act → Prop} {a : Act} {o : Oper} {rest : List Oper} (hgd : Region.wanted o (yielded ops a.tmps) = true) (ty : TypeId) (x : Operand) (ho : o.op = .load ty x)
    (ad : Addr) (v : Value) (hx : a.eval x = .pointer (some ad)) (hL : ∀ w, C w → (loadVar ty ad).run P w = .ok v w) (h : wpQuiet P ops C Q rest (a.put o.dst v)) : wpQuiet P ops C Q (o :: rest) a := by
  unfold wpQuiet
  rw [if_pos hgd]
  refine ⟨v, fun w hw => ?_, h⟩
  unfold Oper.quietAt execOp
  simp only [ho, hx, Instr.loadAt, Instr.sureAddr, Sem.run_bind, Sem.run_pure, Result.andThen_ok, hL w hw]
  exact ⟨rfl, rfl⟩
/-- A block that is known whole is loaded whole, whatever was drawn. -/
theorem load_blk {P : Program} {w : World} {g : Nat} {t ty : TypeId} {cs : Array Value} {d : TypeDesc} (h : Blk w g t cs) (hu : P.underlying ty = some d) (hd : d.isRow = true) (hs : (P.info? ty).map (·.size) = some cs.size) :
    ∀ w', (∃ k, w' = w.drewN k) → (loadVar ty ⟨g, 0, none⟩).run P w' = .ok (.agg cs) w' := fun w' ⟨k, hk⟩ => by
  subst hk
  have hB := h.drewN k
  have := run_loadVar_at (P := P) (w.drewN k) ⟨g, 0, none⟩ ty cs.toList d (fun j v hv => by
    have e2 : (⟨g, 0, none⟩ : Addr).add j = ⟨g, j, none⟩ := by unfold Addr.add; split <;> simp_all
    rw [e2, hB.cell j]; simpa using hv) hu hd (by simpa using hs)
  simpa using this
theorem results_cell2 {fn : Func} {p u v : Tmp} {ty : TypeId} (h : fn.results = #[.cell p ty, .tmp u, .tmp v]) (tmps : Array Value) (P : Program) (w : World) {g : Nat} {t : TypeId} {cs : Array Value} {fs : Array Field} {x y : Value}
    (hp : tmps.getD p undef = .pointer (some ⟨g, 0, none⟩)) (hB : Blk w g t cs) (hu : P.underlying ty = some (.struct fs))
    (hi : (P.info? ty).map (·.size) = some cs.size) (hx : tmps.getD u undef = x) (hy : tmps.getD v undef = y) :
    (results fn tmps).run P w = .ok (.tuple #[.agg cs, x, y]) w := by
  have hl := run_loadVar_row (P := P) w g t ty cs (0, 0) _ hB hu rfl hi
  subst hx hy
  have hp2 : tmps[p]?.getD undef = .pointer (some ⟨g, 0, none⟩) := by simpa using hp
  simp [results, h, hp2, asAddr, hl]
/-- A whole store, by the operation's own law: the world behind it is a letter. -/
theorem wp_store_allB {P : Program} {o : Oper} {a : Act} {w : World} {K : Act → World → Prop} {Q : Exit → Act → World → Prop} (ty : TypeId) (x y : Operand) (ho : o.op = .store ty x y)
    (g : Nat) (t : TypeId) (l vs : List Value) (hB : Blk w g t l.toArray) (hx : a.eval x = .pointer (some ⟨g, 0, none⟩)) (hy : a.eval y = .agg vs.toArray)
    (hl : vs.length = l.length) (hi : (P.info? ty).map (·.size) = some vs.length) (h1 : ∀ v ∈ vs, v.oneCell' = true)
    (h : ∀ w', Blk w' g t vs.toArray → w.grownBy w' (some g) → w'.heap.size = w.heap.size → K (a.put o.dst undef) w') : o.wp P a w K Q := by
  have hb := blk_setCells vs 0 w l hB (by omega)
  rw [show l.take 0 ++ vs ++ l.drop (0 + vs.length) = vs by simp [hl]] at hb
  exact wp_store_mid ty x y ho g 0 vs.toArray hx hy (there_blk hB (by simp; omega)) (by simpa using hi) (all_oneCell_toArray h1)
    (h _ hb (only_setCells g vs 0 w w (only_refl w _)) (size_setCells g vs 0 w))
/-- As the kit's store into the middle of a row: the world behind it is a letter. -/
theorem wpList_store_midL {P : Program} {ops : Array Oper} {rest : List Oper} {op : Oper} {a : Act} {w : World} {Q : Exit → Act → World → Prop} (hgd : op.guard = none) (ty : TypeId) (x y : Operand) (ho : op.op = .store ty x y)
    (b o : Nat) (cells : Array Value) (hx : a.eval x = .pointer (some ⟨b, o, none⟩)) (hy : a.eval y = .agg cells)
    (ht : w.there b o cells.size) (hi : (P.info? ty).map (·.size) = some cells.size) (h1 : cells.all (·.oneCell') = true)
    (h : ∀ w', Sl (w.setCells b o cells.toList = w') → wpList P ops Q rest (a.put op.dst undef) w') : wpList P ops Q (op :: rest) a w :=
  wpList_store_mid hgd ty x y ho b o cells hx hy ht hi h1 (h _ ⟨rfl⟩)

end Go.Proofs.YtmgblbkmbiiofaaDoor

namespace Go.Proofs.YtmgblbkmbiiofaaDoor

abbrev Bs := List UInt8
/-- A Go string of bytes. -/
def bsS (l : List UInt8) : ByteArray := ⟨l.toArray⟩
theorem bs_list (l : List UInt8) : (bsS l).toList = l := by rw [ByteArray.toList_eq]; rfl
theorem bs_size (l : List UInt8) : (bsS l).size = l.length := by simp [bsS, ByteArray.size]
theorem bs_data (l : List UInt8) : (bsS l).data.toList = l := rfl
theorem bs_cut (l : List UInt8) (a b : Nat) : (bsS l).extract a b = bsS ((l.drop a).take (b - a)) := by
  refine ByteArray.ext ?_
  rw [ByteArray.data_extract]
  refine Array.ext' ?_
  simp [bsS, List.extract_eq_take_drop]
theorem bs_app (a b : List UInt8) : bsS a ++ bsS b = bsS (a ++ b) := by
  refine ByteArray.ext ?_
  refine Array.ext' ?_
  simp [bsS]
theorem bs_of (s : ByteArray) : bsS s.data.toList = s := by
  cases s
  rfl
theorem bs_inj {a b : List UInt8} (h : bsS a = bsS b) : a = b := congrArg (fun x => x.data.toList) h
theorem bs_beq (a b : List UInt8) : ((bsS a).toList == (bsS b).toList) = decide (a = b) := by
  rw [bs_list, bs_list]
  by_cases h : a = b
  · subst h; simp
  · rw [decide_eq_false h]; exact beq_eq_false_iff_ne.2 h
theorem bs_at {l : List UInt8} {i : Nat} (h : i < (bsS l).size) : (bsS l)[i] = l.getD i 0 := by
  have h2 : i < l.length := by rw [bs_size] at h; exact h
  show l.toArray[i] = _
  simp [h2]
/-- Texts as cells. -/
def strsA (l : List (List UInt8)) : List Value := l.map fun s => .string (bsS s)
end Go.Proofs.YtmgblbkmbiiofaaDoor

namespace Go.Proofs.YtmgblbkmbiiofaaDoor
open Go.RowKit

def signB (c : Int) : Bool := decide (97 ≤ c ∧ c ≤ 122) || decide (48 ≤ c ∧ c ≤ 57) || c == 46 || c == 45 || c == 95
theorem psign_any (c : Int) (w : World) : Calls Tryd.prog 38 #[.int .u8 c] w fun e w' => e = .returned (.bool (signB c)) ∧ w = w' := by
  go_enter Tryd.func38, Tryd.ntmps38
  go_wp2
  all_goals go_ret
  all_goals exact ⟨ret_bool (by rw [Bool.eq_iff_iff]; simp [signB] <;> omega), rfl⟩

def nameB (s : ByteArray) : Bool := decide (1 ≤ s.size) && decide (s.size ≤ 24) && !(s.toList == [46]) && !(s.toList == [46, 46]) && s.data.toList.all fun c => signB (c.toNat : Nat)

theorem name_pre {s : ByteArray} (h1 : 1 ≤ s.size) (h2 : s.size ≤ 24) (h3 : (s.toList == [46]) = false) (h4 : (s.toList == [46, 46]) = false) : nameB s = s.data.toList.all fun c => signB (c.toNat : Nat) := by
  unfold nameB; rw [h3, h4]; simp [h1, h2]
theorem at_list {s : ByteArray} {i : Nat} (h : i < s.size) : s.data.toList[i]? = some s[i] := by
  have : i < s.data.toList.length := by simpa using h
  rw [List.getElem?_eq_getElem this]; rfl

theorem nm1 {s : ByteArray} (h : (s.size : Int) < 1) : nameB s = false := by unfold nameB; rw [show decide (1 ≤ s.size) = false from decide_eq_false (by omega)]; rfl
theorem nm2 {s : ByteArray} (h : 24 < (s.size : Int)) : nameB s = false := by unfold nameB; rw [show decide (s.size ≤ 24) = false from decide_eq_false (by omega)]; simp
theorem nm3 {s : ByteArray} (h : s.toList = [46]) : nameB s = false := by unfold nameB; rw [h]; simp
theorem nm4 {s : ByteArray} (h : s.toList = [46, 46]) : nameB s = false := by unfold nameB; rw [h]; simp
theorem nm5 {s : ByteArray} {i : Nat} (hi : i < s.size) (hc : signB ((s[i].toNat : Nat) : Int) = false) : nameB s = false := by
  unfold nameB
  rw [show (s.data.toList.all fun c => signB (c.toNat : Nat)) = false from List.all_eq_false.2 ⟨s[i], List.mem_of_getElem? (at_list hi), by rw [hc]; simp⟩]
  simp

set_option maxHeartbeats 1000000 in
theorem name_any (s : ByteArray) (w : World) (hs : s.size ≤ 9223372036854775807) : Calls Tryd.prog 22 #[.string s] w fun e w' => e = .returned (.bool (nameB s)) ∧ w = w' := by
  by_cases h1 : (s.size : Int) < 1
  · have HN := Sl.mk (nm1 h1)
    go_enter Tryd.func22, Tryd.ntmps22
    go_wp2
    go_step3
    go_wp2
    rw [Exit.noGoto_ret]
    go_ret
    exact ⟨by rw [HN.out]; rfl, rfl⟩
  by_cases h2 : 24 < (s.size : Int)
  · have HN := Sl.mk (nm2 h2)
    go_enter Tryd.func22, Tryd.ntmps22
    go_wp2
    go_step3
    go_wp2
    rw [Exit.noGoto_ret]
    go_ret
    exact ⟨by rw [HN.out]; rfl, rfl⟩
  by_cases h3 : s.toList = [46]
  · have HN := Sl.mk (nm3 h3)
    go_enter Tryd.func22, Tryd.ntmps22
    go_wp2
    go_step3
    go_wp2
    rw [Exit.noGoto_ret]
    go_ret
    exact ⟨by rw [HN.out]; rfl, rfl⟩
  have h3' : (s.toList == [46]) = false := by simpa using h3
  by_cases h4 : s.toList = [46, 46]
  · have HN := Sl.mk (nm4 h4)
    go_enter Tryd.func22, Tryd.ntmps22
    go_wp2
    go_step3
    go_wp2
    rw [Exit.noGoto_ret]
    go_ret
    exact ⟨by rw [HN.out]; rfl, rfl⟩
  have h4' : (s.toList == [46, 46]) = false := by simpa using h4
  have HN := Sl.mk (name_pre (s := s) (by omega) (by omega) h3' h4')
  go_enter Tryd.func22, Tryd.ntmps22
  go_wp2
  go_step3
  go_wp2
  go_step3
  go_wp2
  go_loopw [3, 22] (fun s3 s22 wr => ∃ i : Nat, i ≤ s.size ∧ s22 = .int .i64 i ∧ wr = w ∧ Hid (∀ j, j < i → ∃ c, s.data.toList[j]? = some c ∧ signB (c.toNat : Nat) = true)) (fun s3 s22 _ => s.size - (intOf s22).toNat)
  case atStart => exact ⟨0, Nat.zero_le _, rfl, rfl, fun j hj => absurd hj (Nat.not_lt_zero _)⟩
  case round =>
    obtain ⟨i, hi, rfl, rfl, HI⟩ := hrel
    by_cases hlt : i < s.size
    · have hib : (i : Int) < (s.size : Int) := by omega
      cases hc : signB ((s[i].toNat : Nat) : Int)
      · have H5 := Sl.mk (nm5 hlt hc)
        go_wp2_with fail
        refine (psign_any _ _).mono ?_
        rintro e w' ⟨rfl, rfl⟩
        rw [hc]
        go_wp2_with fail
        rw [Exit.noGoto_ret]
        go_ret
        exact ⟨by rw [H5.out]; rfl, rfl⟩
      · have HX := Sl.mk (show ∀ j, j < i + 1 → ∃ c, s.data.toList[j]? = some c ∧ signB (c.toNat : Nat) = true from fun j hj => by
          rcases Nat.lt_or_ge j i with h | h
          · exact HI j h
          · obtain rfl : j = i := by omega
            exact ⟨_, at_list hlt, hc⟩)
        go_wp2_with fail
        refine (psign_any _ _).mono ?_
        rintro e w' ⟨rfl, rfl⟩
        rw [hc]
        go_wp2_with fail
        exact ⟨⟨i + 1, by omega, by go_num, trivial, HX.out⟩, by simp [intOf]; omega⟩
    · obtain rfl : i = s.size := by omega
      have HA := Sl.mk (show (s.data.toList.all fun c => signB (c.toNat : Nat)) = true from List.all_eq_true.2 fun c hc => by
        obtain ⟨j, hj, e⟩ := List.mem_iff_getElem.1 hc
        obtain ⟨c', h1, h2⟩ := HI j (by simpa using hj)
        rw [List.getElem?_eq_getElem hj, e] at h1
        injection h1 with h1
        subst h1
        exact h2)
      go_wp2_with fail
      rw [Exit.noGoto_ret]
      go_ret
      exact ⟨by rw [HN.out, HA.out]; rfl, rfl⟩

end Go.Proofs.YtmgblbkmbiiofaaDoor

namespace Go.Proofs.YtmgblbkmbiiofaaDoor
open Go.RowKit

def strV (l : List ByteArray) : List Value := l.map Value.string
theorem strV_len (l : List ByteArray) : (strV l).length = l.length := by simp [strV]
theorem strV_at {l : List ByteArray} {i : Nat} {s : ByteArray} (h : l[i]? = some s) : (strV l)[i]? = some (.string s) := by simp [strV, h]
theorem strV_app (a b : List ByteArray) : strV (a ++ b) = strV a ++ strV b := by simp [strV]
theorem strV_one (l : List ByteArray) : ∀ v ∈ strV l, v.oneCell' = true := by
  intro v hv
  obtain ⟨s, _, rfl⟩ := List.mem_map.1 hv
  rfl
theorem strs_n {w : World} {B n : Nat} {A : Option Addr} {p : List ByteArray} (h : Reads w B 1 A n (strV p)) : p.length = n := by
  have := h.1
  rw [strV_len] at this
  omega
theorem strs_at {w : World} {B n : Nat} {A : Option Addr} {p : List ByteArray} (h : Reads w B 1 A n (strV p)) {i : Nat} {s : ByteArray} (hi : p[i]? = some s) :
    ∃ ad, A = some ad ∧ ad.block < B ∧ w.cell? (ad.add i) = some (.string s) := by
  have hl := strs_n h
  have hil : i < p.length := (List.getElem?_eq_some_iff.1 hi).1
  obtain ⟨ad, e, hb, hc⟩ := h.2 (by omega)
  exact ⟨ad, e, hb, hc i _ (strV_at hi)⟩
theorem take_snoc' {α : Type} {l : List α} {i : Nat} {r : α} (h : l[i]? = some r) : l.take (i + 1) = l.take i ++ [r] := by rw [List.take_add_one, h]; rfl
theorem drop_cons1 {α : Type} {l : List α} {i : Nat} {r : α} (h : l[i]? = some r) : l.drop i = r :: l.drop (i + 1) := by
  have hi := (List.getElem?_eq_some_iff.1 h).1
  rw [List.drop_eq_getElem_cons hi]
  rw [List.getElem?_eq_getElem hi] at h
  injection h with h
  rw [h]

def rightB (p : List ByteArray) : Bool := decide (p.length ≤ 8) && p.all nameB
def badI : List ByteArray → Nat
  | [] => 0
  | s :: l => if nameB s = false then 0 else badI l + 1
def badF (p : List ByteArray) : Int := if badI p < p.length then badI p else -1
theorem badI_le : ∀ p : List ByteArray, badI p ≤ p.length
  | [] => Nat.le_refl _
  | s :: l => by unfold badI; split <;> simp [badI_le l]
theorem bad_all : ∀ p : List ByteArray, (badI p < p.length) ↔ p.all nameB = false
  | [] => by simp [badI]
  | s :: l => by
    have ih := bad_all l
    unfold badI
    cases hs : nameB s
    · simp [hs]
    · simp only [Bool.true_eq_false, if_false, List.all_cons, hs, Bool.true_and, List.length_cons]
      rw [← ih]; omega

theorem badc_any (s : ByteArray) (w : World) (hs : s.size ≤ 9223372036854775807) :
    Calls Tryd.prog 83 #[.string s] w fun e w' => e = .returned (.bool (!nameB s)) ∧ w = w' := by
  go_enter Tryd.func83, Tryd.ntmps83
  go_wp2_with fail
  refine (name_any s _ hs).mono ?_
  rintro e w' ⟨rfl, rfl⟩
  cases eN : nameB s
  all_goals
    go_wp2_with fail
    go_ret
    exact ⟨by first | rfl | (rw [eN]; rfl), rfl⟩

set_option maxHeartbeats 1000000 in
theorem badx_any (A : Option Addr) (n c : Nat) (p : List ByteArray) (w : World) (hn : n ≤ 1000000) (hs : ∀ s ∈ p, s.size ≤ 9223372036854775807) (hR : Reads w w.heap.size 1 A n (strV p)) :
    Calls Tryd.prog 93 #[.slice A n c, .func (.func 83) #[] #[]] w fun e w' => e = .returned (.int .i64 (badF p)) ∧ w = w' := by
  have HL := Sl.mk (strs_n hR)
  have HR := Sl.mk hR
  have HSZ := Sl.mk hs
  clear hR hs
  go_enter Tryd.func93, Tryd.ntmps93
  go_wp2_with fail
  go_loopw [5, 8] (fun _ s8 wr => ∃ i : Nat, i ≤ n ∧ s8 = .int .i64 i ∧ Hid (badI p = i + badI (p.drop i)) ∧ w = wr) (fun _ s8 _ => n - (intOf s8).toNat)
  case atStart => exact ⟨0, Nat.zero_le _, rfl, by simp [Hid], rfl⟩
  case round =>
    obtain ⟨i, hi, rfl, HI, rfl⟩ := hrel
    by_cases hil : i < n
    · obtain ⟨s, hs⟩ : ∃ s, p[i]? = some s := ⟨_, List.getElem?_eq_getElem (by rw [HL.out]; exact hil)⟩
      obtain ⟨ad, rfl, hb, hc⟩ := strs_at HR.out hs
      have HD := Sl.mk (drop_cons1 hs)
      have hsz := HSZ.out s (List.mem_of_getElem? hs)
      clear hs
      go_wp2_with fail
      refine (badc_any s _ hsz).mono ?_
      rintro e w2 ⟨rfl, rfl⟩
      cases eR : nameB s
      · have HN := Sl.mk (show badF p = i by
          have : badI p = i := by rw [HI, HD.out, badI, if_pos eR]; omega
          unfold badF; rw [this, if_pos (by rw [HL.out]; exact hil)])
        go_wp2_with fail
        go_ret
        exact ⟨by rw [HN.out]; rfl, rfl⟩
      · have HN := Sl.mk (show badI p = (i + 1) + badI (p.drop (i + 1)) by rw [HI, HD.out, badI, if_neg (by rw [eR]; simp)]; omega)
        go_wp2_with fail
        go_roundw
        case rel => exact ⟨i + 1, by omega, by go_num, HN.out, trivial⟩
        case measure => simp [intOf]; omega
    · obtain rfl : i = n := by omega
      have HN := Sl.mk (show badF p = -1 by
        have h : p.drop i = [] := List.drop_of_length_le (by rw [HL.out]; omega)
        have h0 : badI p = i + badI (p.drop i) := HI
        rw [h] at h0
        have h1 : badI p = i := by simpa [badI] using h0
        unfold badF; rw [if_neg (by rw [HL.out, h1]; omega)])
      go_wp2_with fail
      go_ret
      exact ⟨by rw [HN.out]; rfl, rfl⟩

theorem badn_any (A : Option Addr) (n c : Nat) (p : List ByteArray) (w : World) (hn : n ≤ 1000000) (hs : ∀ s ∈ p, s.size ≤ 9223372036854775807) (hR : Reads w w.heap.size 1 A n (strV p)) :
    Calls Tryd.prog 82 #[.slice A n c, .func (.func 83) #[] #[]] w fun e w' => e = .returned (.bool (!p.all nameB)) ∧ w = w' := by
  have hb := bad_all p
  have H0 := Sl.mk (badx_any A n c p w hn hs hR)
  cases hA : p.all nameB
  · have hF : badF p = ((badI p : Nat) : Int) := by unfold badF; rw [if_pos (hb.2 hA)]
    obtain ⟨k, hk⟩ : ∃ k, badI p = k := ⟨_, rfl⟩
    rw [hk] at hF
    have HF := Sl.mk hF
    clear hF hk hb hA
    go_enter Tryd.func82, Tryd.ntmps82
    go_wp2_with fail
    refine H0.out.mono ?_
    rintro e w' ⟨rfl, rfl⟩
    rw [HF.out]
    go_wp2_with fail
    go_ret
    exact ⟨by simp, rfl⟩
  · have hF : badF p = -1 := by unfold badF; rw [if_neg (fun h => by rw [hb.1 h] at hA; cases hA)]
    have HF := Sl.mk hF
    clear hF hb hA
    go_enter Tryd.func82, Tryd.ntmps82
    go_wp2_with fail
    refine H0.out.mono ?_
    rintro e w' ⟨rfl, rfl⟩
    rw [HF.out]
    go_wp2_with fail
    go_ret
    exact ⟨by simp, rfl⟩

theorem right_any (A : Option Addr) (n c : Nat) (p : List ByteArray) (w : World) (hn : n ≤ 1000000) (hs : ∀ s ∈ p, s.size ≤ 9223372036854775807) (hR : Reads w w.heap.size 1 A n (strV p)) :
    Calls Tryd.prog 66 #[.slice A n c] w fun e w' => e = .returned (.bool (rightB p)) ∧ w = w' := by
  have hl := strs_n hR
  have H0 := Sl.mk (badn_any A n c p w hn hs hR)
  by_cases h8 : n ≤ 8
  · have HB := Sl.mk (show rightB p = p.all nameB by unfold rightB; rw [hl, decide_eq_true h8]; rfl)
    clear hl hR hs
    cases hA : p.all nameB
    all_goals
      rw [hA] at H0
      go_enter Tryd.func66, Tryd.ntmps66
      go_wp2_with fail
      refine H0.out.mono ?_
      rintro e w' ⟨rfl, rfl⟩
      go_wp2_with fail
      go_ret
      exact ⟨by rw [HB.out, hA]; rfl, rfl⟩
  · have HB := Sl.mk (show rightB p = false by unfold rightB; rw [hl, decide_eq_false h8]; rfl)
    have h8' : decide ((n : Int) ≤ 8) = false := by simp; omega
    clear hl hR hs
    go_enter Tryd.func66, Tryd.ntmps66
    go_wp2_with fail
    go_ret
    exact ⟨by rw [HB.out]; rfl, rfl⟩

theorem toList_inj {s t : ByteArray} (h : s.toList = t.toList) : s = t := by
  apply ByteArray.ext
  apply Array.toList_inj.1
  simpa [ByteArray.toList_eq] using h

end Go.Proofs.YtmgblbkmbiiofaaDoor

namespace Go.Proofs.YtmgblbkmbiiofaaDoor
open Go.RowKit

def u8s (l : List Nat) : List Value := l.map fun n : Nat => Value.int .u8 (n : Int)
theorem u8s_len (l : List Nat) : (u8s l).length = l.length := by simp [u8s]
theorem u8s_one (l : List Nat) : ∀ v ∈ u8s l, v.oneCell' = true := by
  intro v hv
  simp only [u8s, List.mem_map] at hv
  obtain ⟨n, -, rfl⟩ := hv
  rfl
theorem cell_lt' {w : World} {p : Addr} {v : Value} (h : w.cell? p = some v) : p.block < w.heap.size := by
  rcases Nat.lt_or_ge p.block w.heap.size with hlt | hge
  · exact hlt
  · have : w.heap[p.block]? = none := Array.getElem?_eq_none hge
    simp [World.cell?, this] at h

end Go.Proofs.YtmgblbkmbiiofaaDoor

namespace Go.Proofs.YtmgblbkmbiiofaaDoor
open Go.RowKit
attribute [local go_sem ↓] Go.wp_at_zero Go.wp_at_succ

theorem str_ne {s t : ByteArray} (h : s ≠ t) : (s.toList == t.toList) = false := by
  cases hb : s.toList == t.toList
  · rfl
  · exact absurd (toList_inj (by simpa using hb)) h
def eqP (p q : List ByteArray) : Bool := decide (p = q)
theorem eqP_take {p q : List ByteArray} {i : Nat} {s t : ByteArray} (hs : p[i]? = some s) (ht : q[i]? = some t) (h : s ≠ t) : eqP p q = false := by
  unfold eqP
  refine decide_eq_false fun e => h ?_
  rw [e, ht] at hs
  injection hs with hs
  exact hs.symm



theorem strInfo : (Tryd.prog.info? 9).map (fun i => (i.zero, i.size, i.bytes)) = some (some (.string ByteArray.empty), 1, 16) := by kernel_rfl
theorem u8Info : (Tryd.prog.info? 5).map (fun i => (i.zero, i.size, i.bytes)) = some (some (.int .u8 0), 1, 1) := by kernel_rfl


theorem u8s_app (a b : List Nat) : u8s (a ++ b) = u8s a ++ u8s b := by simp [u8s]
theorem bytes_n {w : World} {B n : Nat} {A : Option Addr} {l : List Nat} (h : Reads w B 1 A n (u8s l)) : l.length = n := by
  have := h.1
  rw [u8s_len] at this
  omega

end Go.Proofs.YtmgblbkmbiiofaaDoor
