/-
  A value is pushed into the top list: what each store leaves, in either order.
-/
import Derived.Test.YtbnmbncjefnpiaaDoorCdT
import Derived.Test.YtbnmbncjefnpiaaDoorCdU
namespace Go.Proofs.YtbnmbncjefnpiaaDoor
open Go.RowKit

section
variable {w : World} {base : Nat} {e : TypeId} {size n g c : Nat} {xs : List Value}
theorem own_blkC (h : w.ownsRow base e size (.slice (some ⟨g, 0, none⟩) n c) n xs) : ∃ cur : Array Value, Blk w g e cur ∧ n ≤ c ∧ cur.size = c * size ∧ cur.toList.take (n * size) = xs ∧ base ≤ g ∧ c ≤ maxLen := by
  rcases h.2 with ⟨e1, _⟩ | ⟨g', cap, cur, e1, h1, h2, h3, h4, h5, h6⟩
  · cases e1
  · injection e1 with e1 _ e3
    injection e1 with e1
    injection e1 with e1
    subst e1 e3
    exact ⟨cur, h2, h3, h5, h6, h1, h4⟩
/-- Cells of a row are stored over. -/
theorem own_put (h : w.ownsRow base e size (.slice (some ⟨g, 0, none⟩) n c) n xs) (o : Nat) (vs : List Value) (hk : o + vs.length ≤ n * size) :
    (w.setCells g o vs).ownsRow base e size (.slice (some ⟨g, 0, none⟩) n c) n (xs.take o ++ vs ++ xs.drop (o + vs.length)) ∧ w.there g o vs.length := by
  obtain ⟨cur, hB, h3, h5, h6, h1, h4⟩ := own_blkC h
  have hm : n * size ≤ c * size := Nat.mul_le_mul_right _ h3
  have hlen : cur.toList.length = c * size := by simpa using h5
  have hB' : Blk w g e cur.toList.toArray := by simpa using hB
  have hxl : xs.length = n * size := h.1
  have hb := blk_setCells vs o w cur.toList hB' (by omega)
  refine ⟨⟨by simp only [List.length_append, List.length_take, List.length_drop, hxl]; omega, .inr ⟨g, c, _, rfl, h1, hb, h3, h4, by simp only [List.size_toArray, List.length_append, List.length_take, List.length_drop, hlen]; omega, ?_⟩⟩, there_blk hB' (by omega)⟩
  rw [← h6]
  simp only [List.take_append, List.length_append, List.length_take, hlen, List.take_take, List.drop_take]
  have e1 : min o (c * size) = o := by omega
  have e2 : min (n * size) o = o := by omega
  have e3 : min o (n * size) = o := by omega
  rw [e1, e2, e3, List.take_of_length_le (l := vs) (by omega)]
end
theorem osC_set (ps : List Opn) (o o' : Opn) : (osC (ps ++ [o])).set (ps.length * 4 + 3) o'.row = osC (ps ++ [o']) := by
  rw [osC_app, osC_app, List.set_append_right _ _ (by rw [osC_len]; omega), osC_len, osC_one, osC_one]
  rw [show ps.length * 4 + 3 - ps.length * 4 = 3 by omega]
  rfl
theorem osC_hdr (ps : List Opn) (o : Opn) (qs : List Opn) : (osC (ps ++ o :: qs))[ps.length * 4 + 3]? = some o.row := by
  rw [osC_app, List.getElem?_append_right (by rw [osC_len]; omega), osC_len, show ps.length * 4 + 3 - ps.length * 4 = 3 by omega]
  simp [osC, vxsC, Opn.x, vxC_mk, Opn.row]
/-- The header of an open list, as it lies. -/
theorem Stk.hdr {w : World} {base gs n c : Nat} {ps qs : List Opn} {o : Opn} (h : Stk w base (some ⟨gs, 0, none⟩) n c (ps ++ o :: qs)) : w.cell? ⟨gs, ps.length * 4 + 3, none⟩ = some o.row ∧ w.frozen? ⟨gs, ps.length * 4 + 3, none⟩ = false := by
  have hl := h.len
  rw [List.length_append, List.length_cons] at hl
  exact ⟨by rw [h.row.cellAt _ (by omega), osC_hdr], h.row.frozenAt _⟩
theorem Stk.form {w : World} {base n c : Nat} {A : Option Addr} {os : List Opn} (h : Stk w base A n c os) (hn : os ≠ []) : ∃ gs, A = some ⟨gs, 0, none⟩ := by
  have hp := List.length_pos_iff.2 hn
  rw [h.len] at hp
  obtain ⟨g, c', e, _⟩ := ownCells h.row hp
  injection e with e _ _
  exact ⟨g, e⟩

/-- The two stores. -/
structure PushF (w1 : World) (base gs n c m gx L cx : Nat) (ps : List Opn) (o o' : Opn) (x : Vx) : Prop where
  th : w1.there gx (L * 4) 4
  ce : w1.cell? ⟨gs, m * 4 + 3, none⟩ = some o.row ∧ w1.frozen? ⟨gs, m * 4 + 3, none⟩ = false
  ab : (w1.setCells gx (L * 4) (vxC x)).cell? ⟨gs, m * 4 + 3, none⟩ = some o.row ∧ (w1.setCells gx (L * 4) (vxC x)).frozen? ⟨gs, m * 4 + 3, none⟩ = false ∧
    Stk ((w1.setCells gx (L * 4) (vxC x)).setCell ⟨gs, m * 4 + 3, none⟩ o'.row) base (some ⟨gs, 0, none⟩) n c (ps ++ [o']) ∧ Below base w1 ((w1.setCells gx (L * 4) (vxC x)).setCell ⟨gs, m * 4 + 3, none⟩ o'.row)
  ba : (w1.setCell ⟨gs, m * 4 + 3, none⟩ o'.row).there gx (L * 4) 4 ∧ Stk ((w1.setCell ⟨gs, m * 4 + 3, none⟩ o'.row).setCells gx (L * 4) (vxC x)) base (some ⟨gs, 0, none⟩) n c (ps ++ [o']) ∧
    Below base w1 ((w1.setCell ⟨gs, m * 4 + 3, none⟩ o'.row).setCells gx (L * 4) (vxC x))

theorem push_facts {w w1 : World} {base gs n c m gx L cx : Nat} {ps : List Opn} {o : Opn} {x : Vx} {z : List Value} (H : Stk w base (some ⟨gs, 0, none⟩) n c (ps ++ [o])) (hm : ps.length = m) (hL : o.l.length = L) (hfew : L < 1000)
    (hx : VxOk w (Free w base (some gs) (ps ++ [o])) x) (hz : z.length = 4) (hbase : base ≤ w.heap.size)
    (hown : w1.ownsRow base 26 4 (.slice (some ⟨gx, 0, none⟩) (L + 1) cx) (L + 1) (vxsC o.l ++ z)) (hg : w.grownBy w1 o.blk) (hbl : some gx = o.blk ∨ some gx = some w.heap.size) :
    PushF w1 base gs n c m gx L cx ps o ⟨some ⟨gx, 0, none⟩, o.l ++ [x], cx⟩ x := by
  have hom : o ∈ ps ++ [o] := by simp
  have hn : ps.length + 1 = n := by have := H.len; simpa using this
  subst hm hL hn
  obtain ⟨o', ho'⟩ : ∃ o' : Opn, o' = ⟨some ⟨gx, 0, none⟩, o.l ++ [x], cx⟩ := ⟨_, rfl⟩
  rw [← ho']
  have hrow' : o'.row = .slice (some ⟨gx, 0, none⟩) (o.l.length + 1) cx := by rw [ho']; simp [Opn.row]
  have hl' : o'.l = o.l ++ [x] := by rw [ho']
  have hblk' : o'.blk = some gx := by unfold Opn.blk; rw [hrow']; rfl
  have hgs : gs < w.heap.size ∧ base ≤ gs := ⟨(H.row.lt gs rfl).2, (H.row.lt gs rfl).1⟩
  have hgx1 : gx < w1.heap.size ∧ base ≤ gx := ⟨(hown.lt gx rfl).2, (hown.lt gx rfl).1⟩
  have hgn : gs ≠ gx := fun e => by
    rcases hbl with h | h
    · rcases H.apart o hom with h2 | h2
      · rw [h2] at h; cases h
      · exact h2 (by rw [← h, ← e]; rfl)
    · injection h; omega
  have hso : (Value.slice (some ⟨gs, 0, none⟩) (ps.length + 1) c).ownBlock = some gs := rfl
  have hap : (Value.slice (some ⟨gs, 0, none⟩) (ps.length + 1) c).ownBlock = none ∨ (Value.slice (some ⟨gs, 0, none⟩) (ps.length + 1) c).ownBlock ≠ o.blk := .inr fun e => by
    rcases H.apart o hom with h2 | h2
    · rw [h2] at e; cases e
    · exact h2 e.symm
  have hst1 := H.row.kept hg hap
  have hcv : (vxC x).length = 4 := vxC_len x
  have hxl : (vxsC o.l).length = o.l.length * 4 := vxsC_len _
  have hrowx : ∀ W : World, W.ownsRow base 26 4 (.slice (some ⟨gx, 0, none⟩) (o.l.length + 1) cx) (o.l.length + 1) (vxsC o.l ++ z) → (W.setCells gx (o.l.length * 4) (vxC x)).ownsRow base 26 4 (.slice (some ⟨gx, 0, none⟩) (o.l.length + 1) cx) (o.l.length + 1) (vxsC o'.l) ∧ W.there gx (o.l.length * 4) 4 := fun W hW => by
    have h1 := own_put hW (o.l.length * 4) (vxC x) (by rw [hcv]; omega)
    rw [hcv] at h1
    have e1 : (vxsC o.l ++ z).take (o.l.length * 4) = vxsC o.l := by rw [List.take_left' hxl]
    have e2 : (vxsC o.l ++ z).drop (o.l.length * 4 + 4) = [] := List.drop_of_length_le (by rw [List.length_append, hxl, hz]; exact Nat.le_refl _)
    rw [e1, e2, List.append_nil] at h1
    rw [hl', vxsC_app, vxsC_one']
    exact h1
  have hhd : ∀ W : World, W.ownsRow base 26 4 (.slice (some ⟨gs, 0, none⟩) (ps.length + 1) c) (ps.length + 1) (osC (ps ++ [o])) → (W.cell? ⟨gs, ps.length * 4 + 3, none⟩ = some o.row ∧ W.frozen? ⟨gs, ps.length * 4 + 3, none⟩ = false) ∧
      (W.setCell ⟨gs, ps.length * 4 + 3, none⟩ o'.row).ownsRow base 26 4 (.slice (some ⟨gs, 0, none⟩) (ps.length + 1) c) (ps.length + 1) (osC (ps ++ [o'])) := fun W hW => by
    refine ⟨⟨by rw [hW.cellAt _ (by omega), osC_hdr], hW.frozenAt _⟩, ?_⟩
    have h1 := (hW.stored (ps.length * 4 + 3) o'.row).1
    rw [osC_set] at h1
    exact h1
  have hT1 : Two w w1 o.blk (some gs) := Two.of1 hg
  have hbl2 : o'.blk = o.blk ∨ ∃ g, o'.blk = some g ∧ w.heap.size ≤ g ∧ g < w1.heap.size := by
    rw [hblk']
    rcases hbl with h | h
    · exact .inl h
    · injection h with h; exact .inr ⟨gx, rfl, by omega, hgx1.1⟩
  have hgo : ∀ W : World, Two w W o.blk (some gs) → W.ownsRow base 26 4 (.slice (some ⟨gs, 0, none⟩) (ps.length + 1) c) (ps.length + 1) (osC (ps ++ [o'])) → W.ownsRow base 26 4 (.slice (some ⟨gx, 0, none⟩) (o.l.length + 1) cx) (o.l.length + 1) (vxsC o'.l) →
      w1.heap.size ≤ W.heap.size → Stk W base (some ⟨gs, 0, none⟩) (ps.length + 1) c (ps ++ [o']) := fun W hT h1 h2 hsz => by
    refine H.push hl' hfew ?_ hT h1 (by rw [hrow', hl']; rw [hl'] at h2; simpa using h2) hx
    rcases hbl2 with h | ⟨g, h3, h4, h5⟩
    · exact .inl h
    · exact .inr ⟨g, h3, h4, Nat.lt_of_lt_of_le h5 hsz⟩
  -- a, then b
  have hgA := only_setCells gx (vxC x) (o.l.length * 4) w1 w1 (only_refl w1 _)
  have hA := hrowx w1 hown
  have hstA := hst1.kept hgA (.inr (fun e => by injection e; exact hgn (by assumption)))
  have hB := hhd _ hstA
  have hgB := only_setCell (only_refl (w1.setCells gx (o.l.length * 4) (vxC x)) (some gs)) (ps.length * 4 + 3) o'.row
  have hrx : (some gx = o.blk ∨ some gx = some gs ∨ ∀ g, some gx = some g → w.heap.size ≤ g) := by
    rcases hbl with h | h
    · exact .inl h
    · exact .inr (.inr fun g e => by injection e with e; injection h with h; omega)
  have hTA := (hT1.step hgA hrx).step hgB (.inr (.inl rfl))
  have hbb : Below base w1 (w1.setCells gx (o.l.length * 4) (vxC x)) := below_only (Below.refl base w1) hgA (by have := hg.size; omega) hgx1.2
  -- b, then a
  have hB' := hhd w1 hst1
  have hgB' := only_setCell (only_refl w1 (some gs)) (ps.length * 4 + 3) o'.row
  have hownB := hown.kept hgB' (.inr (fun e => by injection e with e; exact hgn e.symm))
  have hA' := hrowx _ hownB
  have hgA' := only_setCells gx (vxC x) (o.l.length * 4) _ _ (only_refl (w1.setCell ⟨gs, ps.length * 4 + 3, none⟩ o'.row) (some gx))
  have hstB := hB'.2.kept hgA' (.inr (fun e => by injection e; exact hgn (by assumption)))
  have hTB := (hT1.step hgB' (.inr (.inl rfl))).step hgA' hrx
  have hbb' : Below base w1 (w1.setCell ⟨gs, ps.length * 4 + 3, none⟩ o'.row) := below_only (Below.refl base w1) hgB' (by have := hg.size; omega) hgs.2
  refine ⟨hA.2, hB'.1, ⟨hB.1.1, hB.1.2, hgo _ hTA hB.2 (hA.1.kept hgB (.inr (fun e => by injection e with e; exact hgn e.symm))) (by have := hgB.size; have := hgA.size; omega), below_only hbb hgB (by have := hbb.size; have := hg.size; omega) hgs.2⟩,
    hA'.2, hgo _ hTB hstB hA'.1 (by have := hgB'.size; have := hgA'.size; omega), below_only hbb' hgA' (by have := hbb'.size; have := hg.size; omega) hgx1.2⟩

/-- Where the value came with the append: the header alone is stored. -/
theorem push_hdr {w w1 : World} {base gs n c m gx L cx : Nat} {ps : List Opn} {o : Opn} {x : Vx} (H : Stk w base (some ⟨gs, 0, none⟩) n c (ps ++ [o])) (hm : ps.length = m) (hL : o.l.length = L) (hfew : L < 1000)
    (hx : VxOk w (Free w base (some gs) (ps ++ [o])) x) (hbase : base ≤ w.heap.size)
    (hown : w1.ownsRow base 26 4 (.slice (some ⟨gx, 0, none⟩) (L + 1) cx) (L + 1) (vxsC o.l ++ vxC x)) (hg : w.grownBy w1 o.blk) (hbl : some gx = o.blk ∨ some gx = some w.heap.size) :
    (w1.cell? ⟨gs, m * 4 + 3, none⟩ = some o.row ∧ w1.frozen? ⟨gs, m * 4 + 3, none⟩ = false) ∧ Stk (w1.setCell ⟨gs, m * 4 + 3, none⟩ (.slice (some ⟨gx, 0, none⟩) (L + 1) cx)) base (some ⟨gs, 0, none⟩) n c (ps ++ [⟨some ⟨gx, 0, none⟩, o.l ++ [x], cx⟩]) ∧
      Below base w1 (w1.setCell ⟨gs, m * 4 + 3, none⟩ (.slice (some ⟨gx, 0, none⟩) (L + 1) cx)) := by
  have hom : o ∈ ps ++ [o] := by simp
  have hn : ps.length + 1 = n := by have := H.len; simpa using this
  subst hm hL hn
  obtain ⟨o', ho'⟩ : ∃ o' : Opn, o' = ⟨some ⟨gx, 0, none⟩, o.l ++ [x], cx⟩ := ⟨_, rfl⟩
  rw [← ho']
  have hrow' : o'.row = .slice (some ⟨gx, 0, none⟩) (o.l.length + 1) cx := by rw [ho']; simp [Opn.row]
  rw [← hrow']
  have hl' : o'.l = o.l ++ [x] := by rw [ho']
  have hblk' : o'.blk = some gx := by unfold Opn.blk; rw [hrow']; rfl
  have hgs : gs < w.heap.size ∧ base ≤ gs := ⟨(H.row.lt gs rfl).2, (H.row.lt gs rfl).1⟩
  have hgx1 : gx < w1.heap.size ∧ base ≤ gx := ⟨(hown.lt gx rfl).2, (hown.lt gx rfl).1⟩
  have hgn : gs ≠ gx := fun e => by
    rcases hbl with h | h
    · rcases H.apart o hom with h2 | h2
      · rw [h2] at h; cases h
      · exact h2 (by rw [← h, ← e]; rfl)
    · injection h; omega
  have hap : (Value.slice (some ⟨gs, 0, none⟩) (ps.length + 1) c).ownBlock = none ∨ (Value.slice (some ⟨gs, 0, none⟩) (ps.length + 1) c).ownBlock ≠ o.blk := .inr fun e => by
    rcases H.apart o hom with h2 | h2
    · rw [h2] at e; cases e
    · exact h2 e.symm
  have hst1 := H.row.kept hg hap
  have hB : (w1.setCell ⟨gs, ps.length * 4 + 3, none⟩ o'.row).ownsRow base 26 4 (.slice (some ⟨gs, 0, none⟩) (ps.length + 1) c) (ps.length + 1) (osC (ps ++ [o'])) := by
    have h1 := (hst1.stored (ps.length * 4 + 3) o'.row).1
    rw [osC_set] at h1
    exact h1
  have hgB := only_setCell (only_refl w1 (some gs)) (ps.length * 4 + 3) o'.row
  have hT1 : Two w w1 o.blk (some gs) := Two.of1 hg
  refine ⟨⟨by rw [hst1.cellAt _ (by omega), osC_hdr], hst1.frozenAt _⟩, ?_, below_only (Below.refl base w1) hgB (by have := hg.size; omega) hgs.2⟩
  refine H.push hl' hfew ?_ (hT1.step hgB (.inr (.inl rfl))) hB ?_ hx
  · rw [hblk']
    rcases hbl with h | h
    · exact .inl h
    · injection h with h; exact .inr ⟨gx, rfl, by omega, Nat.lt_of_lt_of_le hgx1.1 hgB.size⟩
  · have hk2 := hown.kept hgB (.inr (fun e => by injection e with e; exact hgn e.symm))
    rw [← hrow'] at hk2
    rw [show o'.l.length = o.l.length + 1 by rw [hl']; simp, show vxsC o'.l = vxsC o.l ++ vxC x by rw [hl', vxsC_app, vxsC_one']]
    exact hk2
theorem Stk.cells {w : World} {base gs n c M : Nat} {ps : List Opn} {o : Opn} (h : Stk w base (some ⟨gs, 0, none⟩) n c (ps ++ [o])) (hM : ps.length = M) : ∀ j v, (vxC o.x)[j]? = some v → w.cell? ((⟨gs, M * 4, none⟩ : Addr).add j) = some v := fun j v hv => by
  have hl := h.len
  rw [List.length_append, List.length_cons, List.length_nil] at hl
  have hj : j < (vxC o.x).length := (List.getElem?_eq_some_iff.1 hv).1
  rw [vxC_len] at hj
  have e2 : (⟨gs, M * 4, none⟩ : Addr).add j = ⟨gs, M * 4 + j, none⟩ := by unfold Addr.add; split <;> simp_all
  rw [e2, h.row.cellAt _ (by omega), osC_app, List.getElem?_append_right (by rw [osC_len]; omega), osC_len, show M * 4 + j - ps.length * 4 = j by omega]
  simpa [osC, vxsC] using hv
/-- A header on the stack, loaded whole. -/
theorem Stk.whole {w : World} {base gs n c M : Nat} {ps : List Opn} {o : Opn} (h : Stk w base (some ⟨gs, 0, none⟩) n c (ps ++ [o])) (hM : ps.length = M) :
    (loadVar 26 ⟨gs, M * 4, none⟩).run Tryd.prog w = .ok (.agg (vxC o.x).toArray) w := by
  have hl := h.len
  rw [List.length_append, List.length_cons, List.length_nil] at hl
  refine run_loadVar_at w ⟨gs, M * 4, none⟩ 26 (vxC o.x) _ (fun j v hv => ?_) Tryd.underlying26 rfl (by rw [vxSize, vxC_len])
  have hj : j < (vxC o.x).length := (List.getElem?_eq_some_iff.1 hv).1
  rw [vxC_len] at hj
  have e2 : (⟨gs, M * 4, none⟩ : Addr).add j = ⟨gs, M * 4 + j, none⟩ := by unfold Addr.add; split <;> simp_all
  rw [e2, h.row.cellAt _ (by omega), osC_app, List.getElem?_append_right (by rw [osC_len]; omega), osC_len, show M * 4 + j - ps.length * 4 = j by omega]
  simpa [osC, vxsC] using hv

end Go.Proofs.YtbnmbncjefnpiaaDoor
