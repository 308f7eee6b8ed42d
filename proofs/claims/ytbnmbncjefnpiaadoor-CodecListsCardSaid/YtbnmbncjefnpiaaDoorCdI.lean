/-
  The contract of codec.copied.
-/
import Derived.Test.YtbnmbncjefnpiaaDoorCdC
import Derived.Test.YtbnmbncjefnpiaaDoorWordsV
namespace Go.Proofs.YtbnmbncjefnpiaaDoor
open Go.RowKit
attribute [local go_sem ↓] Go.wp_at_zero Go.wp_at_succ

theorem wp_of_call {P : Program} {o : Oper} {a : Act} {w : World} {K : Act → World → Prop} {Q : Exit → Act → World → Prop} {f : FuncId} {args : Array Value} {R : Ending → World → Prop} (hrun : (execOp a.eval o).run P w = .ok (.enter f args) w)
    (hc : Calls P f args w R) (h : ∀ e w', R e w' → ∃ v, e = .returned v ∧ K (a.put o.dst v) w') : o.wp P a w K Q := by
  unfold Oper.wp
  rw [hrun]
  refine hc.mono fun e w' hr => ?_
  obtain ⟨v, rfl, hk⟩ := h e w' hr
  exact hk
/-- A whole row stored over a whole row. -/
theorem wpList_store_all {P : Program} {ops : Array Oper} {rest : List Oper} {op : Oper} {a : Act} {w : World} {Q : Exit → Act → World → Prop} (hgd : op.guard = none) (ty : TypeId) (x y : Operand) (ho : op.op = .store ty x y)
    (g : Nat) (t : TypeId) (l vs : List Value) (hB : Blk w g t l.toArray) (hx : a.eval x = .pointer (some ⟨g, 0, none⟩)) (hy : a.eval y = .agg vs.toArray)
    (hl : vs.length = l.length) (hi : (P.info? ty).map (·.size) = some vs.length) (h1 : ∀ v ∈ vs, v.oneCell' = true)
    (h : ∀ w', Blk w' g t vs.toArray → w.grownBy w' (some g) → w'.heap.size = w.heap.size → wpList P ops Q rest (a.put op.dst undef) w') : wpList P ops Q (op :: rest) a w := by
  refine wpList_store_blk hgd ty x y ho g 0 t l vs hB hx hy (by omega) hi h1 fun w' h2 h3 h4 => ?_
  have e : l.take 0 ++ vs ++ l.drop (0 + vs.length) = vs := by simp [hl]
  rw [e] at h2
  exact h w' h2 h3 h4
theorem ownCapS {w : World} {base n size c : Nat} {e : TypeId} {A : Option Addr} {xs : List Value} (h : w.ownsRow base e size (.slice A n c) n xs) : n ≤ c ∧ c ≤ 9223372036854775807 := by
  obtain ⟨A', c', e, h1, h2⟩ := ownCap h
  injection e with _ _ e
  subst e
  unfold maxLen at h2
  exact ⟨h1, by omega⟩
theorem yieldsIf_loadA {P : Program} {ops : Array Oper} {S : World → Prop} {o : Oper} {a : Act} {v : Value} (hw : Region.wanted o (yielded ops a.tmps) = true) (ty : TypeId) (x : Operand) (ho : o.op = .load ty x) (ad : Addr) (u : Value) (hx : a.eval x = .pointer (some ad))
    (hL : ∀ w, S w → (loadVar ty ad).run P w = .ok u w) (hv : v = u := by rfl) : YieldsIf P ops S o v a := by
  subst hv
  exact .inl ⟨hw, fun w hS => by unfold execOp; simp only [ho, hx, Instr.loadAt, Instr.sureAddr, Sem.run_bind, Sem.run_pure, Result.andThen_ok, hL w hS]⟩


theorem ownApart {w : World} {b b' n n' s s' : Nat} {e e' : TypeId} {v v' : Value} {xs xs' : List Value} (h : w.ownsRow b e s v n xs) (h' : w.ownsRow b' e' s' v' n' xs') (hne : e ≠ e') : v.ownBlock = none ∨ v.ownBlock ≠ v'.ownBlock := by
  rcases h.2 with ⟨rfl, _⟩ | ⟨g, cap, cur, rfl, _, hh, _⟩
  · exact .inl rfl
  · refine .inr fun e => ?_
    rcases h'.2 with ⟨rfl, _⟩ | ⟨g', cap', cur', rfl, _, hh', _⟩
    · simp [Value.ownBlock] at e
    · have : g = g' := by simpa [Value.ownBlock] using e
      subst this
      rw [hh] at hh'
      injection hh' with hh'
      injection hh' with _ ht
      exact hne ht
theorem st_vx {ops : Array Oper} {rest : List Oper} {op : Oper} {a : Act} {w : World} {Q : Exit → Act → World → Prop} {g : Nat} {cs : Array Value} (hB : Blk w g 26 cs) (hgd : op.guard = none) (x y : Operand) (ho : op.op = .store 26 x y) (k n : Int) (pb : Option Addr) (bl cb : Nat) (pl : Option Addr) (ll cl : Nat)
    (hx : a.eval x = .pointer (some ⟨g, 0, none⟩)) (hy : a.eval y = .agg #[.int .i64 k, .int .i64 n, .slice pb bl cb, .slice pl ll cl]) (hs : cs.size = 4)
    (h : ∀ w', Blk w' g 26 #[.int .i64 k, .int .i64 n, .slice pb bl cb, .slice pl ll cl] → w.grownBy w' (some g) → w'.heap.size = w.heap.size → wpList Tryd.prog ops Q rest (a.put op.dst undef) w') : wpList Tryd.prog ops Q (op :: rest) a w :=
  wpList_store_all hgd 26 x y ho g 26 cs.toList [.int .i64 k, .int .i64 n, .slice pb bl cb, .slice pl ll cl] hB hx hy (by simp [hs]) vxSize (vxC_one (.mk k n pb [] cb pl [] cl) |> fun _ => by
    intro v hv
    simp only [List.mem_cons, List.not_mem_nil, or_false] at hv
    rcases hv with rfl | rfl | rfl | rfl <;> rfl) h

def CopPost (w : World) (v0 : Vc) (e : Ending) (w' : World) : Prop := ∃ x' : Vx, e = .returned (.agg (vxC x').toArray) ∧ x'.v = v0 ∧ VxOk w' (fun b => w.heap.size ≤ b ∧ b < w'.heap.size) x' ∧ Below w.heap.size w w'

/-- The end: what lies in the cell is a value of the call's own. -/
theorem cop_end {w w2 w3 : World} {k n : Int} {A1 : Option Addr} {b : List Nat} {bl c1 : Nat} {A' : Option Addr} {l : List Vx} {ll c' : Nat} {base : Nat} (hlt : w.heap.size + 2 = base)
    (hg : w2.grownBy w3 (some (w.heap.size + 1))) (hb : w2.ownsRow base 5 1 (.slice A1 bl c1) bl (u8s b)) (hr : w2.ownsRow base 26 4 (.slice A' ll c') ll (vxsC l))
    (hbl : b.length = bl) (hll : l.length = ll) (hok : ∀ x ∈ l, VxOk w2 (fun g => base ≤ g ∧ g < w2.heap.size) x)
    (n1 : -9223372036854775808 ≤ n) (n2 : n ≤ 9223372036854775807) (k1 : -9223372036854775808 ≤ k) (k2 : k ≤ 9223372036854775807) (bm : bl ≤ 1000000) (lm : ll ≤ 1000000) (by_ : ∀ c ∈ b, c < 256) :
    VxOk w3 (fun g => w.heap.size ≤ g ∧ g < w3.heap.size) (.mk k n A1 b c1 A' l c') := by
  have hb3 := hb.kept hg (ownNe hb (by omega))
  have hr3 := hr.kept hg (ownNe hr (by omega))
  have hs := hg.size
  subst hbl hll
  refine VxOk.iff.2 ⟨RdC.own hb3 fun g _ h1 h2 => ⟨by omega, h2⟩, RdC.own hr3 fun g _ h1 h2 => ⟨by omega, h2⟩, ⟨n1, n2, k1, k2, ownCapS hb3, ownCapS hr3, bm, lm, by_⟩, fun x hx => ?_⟩
  exact VxOk.mono (fun g h => ⟨by omega, by omega⟩) x ((hok x hx).only hg fun g h => ⟨h.2, fun e => by injection e; omega⟩)

set_option maxRecDepth 100000 in
set_option maxHeartbeats 2000000 in
theorem copied_any (m : Nat) : ∀ (x : Vx) (w : World), m ≤ 8 → VxIn w x →
    Calls Tryd.prog 27 #[.agg (vxC x).toArray, .int .i64 m] w (CopPost w (copN m x.v)) := by
  induction m with
  | zero =>
    rintro ⟨k, n, pb, b, cb, pl, l, cl⟩ w hm hx
    have hv : copN 0 (Vx.mk k n pb b cb pl l cl).v = .mk k n b [] := rfl
    rw [hv]
    obtain ⟨hb, hl, hN⟩ := hx.parts
    have hll := hN.ll
    have hbm := hN.bl
    have HN := Sl.mk (show -9223372036854775808 ≤ n ∧ n ≤ 9223372036854775807 ∧ -9223372036854775808 ≤ k ∧ k ≤ 9223372036854775807 ∧ ∀ c ∈ b, c < 256 from ⟨hN.n1, hN.n2, hN.k1, hN.k2, hN.by_⟩)
    rw [vxC_mk]
    obtain ⟨bl, hbl⟩ : ∃ bl, b.length = bl := ⟨_, rfl⟩
    obtain ⟨ll, hlle⟩ : ∃ ll, l.length = ll := ⟨_, rfl⟩
    have HBL := Sl.mk hbl
    have HLL := Sl.mk hlle
    rw [hbl] at hb hbm ⊢
    rw [hlle] at hl hll ⊢
    clear hbl hlle hN hx hv
    have hB0 := below_al (below_al (Below.refl w.heap.size w) (.cells #[.int .i64 k, .int .i64 n, .slice pb bl cb, .slice pl ll cl] 26)) (.cells #[.int .i64 0, .int .i64 0, .slice none 0 0, .slice none 0 0] 26)
    have hX0 := (Blk.new w 26 #[.int .i64 k, .int .i64 n, .slice pb bl cb, .slice pl ll cl]).alloc (.cells #[.int .i64 0, .int .i64 0, .slice none 0 0, .slice none 0 0] 26)
    have hZ0 : Blk ((w.alloc (.cells #[.int .i64 k, .int .i64 n, .slice pb bl cb, .slice pl ll cl] 26)).alloc (.cells #[.int .i64 0, .int .i64 0, .slice none 0 0, .slice none 0 0] 26)) (w.heap.size + 1) 26 #[.int .i64 0, .int .i64 0, .slice none 0 0, .slice none 0 0] := Blk.new' (by simp)
    have hs0 : ((w.alloc (.cells #[.int .i64 k, .int .i64 n, .slice pb bl cb, .slice pl ll cl] 26)).alloc (.cells #[.int .i64 0, .int .i64 0, .slice none 0 0, .slice none 0 0] 26)).heap.size = w.heap.size + 2 := by simp
    obtain ⟨w0, hw0⟩ : ∃ w0, (w.alloc (.cells #[.int .i64 k, .int .i64 n, .slice pb bl cb, .slice pl ll cl] 26)).alloc (.cells #[.int .i64 0, .int .i64 0, .slice none 0 0, .slice none 0 0] 26) = w0 := ⟨_, rfl⟩
    have hws : (w.alloc (.cells #[.int .i64 k, .int .i64 n, .slice pb bl cb, .slice pl ll cl] 26)).heap.size = w.heap.size + 1 := by simp
    rw [hw0] at hB0 hX0 hZ0 hs0
    have c2 := hX0.cell 2
    have c3 := hX0.cell 3
    have HC := Sl.mk (bclone_any pb bl cb b w0 (by omega) ((hb.below hB0).more hB0.size))
    have HL := Sl.mk (hl.be hB0)
    clear hb hl
    go_enter Tryd.func27, Tryd.ntmps27
    go_wp2_with fail
    refine HC.out.mono ?_
    rintro e w1 ⟨v1, rfl, hown1, hB1⟩
    obtain ⟨A1, c1, rfl⟩ := ownForm hown1
    rw [hs0] at hown1
    have hs1 := hB1.size
    rw [hs0] at hs1
    have hX1 := hX0.be hB1
    have hZ1 := hZ0.be hB1
    have hE1 := below_tr hB0 hB1
    have HL1 := Sl.mk (HL.out.be hB1)
    have hX2 : Blk (w1.setCell ⟨w.heap.size, 2, none⟩ (.slice A1 bl c1)) w.heap.size 26 #[.int .i64 k, .int .i64 n, .slice A1 bl c1, .slice pl ll cl] := blk_set _ _ _ _ 2 _ _ hX1 rfl
    have hX3 : Blk ((w1.setCell ⟨w.heap.size, 2, none⟩ (.slice A1 bl c1)).setCell ⟨w.heap.size, 3, none⟩ (.slice none 0 0)) w.heap.size 26 #[.int .i64 k, .int .i64 n, .slice A1 bl c1, .slice none 0 0] := blk_set _ _ _ _ 3 _ _ hX2 rfl
    have hG3 : w1.grownBy ((w1.setCell ⟨w.heap.size, 2, none⟩ (.slice A1 bl c1)).setCell ⟨w.heap.size, 3, none⟩ (.slice none 0 0)) (some w.heap.size) := only_setCell (only_setCell (only_refl _ _) _ _) _ _
    have hZ3 := blk_only hZ1 hG3 (by omega)
    have hE3 := below_only hE1 hG3 hE1.size (Nat.le_refl _)
    have hb3 := hown1.kept hG3 (ownNe hown1 (by omega))
    have c2 := hX1.cell 2
    have f2 := hX1.frozen 2
    have c3 := hX2.cell 3
    have f3 := hX2.frozen 3
    have HG3 := Sl.mk hG3
    obtain ⟨w3, hw3⟩ : ∃ w3, (w1.setCell ⟨w.heap.size, 2, none⟩ (.slice A1 bl c1)).setCell ⟨w.heap.size, 3, none⟩ (.slice none 0 0) = w3 := ⟨_, rfl⟩
    rw [hw3] at hX3 HG3 hZ3 hE3 hb3
    clear hX0 hZ0 hB0 hB1 hX1 hZ1 hE1 hX2 hown1 HC HL hG3
    have HB3 := Sl.mk hb3
    clear hb3
    go_wp2_with (first | refine ld_vx0 hX3 rfl (.tmp 2) rfl rfl rfl ?_ | refine st_vx hZ3 rfl (.tmp 4) (.tmp 33) rfl k n A1 bl c1 none 0 0 rfl rfl rfl ?_)
    intro w4 hZ4 hG4 _
    have hE4 := below_only hE3 hG4 hE3.size (by omega)
    have HG4 := Sl.mk hG4
    clear hG4
    go_wp2_with fail
    refine bodyPost_ret (v := .agg #[.int .i64 k, .int .i64 n, .slice A1 bl c1, .slice none 0 0]) (res_cell Tryd.results27 _ _ _ rfl hZ4 Tryd.underlying26 vxSize) rfl ?_
    refine ⟨.mk k n A1 b c1 none [] 0, by rw [vxC_mk, HBL.out]; rfl, rfl, ?_, hE4⟩
    exact cop_end rfl HG4.out HB3.out (World.ownsRow_nil _ _ _ _) HBL.out rfl (fun x hx => nomatch hx) HN.out.1 HN.out.2.1 HN.out.2.2.1 HN.out.2.2.2.1 hbm (by omega) HN.out.2.2.2.2
  | succ m ih =>
    rintro ⟨k, n, pb, b, cb, pl, l, cl⟩ w hm hx
    have hv : copN (m + 1) (Vx.mk k n pb b cb pl l cl).v = .mk k n b ((vsOf l).map (copN m)) := rfl
    rw [hv]
    obtain ⟨M, hM⟩ : ∃ M, m + 1 = M := ⟨_, rfl⟩
    rw [hM]
    have hM1 : (M : Int) - 1 = m := by omega
    have hM0 : (0 : Int) < (M : Int) := by omega
    have hM8 : M ≤ 8 := by omega
    have hMn : 0 < M := by omega
    clear hM
    obtain ⟨hb, hl, hN⟩ := hx.parts
    have hll := hN.ll
    have hbm := hN.bl
    have HN := Sl.mk (show -9223372036854775808 ≤ n ∧ n ≤ 9223372036854775807 ∧ -9223372036854775808 ≤ k ∧ k ≤ 9223372036854775807 ∧ ∀ c ∈ b, c < 256 from ⟨hN.n1, hN.n2, hN.k1, hN.k2, hN.by_⟩)
    rw [vxC_mk]
    obtain ⟨bl, hbl⟩ : ∃ bl, b.length = bl := ⟨_, rfl⟩
    obtain ⟨ll, hlle⟩ : ∃ ll, l.length = ll := ⟨_, rfl⟩
    have HBL := Sl.mk hbl
    have HLL := Sl.mk hlle
    rw [hbl] at hb hbm ⊢
    rw [hlle] at hl hll ⊢
    have HLC := Sl.mk hN.lc
    rw [hlle] at HLC
    clear hbl hlle hN hx hv
    have hB0 := below_al (below_al (Below.refl w.heap.size w) (.cells #[.int .i64 k, .int .i64 n, .slice pb bl cb, .slice pl ll cl] 26)) (.cells #[.int .i64 0, .int .i64 0, .slice none 0 0, .slice none 0 0] 26)
    have hX0 := (Blk.new w 26 #[.int .i64 k, .int .i64 n, .slice pb bl cb, .slice pl ll cl]).alloc (.cells #[.int .i64 0, .int .i64 0, .slice none 0 0, .slice none 0 0] 26)
    have hZ0 : Blk ((w.alloc (.cells #[.int .i64 k, .int .i64 n, .slice pb bl cb, .slice pl ll cl] 26)).alloc (.cells #[.int .i64 0, .int .i64 0, .slice none 0 0, .slice none 0 0] 26)) (w.heap.size + 1) 26 #[.int .i64 0, .int .i64 0, .slice none 0 0, .slice none 0 0] := Blk.new' (by simp)
    have hs0 : ((w.alloc (.cells #[.int .i64 k, .int .i64 n, .slice pb bl cb, .slice pl ll cl] 26)).alloc (.cells #[.int .i64 0, .int .i64 0, .slice none 0 0, .slice none 0 0] 26)).heap.size = w.heap.size + 2 := by simp
    obtain ⟨w0, hw0⟩ : ∃ w0, (w.alloc (.cells #[.int .i64 k, .int .i64 n, .slice pb bl cb, .slice pl ll cl] 26)).alloc (.cells #[.int .i64 0, .int .i64 0, .slice none 0 0, .slice none 0 0] 26) = w0 := ⟨_, rfl⟩
    have hws : (w.alloc (.cells #[.int .i64 k, .int .i64 n, .slice pb bl cb, .slice pl ll cl] 26)).heap.size = w.heap.size + 1 := by simp
    rw [hw0] at hB0 hX0 hZ0 hs0
    have c2 := hX0.cell 2
    have c3 := hX0.cell 3
    have HC := Sl.mk (bclone_any pb bl cb b w0 (by omega) ((hb.below hB0).more hB0.size))
    have HL := Sl.mk (hl.be hB0)
    have HLw := Sl.mk hl
    clear hb hl
    go_enter Tryd.func27, Tryd.ntmps27
    go_wp2_with fail
    refine HC.out.mono ?_
    rintro e w1 ⟨v1, rfl, hown1, hB1⟩
    obtain ⟨A1, c1, rfl⟩ := ownForm hown1
    rw [hs0] at hown1
    have hs1 := hB1.size
    rw [hs0] at hs1
    have hX1 := hX0.be hB1
    have hZ1 := hZ0.be hB1
    have hE1 := below_tr hB0 hB1
    have HL1 := Sl.mk (HL.out.be hB1)
    have hX2 : Blk (w1.setCell ⟨w.heap.size, 2, none⟩ (.slice A1 bl c1)) w.heap.size 26 #[.int .i64 k, .int .i64 n, .slice A1 bl c1, .slice pl ll cl] := blk_set _ _ _ _ 2 _ _ hX1 rfl
    have hX3 : Blk ((w1.setCell ⟨w.heap.size, 2, none⟩ (.slice A1 bl c1)).setCell ⟨w.heap.size, 3, none⟩ (.slice none 0 0)) w.heap.size 26 #[.int .i64 k, .int .i64 n, .slice A1 bl c1, .slice none 0 0] := blk_set _ _ _ _ 3 _ _ hX2 rfl
    have hG3 : w1.grownBy ((w1.setCell ⟨w.heap.size, 2, none⟩ (.slice A1 bl c1)).setCell ⟨w.heap.size, 3, none⟩ (.slice none 0 0)) (some w.heap.size) := only_setCell (only_setCell (only_refl _ _) _ _) _ _
    have hZ3 := blk_only hZ1 hG3 (by omega)
    have hE3 := below_only hE1 hG3 hE1.size (Nat.le_refl _)
    have hb3 := hown1.kept hG3 (ownNe hown1 (by omega))
    have c2 := hX1.cell 2
    have f2 := hX1.frozen 2
    have c3 := hX2.cell 3
    have f3 := hX2.frozen 3
    have HG3 := Sl.mk hG3
    obtain ⟨w3, hw3⟩ : ∃ w3, (w1.setCell ⟨w.heap.size, 2, none⟩ (.slice A1 bl c1)).setCell ⟨w.heap.size, 3, none⟩ (.slice none 0 0) = w3 := ⟨_, rfl⟩
    rw [hw3] at hX3 HG3 hZ3 hE3 hb3
    clear hX0 hZ0 hB0 hB1 hX1 hZ1 hE1 hX2 hown1 HC HL HL1 hG3
    have hlm : cl ≤ 9223372036854775807 := by have := HLC.out; omega
    have hlc : ll ≤ cl := HLC.out.1
    obtain ⟨i0, hi0, hz0, hz1, hz2⟩ := info_parts vxInfo
    have HINF := Sl.mk (And.intro hi0 (And.intro hz0 (And.intro hz1 hz2)))
    clear hi0 hz0 hz1 hz2
    have HB3 := Sl.mk hb3
    clear hb3
    go_wp2_with fail
    go_loopw [7, 19] (fun _ v19 wr => ∃ (i c' : Nat) (A' : Option Addr) (l' : List Vx), i ≤ ll ∧ v19 = .int .i64 i ∧ Blk wr w.heap.size 26 #[.int .i64 k, .int .i64 n, .slice A1 bl c1, .slice A' i c'] ∧ Blk wr (w.heap.size + 1) 26 #[.int .i64 0, .int .i64 0, .slice none 0 0, .slice none 0 0] ∧ Below w.heap.size w wr ∧
      Sl (wr.ownsRow (w.heap.size + 2) 26 4 (.slice A' i c') i (vxsC l') ∧ wr.ownsRow (w.heap.size + 2) 5 1 (.slice A1 bl c1) bl (u8s b) ∧ l'.length = i ∧ l'.map Vx.v = (vsOf (l.take i)).map (copN m) ∧ w.heap.size + 2 ≤ wr.heap.size ∧
        ∀ x ∈ l', VxOk wr (fun g => w.heap.size + 2 ≤ g ∧ g < wr.heap.size ∧ some g ≠ Value.ownBlock (.slice A' i c')) x)) (fun _ v19 _ => ll - (intOf v19).toNat)
    case atStart => exact ⟨0, 0, none, [], Nat.zero_le _, rfl, hX3, hZ3, hE3, ⟨World.ownsRow_nil _ _ _ _, HB3.out, rfl, rfl, Nat.le_trans hs1 (by have := HG3.out.size; omega), fun x hx => nomatch hx⟩⟩
    case round =>
      obtain ⟨i, c', A', l', hi, rfl, hX, hZ, hB, HS⟩ := hrel
      have hX3 := hX.cell 3
      by_cases hil : i < ll
      · obtain ⟨x, hx⟩ : ∃ x, l[i]? = some x := ⟨_, List.getElem?_eq_getElem (by rw [HLL.out]; exact hil)⟩
        obtain ⟨ad, hpl, hbl, hld, hok⟩ := (HLw.out.be hB).at_ hx
        subst hpl
        have HXI := Sl.mk hx
        have hwa := below_al (Below.refl wr.heap.size wr) (.cells (vxC x).toArray 26)
        have hBn := Blk.new wr 26 (vxC x).toArray
        have HCP := Sl.mk (show ∀ W, Below wr.heap.size wr W → Calls Tryd.prog 27 #[.agg (vxC x).toArray, .int .i64 m] W (CopPost W (copN m x.v)) from fun W hW => ih x W (by omega) (hok.be hW))
        obtain ⟨k', n', pb', b', cb', pl', l2, cl'⟩ := x
        rw [vxC_mk] at *
        have hXa := hX.be hwa
        have hZa := hZ.be hwa
        clear hx hok
        go_wp2_with (refine ld_vxl hld rfl (.tmp 21) rfl rfl ?_)
        have CEL : (#[Value.int .i64 k', .int .i64 n', .slice pb' b'.length cb', .slice pl' l2.length cl'] : Array Value) = [Value.int .i64 k', .int .i64 n', .slice pb' b'.length cb', .slice pl' l2.length cl'].toArray := rfl
        have hsa : (wr.alloc (.cells #[.int .i64 k', .int .i64 n', .slice pb' b'.length cb', .slice pl' l2.length cl'] 26)).heap.size = wr.heap.size + 1 := by simp
        obtain ⟨wd, hwd⟩ : ∃ wd, (wr.alloc (.cells #[.int .i64 k', .int .i64 n', .slice pb' b'.length cb', .slice pl' l2.length cl'] 26)).drew = wd := ⟨_, rfl⟩
        have hXd : Blk wd w.heap.size 26 #[.int .i64 k, .int .i64 n, .slice A1 bl c1, .slice A' i c'] := by rw [← hwd]; exact hXa.drew
        have hZd : Blk wd (w.heap.size + 1) 26 #[.int .i64 0, .int .i64 0, .slice none 0 0, .slice none 0 0] := by rw [← hwd]; exact hZa.drew
        have hNd : Blk wd wr.heap.size 26 #[.int .i64 k', .int .i64 n', .slice pb' b'.length cb', .slice pl' l2.length cl'] := by rw [← hwd]; exact hBn.drew
        have hEd : Below wr.heap.size wr wd := by rw [← hwd]; exact hwa.drew
        have hsd : wd.heap.size = wr.heap.size + 1 := by rw [← hwd]; exact hsa
        have HSF : Sl (∀ W, Below wd.heap.size wd W → W.cell? ⟨w.heap.size, 3, none⟩ = some (.slice A' i c')) := Sl.mk (fun W hW => (hXd.be hW).cell 3)
        have HLV : Sl (∀ W, Below wd.heap.size wd W → (loadVar 26 ⟨wr.heap.size, 0, none⟩).run Tryd.prog W = .ok (.agg #[.int .i64 k', .int .i64 n', .slice pb' b'.length cb', .slice pl' l2.length cl']) W) := Sl.mk (fun W hW =>
          run_loadVar_at W ⟨wr.heap.size, 0, none⟩ 26 [.int .i64 k', .int .i64 n', .slice pb' b'.length cb', .slice pl' l2.length cl'] _ (fun j v hv => by
            have e2 : (⟨wr.heap.size, 0, none⟩ : Addr).add j = ⟨wr.heap.size, j, none⟩ := by unfold Addr.add; split <;> simp_all
            rw [e2, (hNd.be hW).cell j]; simpa using hv) Tryd.underlying26 rfl vxSize)
        have hmw : IntKind.i64.wrap (m : Int) = (m : Int) := IntWalk.i64_in _ (by omega)
        refine wp_region_X (fun W => Below wd.heap.size wd W) [7, 8, 9] (by kernel_rfl) (by rw [hwd]; exact Below.refl _ _) (fun hS => ?_)
        rw [hwd] at hS ⊢
        clear hwd hX hZ hXa hZa hBn hwa hX3 hld hsa
        refine wpAnyX_S (i := 0) (v := ?_) rfl (by kernel_rfl) (by kernel_rfl) (by kernel_rfl) (by kernel_rfl) (fun _ _ _ h => h) (Or.inl ⟨by rfl, ?_⟩) hS ?_
        rotate_left 1
        · (intro w' hw'; (first | rw [hw'] | (have hw2 := HSF.out w' hw') | skip); go_simp; (try with_reducible rfl))
        simp only [Act.put, List.setIfInBounds_toArray, List.set_cons_zero, List.set_cons_succ]
        refine wpAnyX_S (i := 3) (v := ?_) rfl (by kernel_rfl) (by kernel_rfl) (by kernel_rfl) (by kernel_rfl) (fun _ _ _ h => h) (Or.inl ⟨by rfl, ?_⟩) hS ?_
        rotate_left 1
        · (intro w' hw'; (first | rw [hw'] | (have hw2 := HSF.out w' hw') | skip); go_simp; (try with_reducible rfl))
        simp only [Act.put, List.setIfInBounds_toArray, List.set_cons_zero, List.set_cons_succ]
        refine wpAnyX_S (i := 4) (v := ?_) rfl (by kernel_rfl) (by kernel_rfl) (by kernel_rfl) (by kernel_rfl) (fun _ _ _ h => h) (Or.inl ⟨by rfl, ?_⟩) hS ?_
        rotate_left 1
        · (intro w' hw'; (first | rw [hw'] | (have hw2 := HSF.out w' hw') | skip); go_simp; (try with_reducible rfl))
        simp only [Act.put, List.setIfInBounds_toArray, List.set_cons_zero, List.set_cons_succ]
        refine wpAnyX_S (i := 1) (v := ?_) rfl (by kernel_rfl) (by kernel_rfl) (by kernel_rfl) (by kernel_rfl) (fun _ _ _ h => h) (Or.inl ⟨by rfl, ?_⟩) hS ?_
        rotate_left 1
        · (intro w' hw'; (first | rw [hw'] | (have hw2 := HSF.out w' hw') | skip); go_simp; (try with_reducible rfl))
        simp only [Act.put, List.setIfInBounds_toArray, List.set_cons_zero, List.set_cons_succ]
        refine wpAnyX_S (i := 2) (v := .agg #[.int .i64 k', .int .i64 n', .slice pb' b'.length cb', .slice pl' l2.length cl']) rfl (by kernel_rfl) (by kernel_rfl) (by kernel_rfl) (by kernel_rfl) (fun _ _ _ h => h) (yieldsIf_loadA (by rfl) 26 (.tmp 7) rfl ⟨wr.heap.size, 0, none⟩ _ rfl (fun w' hw' => HLV.out w' hw')) hS ?_
        simp only [Act.put, List.setIfInBounds_toArray, List.set_cons_zero, List.set_cons_succ]
        refine wpAnyX_oneL (k := 5) rfl (by kernel_rfl) rfl ?_
        refine wp_of_call (f := 27) (args := #[.agg #[.int .i64 k', .int .i64 n', .slice pb' b'.length cb', .slice pl' l2.length cl'], .int .i64 m]) (by go_simp) (HCP.out wd hEd) (fun e w2 hq => ?_)
        obtain ⟨x', rfl, hxv, hxok, hB2⟩ := hq
        have hs2 := hB2.size
        have HXV := Sl.mk hxv
        have HXK := Sl.mk hxok
        obtain ⟨k7, n7, pb7, b7, cb7, pl7, l7, cl7⟩ := x'
        refine ⟨_, rfl, fun _ => hB2, ?_⟩
        simp only [Act.put, List.setIfInBounds_toArray, List.set_cons_zero, List.set_cons_succ]
        have hS2 := hB2
        refine wpAnyX_oneL (k := 6) rfl (by kernel_rfl) rfl ?_
        refine wp_of_run (v := .slice (some ⟨w2.heap.size, 0, none⟩) 1 1) (w' := w2.alloc (.cells #[.int .i64 k7, .int .i64 n7, .slice pb7 b7.length cb7, .slice pl7 l7.length cl7] 26)) (by rw [vxC_mk]; go_simp) ⟨fun _ => hS2.alloc hS2.size _, ?_⟩
        simp only [Act.put, List.setIfInBounds_toArray, List.set_cons_zero, List.set_cons_succ]
        refine wpAnyX_tailF [7, 8, 9] (by kernel_rfl) (by rfl) (by rfl) (by rfl) ?_
        simp only [List.filterMap_cons, List.filterMap_nil, List.getElem?_cons_succ, List.getElem?_cons_zero]
        obtain ⟨hz0, hz1, hz2, hz3⟩ := HINF.out
        have hBa := below_tr hB2 (below_al (Below.refl w2.heap.size w2) (.cells #[.int .i64 k7, .int .i64 n7, .slice pb7 b7.length cb7, .slice pl7 l7.length cl7] 26))
        obtain ⟨hro, hbo, hll', hmap, hsz, hkid⟩ := HS.out
        have hro2 := own_below hro (below_tr hEd hBa)
        have hbo2 := own_below hbo (below_tr hEd hBa)
        have hXe := (hXd.be hBa)
        have hZe := (hZd.be hBa)
        have hEe := (hB.trans ((below_tr hEd hBa).mono hB.size))
        have hRx : Reads (w2.alloc (.cells #[.int .i64 k7, .int .i64 n7, .slice pb7 b7.length cb7, .slice pl7 l7.length cl7] 26)) (w2.heap.size + 1) 4 (some ⟨w2.heap.size, 0, none⟩) 1 (vxC (.mk k7 n7 pb7 b7 cb7 pl7 l7 cl7)) := ⟨rfl, fun _ => ⟨_, rfl, Nat.lt_succ_self _, fun j u hu => by
          have e2 : (⟨w2.heap.size, 0, none⟩ : Addr).add j = ⟨w2.heap.size, j, none⟩ := by unfold Addr.add; split <;> simp_all
          rw [e2, (Blk.new _ _ _).cell j]; simpa [vxC_mk] using hu⟩⟩
        have hHS := HS
        clear HS hkid hmap
        refine wpList_append_anyG _ rfl (.tmp 24) (.tmp 29) 24 rfl (w.heap.size + 2) 26 i0 (.agg #[.int .i64 0, .int .i64 0, .slice none 0 0, .slice none 0 0]) 4 64 Tryd.underlying24 hz0 hz1 hz2 hz3 (by rfl) (by decide) _ i (vxsC l') rfl hro2 (w2.heap.size + 1) _ 1 1 (vxC (.mk k7 n7 pb7 b7 cb7 pl7 l7 cl7)) rfl hRx (vxC_one _) (by unfold maxLen; omega) (by omega) (by simp; omega) ?_
        intro v4 w4 ho4 hg4 hv4
        obtain ⟨A4, c4, rfl⟩ := ownForm ho4
        have hwe : (w2.alloc (.cells #[.int .i64 k7, .int .i64 n7, .slice pb7 b7.length cb7, .slice pl7 l7.length cl7] 26)).heap.size = w2.heap.size + 1 := by simp
        have hX4 := hXe.grown hg4 (fun e => by have := ownGe hro2 e.symm; omega)
        have hZ4 := hZe.grown hg4 (fun e => by have := ownGe hro2 e.symm; omega)
        have hE4 := hEe.grown hg4 (by omega) (fun g e => by have := ownGe hro2 e; omega)
        have hbo4 := hbo2.kept hg4 (ownApart hbo2 hro2 (by decide))
        have hX5 : Blk (w4.setCell ⟨w.heap.size, 3, none⟩ (.slice A4 (i + 1) c4)) w.heap.size 26 #[.int .i64 k, .int .i64 n, .slice A1 bl c1, .slice A4 (i + 1) c4] := blk_set _ _ _ _ 3 _ _ hX4 rfl
        have hg5 : w4.grownBy (w4.setCell ⟨w.heap.size, 3, none⟩ (.slice A4 (i + 1) c4)) (some w.heap.size) := only_setCell (only_refl w4 _) 3 _
        have hZ5 := hZ4.grown hg5 (fun e => by injection e; omega)
        have hE5 := below_only hE4 hg5 hE4.size (Nat.le_refl _)
        have ho5 := ho4.kept hg5 (ownNe ho4 (by omega))
        have hbo5 := hbo4.kept hg5 (ownNe hbo4 (by omega))
        have hw5 := hg5.size
        have hw4 := hg4.size
        have HF := Sl.mk (show (w4.setCell ⟨w.heap.size, 3, none⟩ (.slice A4 (i + 1) c4)).ownsRow (w.heap.size + 2) 26 4 (.slice A4 (i + 1) c4) (i + 1) (vxsC (l' ++ [.mk k7 n7 pb7 b7 cb7 pl7 l7 cl7])) ∧ (w4.setCell ⟨w.heap.size, 3, none⟩ (.slice A4 (i + 1) c4)).ownsRow (w.heap.size + 2) 5 1 (.slice A1 bl c1) bl (u8s b) ∧ (l' ++ [Vx.mk k7 n7 pb7 b7 cb7 pl7 l7 cl7]).length = i + 1 ∧ (l' ++ [Vx.mk k7 n7 pb7 b7 cb7 pl7 l7 cl7]).map Vx.v = (vsOf (l.take (i + 1))).map (copN m) ∧ w.heap.size + 2 ≤ (w4.setCell ⟨w.heap.size, 3, none⟩ (.slice A4 (i + 1) c4)).heap.size ∧
            ∀ x ∈ l' ++ [Vx.mk k7 n7 pb7 b7 cb7 pl7 l7 cl7], VxOk (w4.setCell ⟨w.heap.size, 3, none⟩ (.slice A4 (i + 1) c4)) (fun g => w.heap.size + 2 ≤ g ∧ g < (w4.setCell ⟨w.heap.size, 3, none⟩ (.slice A4 (i + 1) c4)).heap.size ∧ some g ≠ Value.ownBlock (.slice A4 (i + 1) c4)) x by
          obtain ⟨-, -, -, hmap, -, hkid⟩ := hHS.out
          refine ⟨by rw [vxsC_app, vxsC_one']; exact ho5, hbo5, by rw [List.length_append, hll']; rfl, ?_, by omega, fun x hx => ?_⟩
          · rw [List.map_append, hmap, take_one HXI.out, vsOf_app, List.map_append]
            simp only [List.map_cons, List.map_nil, vsOf, HXV.out]
          · rcases List.mem_append.1 hx with hx | hx
            · have h1 := hkid x hx
              have h2 : VxOk (w2.alloc (.cells #[.int .i64 k7, .int .i64 n7, .slice pb7 b7.length cb7, .slice pl7 l7.length cl7] 26)) (fun g => w.heap.size + 2 ≤ g ∧ g < wr.heap.size ∧ some g ≠ Value.ownBlock (.slice A' i c')) x := VxOk.keep (fun p hp => (below_tr hEd hBa).cell hp.2.1) x h1
              have h3 := h2.only hg4 (fun g hg => ⟨by omega, hg.2.2⟩)
              have h4 := h3.only hg5 (fun g hg => ⟨by omega, fun e => by injection e; omega⟩)
              refine VxOk.mono (fun g hg => ⟨hg.1, by omega, ?_⟩) x h4
              rcases hv4 with e | e
              · rw [e]; exact hg.2.2
              · rw [e]; intro e'; injection e'; omega
            · obtain rfl : x = _ := by simpa using hx
              have h1 := HXK.out
              have h2 : VxOk (w2.alloc (.cells #[.int .i64 k7, .int .i64 n7, .slice pb7 b7.length cb7, .slice pl7 l7.length cl7] 26)) (fun g => wd.heap.size ≤ g ∧ g < w2.heap.size) _ := VxOk.keep (fun p hp => (below_al (Below.refl w2.heap.size w2) _).cell hp.2) _ h1
              have h3 := h2.only hg4 (fun g hg => ⟨by omega, fun e => by
                have := (hro.lt g e.symm).2
                omega⟩)
              have h4 := h3.only hg5 (fun g hg => ⟨by omega, fun e => by injection e; omega⟩)
              refine VxOk.mono (fun g hg => ⟨by omega, by omega, ?_⟩) _ h4
              rcases hv4 with e | e
              · rw [e]; intro e'; have := (hro.lt g e'.symm).2; omega
              · rw [e]; intro e'; injection e'; omega)
        have x3 := hX4.cell 3
        have y3 := hX4.frozen 3
        clear hz0 hz1 hz2 hz3 hRx hS hS2 hB2 hXd hZd hNd hEd HSF HLV hro2 hbo2 hXe hZe hEe hX4 hZ4 hE4 hbo4 hg5 ho5 hbo5 hg4 hv4 ho4 hro hbo hBa hHS
        go_wp2_with fail
        refine NoPanic.normal ?_
        go_wp2_with fail
        go_roundw
        case rel => exact ⟨i + 1, c4, A4, _, by omega, by go_num, hX5, hZ5, hE5, HF⟩
        case measure => simp [intOf]; omega
      · obtain rfl : i = ll := by omega
        go_wp2_with (first | refine ld_vx0 hX rfl (.tmp 2) rfl rfl rfl ?_ | refine st_vx hZ rfl (.tmp 4) (.tmp 33) rfl k n A1 bl c1 A' i c' rfl rfl rfl ?_)
        intro w4 hZ4 hG4 _
        have hE4 := below_only hB hG4 hB.size (by omega)
        have HG4 := Sl.mk hG4
        clear hG4
        go_wp2_with fail
        refine bodyPost_ret (v := .agg #[.int .i64 k, .int .i64 n, .slice A1 bl c1, .slice A' i c']) (res_cell Tryd.results27 _ _ _ rfl hZ4 Tryd.underlying26 vxSize) rfl ?_
        obtain ⟨hro, hbo, hll', hmap, hsz, hkid⟩ := HS.out
        refine ⟨.mk k n A1 b c1 A' l' c', by rw [vxC_mk, HBL.out, hll'], ?_, ?_, hE4⟩
        · rw [Vx.v, vsOf_map, hmap, List.take_of_length_le (by rw [HLL.out]; omega)]
        · exact cop_end rfl HG4.out hbo hro HBL.out hll' (fun x hx => VxOk.mono (fun g h => ⟨h.1, h.2.1⟩) x (hkid x hx)) HN.out.1 HN.out.2.1 HN.out.2.2.1 HN.out.2.2.2.1 hbm hll HN.out.2.2.2.2

end Go.Proofs.YtbnmbncjefnpiaaDoor
