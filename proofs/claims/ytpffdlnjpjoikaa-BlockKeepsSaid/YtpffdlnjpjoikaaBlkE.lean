/-
  slices.Backward over the waiting writes; Read.
-/
import Derived.RangeFuncNested
import Derived.RangeFuncBound
import Derived.RangeFuncCalls
import Derived.RangeFuncLeaves
import Derived.Shelf.Abstract
import Derived.Shelf.RegionOpen
import Derived.Test.YtpffdlnjpjoikaaBlkD
import Derived.OwnWalkIn
import Derived.TacticsInMore
import Derived.LoopNIn
import Derived.LoopIn
namespace Go.Proofs.Ytpffdlnjpjoikaa
open Go.RowKit Go.Shelf
attribute [local go_sem] Oper.semAt_some

section
variable {F : Fence} {n : Nat} {P : Program} {ops : Array Oper} {rest : List Oper} {o : Oper} {a : Act} {w : World} {Q : Exit → Act → World → Prop}
theorem wpListIn_loadA (hgd : o.guard = none) (ty : TypeId) (x : Operand) (ho : o.op = .load ty x) (ad : Addr) (v : Value) (hx : a.eval x = .pointer (some ad)) (hL : (loadVar ty ad).run P w = .ok v w)
    (h : wpListIn F n P ops Q rest (a.put o.dst v) w) : wpListIn F n P ops Q (o :: rest) a w := by
  refine wpListIn_plain hgd fun K hK' => ?_
  unfold Oper.wpIn
  refine ⟨?_, ?_⟩
  · simp [Oper.about, ho]
  · rw [Oper.semAt_plain F _ _ (by rw [ho]; intro c hc'; cases hc')]
    simp only [execOp, ho, hx, Instr.loadAt, Instr.sureAddr, Sem.run_bind, Sem.run_pure, Result.andThen_ok, hL]
    exact hK' _ _ h
theorem wpListIn_store_fresh {w1 : World} (hgd : o.guard = none) (ty : TypeId) (x y : Operand) (ho : o.op = .store ty x y)
    (t : TypeId) (l vs : List Value) (cs : Array Value) (hcs : cs = l.toArray) (hx : a.eval x = .pointer (some ⟨w1.heap.size, 0, none⟩)) (hy : a.eval y = .agg vs.toArray)
    (hl : vs.length = l.length) (hi : (P.info? ty).map (·.size) = some vs.length) (h1 : ∀ v ∈ vs, v.oneCell' = true)
    (h : ∀ w', Blk w' w1.heap.size t vs.toArray → Below w1.heap.size w1 w' → w'.heap.size = w1.heap.size + 1 → (∀ k, k ≠ w1.heap.size → w'.heap[k]? = (w1.alloc (.cells cs t)).heap[k]?) → wpListIn F n P ops Q rest (a.put o.dst undef) w') :
    wpListIn F n P ops Q (o :: rest) a (w1.alloc (.cells cs t)) := by
  subst hcs
  refine wpListIn_plain hgd fun K hK' => ?_
  have hB : Blk (w1.alloc (.cells l.toArray t)) w1.heap.size t l.toArray := Blk.new _ _ _
  have h2 := blk_setCells vs 0 (w1.alloc (.cells l.toArray t)) l hB (by omega)
  have e : l.take 0 ++ vs ++ l.drop (0 + vs.length) = vs := by simp [hl]
  rw [e] at h2
  have hG := only_setCells w1.heap.size vs 0 (w1.alloc (.cells l.toArray t)) (w1.alloc (.cells l.toArray t)) (only_refl _ _)
  have hS := size_setCells w1.heap.size vs 0 (w1.alloc (.cells l.toArray t))
  have hrun := run_storeAt_mid (P := P) (w1.alloc (.cells l.toArray t)) w1.heap.size 0 ty vs.toArray (there_blk hB (by simp; omega)) (by simpa using hi) (all_oneCell_toArray h1)
  unfold Oper.wpIn
  refine ⟨?_, ?_⟩
  · simp [Oper.about, ho]
  · rw [Oper.semAt_plain F _ _ (by rw [ho]; intro c hc'; cases hc')]
    simp only [execOp, ho, hx, hy, hrun, Sem.run_bind, Sem.run_pure, Result.andThen_ok]
    refine hK' _ _ (h _ h2 (below_only (below_al (Below.refl _ _) _) hG (by simp) (Nat.le_refl _)) (by rw [hS]; simp) (fun k hk => ?_))
    rcases Nat.lt_or_ge k (w1.alloc (.cells l.toArray t)).heap.size with hlt | hge
    · exact hG.block k hlt (fun e => by injection e with e; exact hk e)
    · rw [Array.getElem?_eq_none (by rw [hS]; exact hge), Array.getElem?_eq_none hge]
end

/-- What has come behind k rounds: the last k, the last one first. -/
def bwd (l : List Wt) (k : Nat) : List (Nat × Wt) := (List.range k).map fun j => (l.length - 1 - j, (l[l.length - 1 - j]?).getD wt0)
theorem bwd_succ (l : List Wt) (k : Nat) : bwd l (k + 1) = bwd l k ++ [(l.length - 1 - k, (l[l.length - 1 - k]?).getD wt0)] := by simp [bwd, List.range_succ]
theorem bwd_len (l : List Wt) (k : Nat) : (bwd l k).length = k := by simp [bwd]

set_option maxRecDepth 100000 in
set_option maxHeartbeats 2000000 in
theorem back1_in (F : Fence) (n : Nat) (h8 : F.fn 47) (hro : F.round = none) (hn : 1 ≤ n) (l Bs n₀ : Nat) (A : Option Addr) (len cap : Nat) (zs : List Wt) (hlen : len ≤ 1000000) (hz : len = zs.length) (J Jx : List (Nat × Wt) → World → Prop)
    (hY : ∀ pre x W, J pre W → pre.length < len → YieldAt F (n - 1) Try.prog l #[.int .i64 (x.1 : Int), .agg (wtC x.2).toArray] W fun e W' =>
      (e = .returned (.bool true) ∧ J (pre ++ [x]) W' ∧ Below n₀ W W') ∨ (e = .returned (.bool false) ∧ Jx (pre ++ [x]) W'))
    (W : World) (hBs : W.cell? ⟨Bs, 0, none⟩ = some (.slice A len cap)) (hBs0 : Bs < n₀) (hR : Reads W n₀ 65 A len (lineC zs)) (h0 : J [] W) :
    CallsIn F n Try.prog 47 #[.func (.yield l) #[] #[], .pointer (some ⟨Bs, 0, none⟩)] W fun e W' => (∃ v, e = .returned v) ∧
      ((∃ ys, ys = bwd zs len ∧ J ys W') ∨ (∃ pre, (∃ k, k ≤ len ∧ pre = bwd zs k) ∧ Jx pre W')) := by
  have HZ := Sl.mk hz
  have HR := Sl.mk hR
  clear hz hR
  refine callsIn_of_wp Try.func47 rfl h8 ?_ hro
  simp only [Try.ntmps47, List.size_toArray, List.length_cons, List.length_nil, Nat.reduceAdd, Nat.reduceSub, Array.replicate_succ, Array.replicate_zero, List.push_toArray, List.append_toArray, List.nil_append, List.cons_append]
  gi_wp2
  gi_loopw [3] (fun s3 wr => ∃ (j : Nat) (m : Int), j ≤ len ∧ s3 = .int .i64 m ∧ m + 1 = j ∧ J (bwd zs (len - j)) wr ∧ Below n₀ W wr)
    (fun s3 _ => (intOf s3 + 1).toNat)
  case atStart => exact ⟨len, (len : Int) - 1, Nat.le_refl _, rfl, by omega, by rw [Nat.sub_self]; exact h0, Below.refl _ _⟩
  case round =>
    obtain ⟨j, m, hj, rfl, hm, hJs, hnx⟩ := hrel
    have hBr := (hnx.cell (p := ⟨Bs, 0, none⟩) hBs0).trans hBs
    cases j with
    | zero =>
      obtain rfl : m = -1 := by omega
      have HJ := Sl.mk hJs
      clear hJs hm
      gi_wp2
      go_end0
      exact ⟨⟨_, rfl⟩, .inl ⟨_, rfl, HJ.out⟩⟩
    | succ i =>
      obtain rfl : m = (i : Int) := by omega
      obtain ⟨x, hx⟩ : ∃ x, zs[i]? = some x := ⟨_, List.getElem?_eq_getElem (by rw [← HZ.out]; omega)⟩
      obtain ⟨ad, rfl, hbl, hld⟩ := reads_wt (HR.out.below hnx) hx
      have hidx : zs.length - 1 - (len - (i + 1)) = i := by rw [← HZ.out]; omega
      have hsn : bwd zs (len - i) = bwd zs (len - (i + 1)) ++ [(i, x)] := by
        have e : len - i = (len - (i + 1)) + 1 := by omega
        rw [e, bwd_succ, hidx, hx]; try rfl
      have hLV : (loadVar 77 (ad.add (i * 65))).run Try.prog wr = .ok (.agg (wtC x).toArray) wr :=
        run_loadVar_at _ _ 77 (wtC x) _ hld Try.underlying77 rfl (by rw [infoWt, wtC_len])
      obtain ⟨fn, tmps, assign, body, hy, hRo⟩ := hY _ (i, x) wr hJs (by rw [bwd_len]; omega)
      dsimp only at hy
      have HSN := Sl.mk hsn
      have i0 : (0 : Int) ≤ (i : Int) := by omega
      have i1 : (i : Int) < (len : Int) := by omega
      clear hx hld hsn hidx hm hJs hbl
      gi_wp2_with (refine wpListIn_loadA rfl 77 (.tmp 15) rfl (ad.add (i * 65)) _ rfl hLV ?_)
      refine hRo.mono ?_
      rintro e W3 (⟨rfl, hJ3, hk3⟩ | ⟨rfl, hJx3⟩)
      · have hJ4 : J (bwd zs (len - i)) W3 := by rw [HSN.out]; exact hJ3
        have HJ4 := Sl.mk hJ4
        have hnx3 := hnx.trans hk3
        clear hJ4 hJ3 hk3 hnx hLV hRo hy
        gi_wp2
        go_roundw
        case rel => exact ⟨i, (i : Int) - 1, by omega, rfl, by omega, HJ4.out, hnx3⟩
        case measure => simp [intOf]
      · have HJx := Sl.mk hJx3
        clear hJx3 hLV hRo hy
        gi_wp2
        refine bodyPost_ret (results_none rfl _ _ _) rfl ?_
        exact ⟨⟨_, rfl⟩, .inr ⟨_, ⟨len - i, by omega, HSN.out.symm⟩, HJx.out⟩⟩

set_option maxHeartbeats 1000000 in
theorem back_in (F : Fence) (n : Nat) (h5 : F.fn 36) (hro : F.round = none) (a : Option Addr) (len cap : Nat) (w : World) :
    CallsIn F n Try.prog 36 #[.slice a len cap] w fun e w' => e = .returned (.func (.func 47) #[] #[.pointer (some ⟨w.heap.size, 0, none⟩)]) ∧ w' = w.alloc (.cells #[.slice a len cap] 63) := by
  refine callsIn_of_wp Try.func36 rfl h5 ?_ hro
  simp only [Try.ntmps36, List.size_toArray, List.length_cons, List.length_nil, Nat.reduceAdd, Nat.reduceSub, Array.replicate_succ, Array.replicate_zero, List.push_toArray, List.append_toArray, List.nil_append, List.cons_append]
  gi_wp2
  go_ret
  exact ⟨rfl, rfl⟩

theorem back_stops (F : Fence) (n : Nat) (h8 : F.fn 47) (hro : F.round = none) (hn : 1 ≤ n) (Bs n₀ : Nat) (A : Option Addr) (len cap : Nat) (zs : List Wt) (hlen : len ≤ 1000000) (hz : len = zs.length) (w : World) (hBs : Bs < n₀) (hn₀ : n₀ ≤ w.heap.size)
    (hc : w.cell? ⟨Bs, 0, none⟩ = some (.slice A len cap)) (hR : Reads w n₀ 65 A len (lineC zs)) :
    SeqStopsK F n Try.prog 47 #[.pointer (some ⟨Bs, 0, none⟩)] (fun x : Nat × Wt => #[Value.int .i64 (x.1 : Int), .agg (wtC x.2).toArray]) (Below n₀) (fun ys => ys = bwd zs len)
      (fun pre => ∃ k, k ≤ len ∧ pre = bwd zs k) len w := fun l J Jx W hW _ _ hY h0 =>
  back1_in F n h8 hro hn l Bs n₀ A len cap zs hlen hz J Jx hY W ((hW.cell (p := ⟨Bs, 0, none⟩) (by simp only; omega)).trans hc) hBs (hR.below (hW.mono hn₀)) h0

theorem blk_kept {W W' : World} {g : Nat} {t : TypeId} {cs : Array Value} {row : Option Nat} (h : Blk W g t cs) (hg : W.grownBy W' row) (hrow : ∀ r, row = some r → ∃ o : Obj, W.heap[r]? = some o ∧ o.isCells = false) : Blk W' g t cs :=
  h.grown hg (fun e => by obtain ⟨o, ho, hc⟩ := hrow g e.symm; rw [show W.heap[g]? = _ from h] at ho; cases ho; cases hc)
/-- A round of Read has found the sector. -/
def Found (w W : World) (no : Nat) (pre : List (Nat × Wt)) : Prop := ∃ p i x Bx, pre = p ++ [(i, x)] ∧ (∀ y ∈ p, y.2.no ≠ no) ∧ x.no = no ∧ Boxed W (w.heap.size + 1) 30 (.slice (some ⟨Bx, 1, none⟩) 64 64) ∧
  Boxed W (w.heap.size + 2) 24 (.int .i64 0) ∧ Blk W Bx 77 (wtC x).toArray ∧ w.heap.size ≤ Bx
theorem Found.own {w : World} {no : Nat} {B : Nat} : OwnFrom B (fun pre W => Found w W no pre) := by
  rintro s X Y row ⟨p, i, x, Bx, h1, h2, h3, h4, h5, h6, h7⟩ hg hr
  have hr' := fun r e => (hr r e).2
  exact ⟨p, i, x, Bx, h1, h2, h3, boxed_own _ _ (fun (_ : Unit) => _) () X Y row h4 hg hr', boxed_own _ _ (fun (_ : Unit) => _) () X Y row h5 hg hr', blk_kept h6 hg hr', h7⟩

end Go.Proofs.Ytpffdlnjpjoikaa
