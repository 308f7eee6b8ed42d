/-
  What is still to be read of bytes: the contract of instr.
-/
import Derived.Test.YtliealcdiogilaaDoorCoZa
namespace Go.Proofs.YtliealcdiogilaaDoor
open Go.RowKit
attribute [local go_sem ↓] Go.wp_at_zero Go.wp_at_succ

theorem or_byte {F x : Nat} (hF : F ≤ 255) (hx : x < 256) : bits .or .i64 ((F : Int) * 256) (x : Int) = ((F * 256 + x : Nat) : Int) := by
  have e : ∀ a : Nat, a < 65536 → (BitVec.ofInt 64 (a : Int)).toNat = a := fun a h => by rw [BitVec.ofInt_natCast, BitVec.toNat_ofNat, Nat.mod_eq_of_lt (by omega)]
  have h1 : ((F : Int) * 256) = ((F * 256 : Nat) : Int) := by omega
  rw [h1]
  show IntKind.i64.wrap ((BitVec.ofInt 64 ((F * 256 : Nat) : Int) ||| BitVec.ofInt 64 (x : Int)).toNat : Int) = _
  rw [BitVec.toNat_or, e _ (by omega), e _ (by omega)]
  have h2 : F * 256 ||| x = F * 256 + x := by
    have := Nat.two_pow_add_eq_or_of_lt (i := 8) (b := x) (by simpa using hx) F
    rw [Nat.mul_comm F 256]; exact this.symm
  rw [h2, IntKind.wrap_i64]; omega
def InPost (w : World) (B rb : Nat) (x : Ci) (R : List Nat) (e : Ending) (w' : World) : Prop :=
  e = .returned (.tuple #[.agg #[.int .i64 x.op, .int .i64 x.n, .string (bsS x.s)], .bool true]) ∧ Rst w' B rb R ∧ w.grownBy w' (some rb)
theorem wp_of_call {P : Program} {o : Oper} {a : Act} {w : World} {K : Act → World → Prop} {Q : Exit → Act → World → Prop} {f : FuncId} {args : Array Value} {R : Ending → World → Prop} (hrun : (execOp a.eval o).run P w = .ok (.enter f args) w)
    (hc : Calls P f args w R) (h : ∀ e w', R e w' → ∃ v, e = .returned v ∧ K (a.put o.dst v) w') : o.wp P a w K Q := by
  unfold Oper.wp
  rw [hrun]
  refine hc.mono fun e w' hr => ?_
  obtain ⟨v, rfl, hk⟩ := h e w' hr
  exact hk
theorem wpList_store_all {P : Program} {ops : Array Oper} {rest : List Oper} {op : Oper} {a : Act} {w : World} {Q : Exit → Act → World → Prop} (hgd : op.guard = none) (ty : TypeId) (x y : Operand) (ho : op.op = .store ty x y)
    (g : Nat) (t : TypeId) (l vs : List Value) (hB : Blk w g t l.toArray) (hx : a.eval x = .pointer (some ⟨g, 0, none⟩)) (hy : a.eval y = .agg vs.toArray)
    (hl : vs.length = l.length) (hi : (P.info? ty).map (·.size) = some vs.length) (h1 : ∀ v ∈ vs, v.oneCell' = true)
    (h : ∀ w', Blk w' g t vs.toArray → w.grownBy w' (some g) → w'.heap.size = w.heap.size → wpList P ops Q rest (a.put op.dst undef) w') : wpList P ops Q (op :: rest) a w := by
  refine wpList_store_blk hgd ty x y ho g 0 t l vs hB hx hy (by omega) hi h1 fun w' h2 h3 h4 => ?_
  have e : l.take 0 ++ vs ++ l.drop (0 + vs.length) = vs := by simp [hl]
  rw [e] at h2
  exact h w' h2 h3 h4
theorem st_in {ops : Array Oper} {rest : List Oper} {op : Oper} {a : Act} {w : World} {Q : Exit → Act → World → Prop} {g : Nat} {cs : Array Value} (hB : Blk w g 45 cs) (hgd : op.guard = none) (x y : Operand) (ho : op.op = .store 45 x y) (k n : Int) (s : ByteArray)
    (hx : a.eval x = .pointer (some ⟨g, 0, none⟩)) (hy : a.eval y = .agg #[.int .i64 k, .int .i64 n, .string s]) (hs : cs.size = 3)
    (h : ∀ w', Blk w' g 45 #[.int .i64 k, .int .i64 n, .string s] → w.grownBy w' (some g) → w'.heap.size = w.heap.size → wpList Tryd.prog ops Q rest (a.put op.dst undef) w') : wpList Tryd.prog ops Q (op :: rest) a w :=
  wpList_store_all hgd 45 x y ho g 45 cs.toList [.int .i64 k, .int .i64 n, .string s] hB hx hy (by simp [hs]) iSize (by
    intro v hv
    simp only [List.mem_cons, List.not_mem_nil, or_false] at hv
    rcases hv with rfl | rfl | rfl <;> rfl) h
theorem grown_only {a b c : World} {row : Option Nat} {g : Nat} (h : a.grownBy b row) (k : b.grownBy c (some g)) (hg : a.heap.size ≤ g) : a.grownBy c row :=
  ⟨k.os.trans h.os, k.tape.trans h.tape, k.output.trans h.output, Nat.le_trans h.size k.size, fun i hi hne => (k.block i (Nat.lt_of_lt_of_le hi h.size) (by intro e; injection e with e; omega)).trans (h.block i hi hne)⟩
theorem wordF_in {k : Nat} (h : k ≤ 21) : wordF k ≠ [] := by
  intro e
  have := wordF_ne (k : Int)
  rw [e] at this
  have h1 : ((k : Int) ≤ 21) := by omega
  simp [h1] at this
theorem Rst.only {w w' : World} {B rb g : Nat} {R : List Nat} (h : Rst w B rb R) (k : w.grownBy w' (some g)) (hB : B ≤ g) (hne : rb ≠ g) : Rst w' B rb R := by
  have hl := h.lt
  obtain ⟨A, c, q1, q2, q3⟩ := h.blk
  have hle := h.le
  exact ⟨⟨A, c, blk_only q1 k hne, q2.grown k (by omega) (fun x hx => by injection hx with hx; omega), q3⟩, h.le⟩
theorem word_full {k : Nat} (h : k ≤ 21) : (bsS (wordF k)).toList.isEmpty = false := by
  have h1 : ∀ k : Nat, k ≤ 21 → (bsS (wordF k)).toList.isEmpty = false := by decide +kernel
  exact h1 k h
theorem run_load_blk {w : World} {g : Nat} {x y : Int} {z : ByteArray} (h : Blk w g 45 #[.int .i64 x, .int .i64 y, .string z]) :
    (loadVar 45 ⟨g, 0, none⟩).run Tryd.prog w = .ok (.agg #[.int .i64 x, .int .i64 y, .string z]) w :=
  run_loadVar_at w ⟨g, 0, none⟩ 45 [.int .i64 x, .int .i64 y, .string z] _ (fun j v hv => by
    have e2 : (⟨g, 0, none⟩ : Addr).add j = ⟨g, j, none⟩ := by unfold Addr.add; split <;> simp_all
    rw [e2, h.cell j]; simpa using hv) Tryd.underlying45 rfl iSize
theorem yieldsIf_loadI {P : Program} {ops : Array Oper} {S : World → Prop} {o : Oper} {a : Act} {v : Value} (hw : Region.wanted o (yielded ops a.tmps) = true) (ty : TypeId) (x : Operand) (ho : o.op = .load ty x) (ad : Addr) (u : Value) (hx : a.eval x = .pointer (some ad))
    (hL : ∀ w, S w → (loadVar ty ad).run P w = .ok u w) (hv : v = u := by rfl) : YieldsIf P ops S o v a := by
  subst hv
  exact .inl ⟨hw, fun w hS => by unfold execOp; simp only [ho, hx, Instr.loadAt, Instr.sureAddr, Sem.run_bind, Sem.run_pure, Result.andThen_ok, hL w hS]⟩

set_option maxRecDepth 100000 in
set_option maxHeartbeats 4000000 in
theorem instr_num (B rb : Nat) (x : Ci) (R : List Nat) (w : World) (hop : 0 ≤ x.op ∧ x.op ≤ 21) (hn : 0 ≤ x.n ∧ x.n ≤ 9999) (hs : x.s = []) (hN : numB x.op = true) (hSp : Spw w B) (h : Rst w B rb (encI x ++ R)) :
    Calls Tryd.prog 34 #[.pointer (some ⟨rb, 0, none⟩)] w (InPost w B rb x R) := by
  obtain ⟨xo, xn, xs⟩ := x
  obtain ⟨op, rfl⟩ : ∃ op : Nat, xo = op := ⟨xo.toNat, by simp at hop; omega⟩
  obtain ⟨n, rfl⟩ : ∃ n : Nat, xn = n := ⟨xn.toNat, by simp at hn; omega⟩
  simp only at hop hn hs hN
  subst hs
  have hE : encI ⟨op, n, []⟩ ++ R = op :: (n / 256) :: (n % 256) :: R := by
    simp [encI, hN]
  rw [hE] at h
  obtain ⟨F, hF⟩ : ∃ F, n / 256 = F := ⟨_, rfl⟩
  obtain ⟨G, hG⟩ : ∃ G, n % 256 = G := ⟨_, rfl⟩
  rw [hF, hG] at h
  have hFG := Sl.mk (show F * 256 + G = n by omega)
  have hF2 : F ≤ 255 := by simp at hn; omega
  have hG2 : G < 256 := by omega
  have wF : IntKind.i64.wrap ((F : Int) * 256) = (F : Int) * 256 := by rw [IntKind.wrap_i64]; omega
  have wO : bits .or .i64 ((F : Int) * 256) (G : Int) = ((F * 256 + G : Nat) : Int) := or_byte hF2 hG2
  rw [hFG.out] at wO
  have hlt := h.lt
  have HT := Sl.mk (fun W => fun (hR : Rst W B rb (op :: F :: G :: R)) => one_ok B rb op _ W (by omega) hR)
  have HT1 := Sl.mk (fun W => fun (hR : Rst W B rb (F :: G :: R)) => one_ok B rb _ _ W (by omega) hR)
  have HT2 := Sl.mk (fun W => fun (hR : Rst W B rb (G :: R)) => one_ok B rb _ _ W (by omega) hR)
  obtain ⟨w0, hw0⟩ : ∃ w0, w.alloc (.cells #[.int .i64 0, .int .i64 0, .string { data := #[] }] 45) = w0 := ⟨_, rfl⟩
  have H0 := Sl.mk (h.be (below_al (Below.refl w.heap.size w) (.cells #[.int .i64 0, .int .i64 0, .string { data := #[] }] 45)))
  rw [hw0] at H0
  go_enter Tryd.func34, Tryd.ntmps34
  go_wp2_with fail
  have hb0 : Blk w0 w.heap.size 45 #[.int .i64 0, .int .i64 0, .string { data := #[] }] := by rw [← hw0]; exact Blk.new _ _ _
  have hz0 : w0.heap.size = w.heap.size + 1 := by rw [← hw0]; simp
  have HB0 := Sl.mk hb0
  have HZ0 := Sl.mk hz0
  have HGa := Sl.mk (show Below w.heap.size w w0 by rw [← hw0]; exact below_al (Below.refl w.heap.size w) _)
  clear hw0 hz0 hb0
  refine (HT.out w0 H0.out).mono ?_
  rintro e w1 ⟨rfl, h1, g1, z1⟩
  have HZ1 := Sl.mk z1
  have HG1 := Sl.mk g1
  have H1 := Sl.mk (h1.be (below_al (Below.refl w1.heap.size w1) (.cells #[.int .i64 op, .int .i64 0, .string { data := #[] }] 45)))
  have HB1 := Sl.mk (Blk.new w1 45 #[.int .i64 op, .int .i64 0, .string { data := #[] }])
  have HGb := Sl.mk (below_al (Below.refl w1.heap.size w1) (.cells #[.int .i64 op, .int .i64 0, .string { data := #[] }] 45))
  clear z1 g1 h1
  have HNb := Sl.mk (fun W => number_any op W)
  go_wp2_with (refine (HNb.out _).mono ?_; rintro _ _ ⟨rfl, rfl⟩; try rw [hN])
  obtain ⟨w1b, hw1b⟩ : ∃ w1b, w1.alloc (.cells #[.int .i64 op, .int .i64 0, .string { data := #[] }] 45) = w1b := ⟨_, rfl⟩
  rw [hw1b] at H1 HB1 HGb
  have HGb0 := HGb
  obtain ⟨t4, ht4⟩ : ∃ t4, w1.heap.size = t4 := ⟨_, rfl⟩
  have HT4 := Sl.mk ht4
  rw [hw1b, ht4]
  rw [ht4] at HB1 HGb HZ1
  clear hw1b ht4 
  refine (HT1.out w1b H1.out).mono ?_
  rintro e w2 ⟨rfl, h2, g2, z2⟩
  have H2 := Sl.mk h2
  have HG2 := Sl.mk g2
  have HZ2 := Sl.mk z2
  clear h2 g2 z2
  go_wp2_with fail
  refine (HT2.out w2 H2.out).mono ?_
  rintro e w3 ⟨rfl, h3, g3, z3⟩
  have hb3 : Blk w3 t4 45 #[.int .i64 op, .int .i64 0, .string { data := #[] }] := by
    have hne : t4 ≠ rb := by have := HZ0.out; have := HZ1.out; omega
    exact (HB1.out.grown HG2.out (by simpa using hne)).grown g3 (by simpa using hne)
  have c3 := hb3.cell 0
  have c4 := hb3.cell 1
  have f4 := hb3.frozen 1
  have H3 := Sl.mk h3
  have HG3 := Sl.mk g3
  have HZ3 := Sl.mk z3
  have HB3 := Sl.mk hb3
  clear h3 g3 z3 hb3
  go_wp2_with fail
  have hB2 : Blk w3 w.heap.size 45 #[.int .i64 0, .int .i64 0, .string { data := #[] }] := by
    have hne : w.heap.size ≠ rb := by omega
    have e0 := HZ0.out; have e1 := HZ1.out; have e4 := HT4.out
    have hl1 : w.heap.size < w0.heap.size := by omega
    have hl2 : w.heap.size < w1.heap.size := by omega
    exact (((HB0.out.grown HG1.out (by simpa using hne)).below HGb0.out hl2).grown HG2.out (by simpa using hne)).grown HG3.out (by simpa using hne)
  have hG : w.grownBy w3 (some rb) := only_trans (only_trans (only_below (only_trans (only_below (only_refl w (some rb)) HGa.out) HG1.out) HGb0.out) HG2.out) HG3.out
  have hne4 : w.heap.size ≠ t4 := by have := HZ0.out; have := HZ1.out; have := HT4.out; omega
  obtain ⟨t2, ht2⟩ : ∃ t2, w.heap.size = t2 := ⟨_, rfl⟩
  have HT2s := Sl.mk ht2
  rw [ht2] at hB2 hne4
  have hwd2 : Blk ((w3.setCell ⟨t4, 1, none⟩ (.int .i64 n)).drew) t2 45 #[.int .i64 0, .int .i64 0, .string { data := #[] }] := (blk_only hB2 (only_setCell (only_refl w3 (some t4)) 1 _) hne4).drew
  have hwd4 : Blk ((w3.setCell ⟨t4, 1, none⟩ (.int .i64 n)).drew) t4 45 #[.int .i64 op, .int .i64 n, .string { data := #[] }] := (HB3.out.set_ 1 (.int .i64 n)).drew
  have hG4 : w.grownBy (w3.setCell ⟨t4, 1, none⟩ (.int .i64 n)).drew (some rb) := only_below (grown_only hG (only_setCell (only_refl w3 (some t4)) 1 (.int .i64 n)) (by have := HZ0.out; have := HZ1.out; have := HT4.out; omega)) (Below.refl _ _).drew
  have hR4 : Rst (w3.setCell ⟨t4, 1, none⟩ (.int .i64 n)).drew B rb R := (H3.out.only (only_setCell (only_refl w3 (some t4)) 1 (.int .i64 n)) (by have := h.le; have := HZ0.out; have := HZ1.out; have := HT4.out; omega) (by have := HZ0.out; have := HZ1.out; have := HT4.out; omega)).be (Below.refl _ _).drew
  obtain ⟨wd, hwd⟩ : ∃ wd, (w3.setCell ⟨t4, 1, none⟩ (.int .i64 n)).drew = wd := ⟨_, rfl⟩
  rw [hwd] at hwd2 hwd4 hG4 hR4
  have HR4 := Sl.mk hR4
  have HG4 := Sl.mk hG4
  have hSw : Spw wd wd.heap.size := (hSp.be ((Below.refl B w).grown hG4 (by have := h.le; omega) (fun x hx => by injection hx with hx; have := h.le; omega))).mono (by have := h.le; have := hG4.size; omega)
  have HW := Sl.mk (word_any op wd hSw)
  have HLV : Sl (∀ W, Below wd.heap.size wd W → (loadVar 45 ⟨t4, 0, none⟩).run Tryd.prog W = .ok (.agg #[.int .i64 op, .int .i64 n, .string { data := #[] }]) W) := Sl.mk (fun W hW => run_load_blk (hwd4.be hW))
  have HSF : Sl (∀ W, Below wd.heap.size wd W → W.cell? ⟨t4, 0, none⟩ = some (.int .i64 op)) := Sl.mk (fun W hW => (hwd4.be hW).cell 0)
  rw [ht2]
  clear hR4 hG4 hSw ht2 c3 c4 f4 HB3
  refine wp_region_X (fun W => Below wd.heap.size wd W) [4, 5, 6] (by kernel_rfl) (by rw [hwd]; exact Below.refl _ _) (fun hS => ?_)
  rw [hwd] at hS ⊢
  clear hwd
  refine wpAnyX_S (i := 1) (v := ?_) rfl (by kernel_rfl) (by kernel_rfl) (by kernel_rfl) (by kernel_rfl) (fun _ _ _ h => h) (Or.inl ⟨by rfl, ?_⟩) hS ?_
  rotate_left 1
  · (intro w' hw'; (first | rw [hw'] | (have hw2 := HSF.out w' hw') | skip); go_simp; (try with_reducible rfl))
  simp only [Act.put, List.setIfInBounds_toArray, List.set_cons_zero, List.set_cons_succ]
  refine wpAnyX_S (i := 2) (v := ?_) rfl (by kernel_rfl) (by kernel_rfl) (by kernel_rfl) (by kernel_rfl) (fun _ _ _ h => h) (Or.inl ⟨by rfl, ?_⟩) hS ?_
  rotate_left 1
  · (intro w' hw'; (first | rw [hw'] | (have hw2 := HSF.out w' hw') | skip); go_simp; (try with_reducible rfl))
  simp only [Act.put, List.setIfInBounds_toArray, List.set_cons_zero, List.set_cons_succ]
  refine wpAnyX_twoL (i := 0) (j := 3) rfl rfl (by kernel_rfl) rfl rfl ?_ ?_
  · refine wp_of_run (v := .agg #[.int .i64 op, .int .i64 n, .string { data := #[] }]) (w' := wd) (by
      unfold execOp
      have := HLV.out wd (Below.refl _ _)
      simp [Instr.loadAt, Instr.sureAddr, Act.eval, this]) ⟨fun _ => hS, ?_⟩
    simp only [Act.put, List.setIfInBounds_toArray, List.set_cons_zero, List.set_cons_succ]
    refine wpAnyX_oneL (k := 3) rfl (by kernel_rfl) rfl ?_
    refine wp_of_call (f := 24) (args := #[.int .i64 op]) (by go_simp) HW.out (fun e w7 hq => ?_)
    obtain ⟨rfl, hB7⟩ := hq
    refine ⟨_, rfl, fun _ => hB7, ?_⟩
    simp only [Act.put, List.setIfInBounds_toArray, List.set_cons_zero, List.set_cons_succ]
    refine wpAnyX_P (i := 4) (v := ?_) rfl (by kernel_rfl) (by kernel_rfl) (by kernel_rfl) (by kernel_rfl) (fun _ _ _ h => h) (Or.inl ⟨by rfl, ?_⟩) ?_
    rotate_left 1
    · (intro w' hw'; (first | rw [hw'] | (have hw2 := HSF.out w' hw') | skip); go_simp; (try with_reducible rfl))
    simp only [Act.put, List.setIfInBounds_toArray, List.set_cons_zero, List.set_cons_succ]
    refine wpAnyX_tailF [5, 6] (by kernel_rfl) (by rfl) (by rfl) (by rfl) ?_
    simp only [List.filterMap_cons, List.filterMap_nil, List.getElem?_cons_succ, List.getElem?_cons_zero]
    refine st_in (hwd2.be hB7) rfl (.tmp 2) (.tmp 29) rfl op n { data := #[] } rfl (by rfl) rfl ?_
    intro w8 hb8 hg8 hz8
    have HB8 := Sl.mk hb8
    have HG8 := Sl.mk hg8
    have HZ8 := Sl.mk hz8
    have HB7 := Sl.mk hB7
    have hwt : (bsS (wordF op)).toList.isEmpty = false := word_full (by omega)
    clear hb8 hg8 hz8 hB7 hwd2 hwd4 hS
    go_wp2_with fail
    refine NoPanic.normal ?_
    go_wp2_with fail
    refine bodyPost_ret (v := .tuple #[.agg #[.int .i64 op, .int .i64 n, .string { data := #[] }], .bool true]) (res_cell_tmp Tryd.results34 _ _ _ rfl HB8.out Tryd.underlying45 iSize rfl) rfl ?_
    refine ⟨rfl, (HR4.out.be HB7.out).only HG8.out (by have := h.le; have := HT2s.out; omega) (by have := HT2s.out; omega), grown_only (only_below HG4.out HB7.out) HG8.out (by have := HT2s.out; omega)⟩
  · refine wp_of_call (f := 24) (args := #[.int .i64 op]) (by go_simp) HW.out (fun e w7 hq => ?_)
    obtain ⟨rfl, hB7⟩ := hq
    refine ⟨_, rfl, fun _ => hB7, ?_⟩
    simp only [Act.put, List.setIfInBounds_toArray, List.set_cons_zero, List.set_cons_succ]
    refine wpAnyX_P (i := 4) (v := ?_) rfl (by kernel_rfl) (by kernel_rfl) (by kernel_rfl) (by kernel_rfl) (fun _ _ _ h => h) (Or.inl ⟨by rfl, ?_⟩) ?_
    rotate_left 1
    · (intro w' hw'; (first | rw [hw'] | (have hw2 := HSF.out w' hw') | skip); go_simp; (try with_reducible rfl))
    simp only [Act.put, List.setIfInBounds_toArray, List.set_cons_zero, List.set_cons_succ]
    refine wpAnyX_oneL (k := 0) rfl (by kernel_rfl) rfl ?_
    refine wp_of_run (v := .agg #[.int .i64 op, .int .i64 n, .string { data := #[] }]) (w' := w7) (by
      unfold execOp
      have := HLV.out w7 hB7
      simp [Instr.loadAt, Instr.sureAddr, Act.eval, this]) ⟨fun _ => hB7, ?_⟩
    simp only [Act.put, List.setIfInBounds_toArray, List.set_cons_zero, List.set_cons_succ]
    refine wpAnyX_tailF [5, 6] (by kernel_rfl) (by rfl) (by rfl) (by rfl) ?_
    simp only [List.filterMap_cons, List.filterMap_nil, List.getElem?_cons_succ, List.getElem?_cons_zero]
    refine st_in (hwd2.be hB7) rfl (.tmp 2) (.tmp 29) rfl op n { data := #[] } rfl (by rfl) rfl ?_
    intro w8 hb8 hg8 hz8
    have HB8 := Sl.mk hb8
    have HG8 := Sl.mk hg8
    have HZ8 := Sl.mk hz8
    have HB7 := Sl.mk hB7
    have hwt : (bsS (wordF op)).toList.isEmpty = false := word_full (by omega)
    clear hb8 hg8 hz8 hB7 hwd2 hwd4 hS
    go_wp2_with fail
    refine NoPanic.normal ?_
    go_wp2_with fail
    refine bodyPost_ret (v := .tuple #[.agg #[.int .i64 op, .int .i64 n, .string { data := #[] }], .bool true]) (res_cell_tmp Tryd.results34 _ _ _ rfl HB8.out Tryd.underlying45 iSize rfl) rfl ?_
    refine ⟨rfl, (HR4.out.be HB7.out).only HG8.out (by have := h.le; have := HT2s.out; omega) (by have := HT2s.out; omega), grown_only (only_below HG4.out HB7.out) HG8.out (by have := HT2s.out; omega)⟩
end Go.Proofs.YtliealcdiogilaaDoor
