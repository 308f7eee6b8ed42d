/-
  The contract of creelref03.Bytes.
-/
import Derived.Test.YtbnmbncjefnpiaaDoorCd3
import Derived.ArgAppend
namespace Go.Proofs.YtbnmbncjefnpiaaDoor
open Go.RowKit
attribute [local go_sem ↓] Go.wp_at_zero Go.wp_at_succ

theorem ld_nx {ops : Array Oper} {rest : List Oper} {op : Oper} {a : Act} {w : World} {Q : Exit → Act → World → Prop} {ad : Addr} {k n : Int} {pb : Option Addr} {bl cb : Nat} {pl : Option Addr} {ll cl : Nat}
    (hc : ∀ j v, [Value.int .i64 k, .int .i64 n, .slice pb bl cb, .slice pl ll cl][j]? = some v → w.cell? (ad.add j) = some v) (hgd : op.guard = none) (y : Operand) (ho : op.op = .load 70 y) (hy : a.eval y = .pointer (some ad))
    (h : wpList Tryd.prog ops Q rest (a.put op.dst (.agg #[.int .i64 k, .int .i64 n, .slice pb bl cb, .slice pl ll cl])) w) : wpList Tryd.prog ops Q (op :: rest) a w :=
  wpList_load_at hgd 70 y ho _ hy [Value.int .i64 k, .int .i64 n, .slice pb bl cb, .slice pl ll cl] _ hc Tryd.underlying70 rfl (by rw [nxSize]; rfl) h
def ByPost (w : World) (v : Vc) (e : Ending) (w' : World) : Prop := ∃ (A : Option Addr) (q c : Nat), e = .returned (.slice A q c) ∧ (encV v).length = q ∧ Reads w' w'.heap.size 1 A q (u8s (encV v)) ∧ Below w.heap.size w w'

/-! ### An append to bytes that a string was turned to -/
/-- A row whose spare cells may be written. -/
structure Spare (w : World) (g n c : Nat) (xs : List Value) : Prop where
  lt : g < w.heap.size
  len : xs.length = n
  cells : ∀ j u, xs[j]? = some u → w.cell? ⟨g, j, none⟩ = some u
  room : ∀ j, j < c → (w.cell? ⟨g, j, none⟩).isSome = true ∧ w.frozen? ⟨g, j, none⟩ = false
theorem spare_bys (s : ByteArray) (w : World) : Spare (Lib.bytesWorld w 5 s) w.heap.size s.size (grownCap w s.size 0 5) (u8s (bys s)) := by
  have hg := Lib.bytesWorld_at_new w 5 s
  have hge := grownCap_ge w s.size 0 5
  have hsz : (Lib.bytesCells w 5 s).size = grownCap w s.size 0 5 := by
    unfold Lib.bytesCells
    rw [Array.size_append, Array.size_map, Array.size_replicate]
    show s.size + _ = _
    omega
  refine ⟨by rw [Lib.bytesWorld_size]; omega, by rw [u8s_len, bys_len], fun j u hu => ?_, fun j hj => ⟨?_, ?_⟩⟩
  · have hR := (bys_reads1 s w _ rfl)
    have hj : j < (u8s (bys s)).length := (List.getElem?_eq_some_iff.1 hu).1
    rw [u8s_len, bys_len] at hj
    obtain ⟨ad, e, _, hc⟩ := hR.2 (by omega)
    injection e with e
    have := hc j u hu
    rw [← e, ad_zero] at this
    exact this
  · rw [cell_of_row _ _ j _ _ _ hg]
    simp [show j < (Lib.bytesCells w 5 s).size by omega]
  · unfold World.frozen?
    simp only [hg]
    simp
    omega
theorem Spare.be {w w' : World} {g n c : Nat} {xs : List Value} (h : Spare w g n c xs) (hb : Below w.heap.size w w') : Spare w' g n c xs :=
  ⟨Nat.lt_of_lt_of_le h.lt hb.size, h.len, fun j u hu => (hb.cell (p := ⟨g, j, none⟩) h.lt).trans (h.cells j u hu), fun j hj => by
    rw [hb.cell (p := ⟨g, j, none⟩) h.lt, hb.frozen (p := ⟨g, j, none⟩) h.lt]; exact h.room j hj⟩
/-- The append itself: whichever of the two ways. -/
theorem wpList_append_spare {P : Program} (w : World) {ops : Array Oper} {rest : List Oper} {o : Oper} {a : Act} {Q : Exit → Act → World → Prop}
    (hgd : o.guard = none) (s x : Operand) (t : TypeId) (hop : o.op = Op.call { callee := Callee.builtin Builtin.append, args := #[s, x], argTypes := #[t, t] })
    (e : TypeId) (i : TypeInfo) (z : Value) (bytes : Nat) (h1 : P.underlying t = some (.slice e)) (h2 : P.info? e = some i) (h3 : i.zero = some z) (h4 : i.size = 1) (h5 : i.bytes = bytes) (h6 : z.cells.size = 1)
    (B g n cap : Nat) (olds : List Value) (hs : a.eval s = .slice (some ⟨g, 0, none⟩) n cap) (hsp : Spare w g n cap olds) (hB : B ≤ g)
    (A : Option Addr) (m c : Nat) (news : List Value) (hx : a.eval x = .slice A m c) (hr : Reads w w.heap.size 1 A m news) (h1c : ∀ u ∈ news, u.oneCell' = true)
    (hcap : n ≤ cap) (b1 : n + m ≤ maxLen) (b2 : (n + m) * bytes ≤ 140737488355328)
    (hK : ∀ A' c' w', n + m ≤ c' → Reads w' w'.heap.size 1 A' (n + m) (olds ++ news) → Below B w w' → wpList P ops Q rest (a.put o.dst (.slice A' (n + m) c')) w') : wpList P ops Q (o :: rest) a w := by
  have hol := hsp.len
  have hold : ∀ j u, olds[j]? = some u → w.cell? ((⟨g, 0, none⟩ : Addr).add j) = some u := fun j u hu => by rw [ad_zero]; exact hsp.cells j u hu
  rcases A with _ | ad
  · have hm : m = 0 := by
      rcases Nat.eq_zero_or_pos m with h0 | h0
      · exact h0
      · obtain ⟨ad, h, _⟩ := hr.2 h0
        cases h
    subst hm
    have hn : news = [] := List.eq_nil_of_length_eq_zero (by simpa using hr.1)
    subst hn
    refine wpList_plain hgd fun K hK' => ?_
    have hrun : (Builtin.append_ #[t, t] o.type #[.slice (some ⟨g, 0, none⟩) n cap, .slice none 0 c]).run P w = .ok (.slice (some ⟨g, 0, none⟩) n cap) w := by
      simp [Builtin.append_, run_underlying h1, sizeOf, typeInfo, h2, Builtin.lenOf, Builtin.firstCells, hcap, storeCells]
    unfold Oper.wp
    simp [execOp, hop, resolve, invoke, builtin, hs, hx, hrun, Result.andThen]
    refine hK' _ _ (hK (some ⟨g, 0, none⟩) cap w (by omega) ?_ (Below.refl _ _))
    rw [List.append_nil]
    exact ⟨by rw [hol]; omega, fun _ => ⟨_, rfl, hsp.lt, hold⟩⟩
  · have hcells : ∀ j u, news[j]? = some u → w.cell? (ad.add j) = some u := by
      intro j u hu
      rcases Nat.eq_zero_or_pos m with h0 | h0
      · subst h0
        have hn : news = [] := List.eq_nil_of_length_eq_zero (by simpa using hr.1)
        subst hn
        simp at hu
      · obtain ⟨ad', h, _, hc⟩ := hr.2 h0
        injection h with h
        subst h
        exact hc j u hu
    have hml : news.length = m := by have := hr.1; omega
    refine wpList_append_arg w hgd s x t hop e i z 1 bytes h1 h2 h3 h4 h5 h6 (by decide) g 0 n cap olds hs (by rw [hol]; omega) (fun j u hu => by rw [Nat.zero_add]; exact hsp.cells j u hu) ad m c news hx (by rw [hml]; omega) hcells h1c
      (fun hroom j hj => by rw [Nat.zero_add, Nat.mul_one]; exact hsp.room (n + j) (by omega)) b1 b2 (fun hroom => ?_) (fun hgr v' w' ho hg => ?_)
    · rw [Nat.zero_add, Nat.mul_one]
      have hgr := only_setCells g news n w w (only_refl w _)
      have hthere : w.there g n news.length := fun j hj => by
        have := (hsp.room (n + j) (by omega))
        exact this
      refine hK (some ⟨g, 0, none⟩) cap _ hroom ⟨by rw [List.length_append, hol, hml]; omega, fun _ => ⟨_, rfl, by rw [size_setCells]; exact hsp.lt, fun j u hu => ?_⟩⟩ (below_only (Below.refl B w) hgr (Nat.le_trans hB (Nat.le_of_lt hsp.lt)) hB)
      rw [ad_zero]
      rcases Nat.lt_or_ge j olds.length with h | h
      · rw [List.getElem?_append_left h] at hu
        have h3 := World.rangeAt_setCells_apart (w := w) (b' := g) (o' := 0) (cs := olds) (fun j v hv => by rw [Nat.zero_add]; exact hsp.cells j v hv) g n news (.inr (.inl (by omega)))
        have h4 := h3 j u hu
        rw [Nat.zero_add] at h4
        exact h4
      · rw [List.getElem?_append_right h] at hu
        have h3 := World.rangeAt_setCells_same w g n news hthere (j - olds.length) u hu
        rw [show n + (j - olds.length) = j by omega] at h3
        exact h3
    · obtain ⟨A', c', rfl, hc1, _⟩ := ownCap ho
      exact hK A' c' w' hc1 (Reads.of_own ho) ((Below.refl B w).grown hg (Nat.le_trans hB (Nat.le_of_lt hsp.lt)) (fun g e => by cases e))

theorem encL_take_len (l : List Vc) (j : Nat) : (encL (l.take j)).length ≤ (encL l).length := by
  have := congrArg List.length (encL_app (l.take j) (l.drop j))
  rw [List.take_append_drop, List.length_append] at this
  omega
set_option maxRecDepth 100000 in
set_option maxHeartbeats 4000000 in
theorem rbytes_any (v : Vc) : ∀ (S : Nat → Prop) (A : Option Addr) (n c : Nat) (all : List Nx) (i : Nat) (w : World), (∀ g, S g → g < w.heap.size) → Nods w S A n c all → Rep all i v → allV v = true → (encV v).length ≤ 131072 → n ≤ 1000000 →
    Calls Tryd.prog 17 #[.slice A n c, .int .i64 i] w (ByPost w v) := by
  induction v using Vc.ind_ with
  | h k0 n0 b0 l0 ih =>
    intro S A n c all i w hS hN hrep hall hlen hnm
    rw [Rep] at hrep
    obtain ⟨x, hx, hxk, hxn, hxb, hrl⟩ := hrep
    have hin : i < n := by rw [← hN.n_]; exact (List.getElem?_eq_some_iff.1 hx).1
    obtain ⟨ad, hA, hadb, hld, hok⟩ := hN.at_ hx
    subst hA
    have hini : (i : Int) < (n : Int) := by omega
    obtain ⟨k, n1, pb, b, cb, pl, l, cl⟩ := x
    simp only at hxk hxn hxb hrl
    subst hxk hxn hxb
    have hbsz : b.length ≤ 1000000 := hok.bl
    have hlsz : l.length ≤ 1000000 := hok.ll
    have hlcm : l.length ≤ cl := hok.lc
    have hclm : cl ≤ 9223372036854775807 := hok.lm
    obtain ⟨bl, hbl⟩ : ∃ bl, b.length = bl := ⟨_, rfl⟩
    obtain ⟨ll, hll⟩ : ∃ ll, l.length = ll := ⟨_, rfl⟩
    have hld' : ∀ j v, [Value.int .i64 k, .int .i64 n1, .slice pb bl cb, .slice pl ll cl][j]? = some v → w.cell? ((ad.add (i * 4)).add j) = some v := by rw [← hbl, ← hll]; exact hld
    have hB0 := below_al (Below.refl w.heap.size w) (.cells #[.int .i64 k, .int .i64 n1, .slice pb bl cb, .slice pl ll cl] 70)
    have hX0 := Blk.new w 70 #[.int .i64 k, .int .i64 n1, .slice pb bl cb, .slice pl ll cl]
    have hRb := hok.bs.reads hS
    have hRl := hok.is_.reads hS
    simp only at hRb hRl
    rw [hbl] at hbsz hRb
    rw [hll] at hlsz hlcm hRl
    have HN1 := Sl.mk (show -9223372036854775808 ≤ n1 ∧ n1 ≤ 9223372036854775807 from ⟨hok.n1, hok.n2⟩)
    have HBL := Sl.mk hbl
    have HLL := Sl.mk hll
    have HRB := Sl.mk hRb
    have HRL := Sl.mk hRl
    have HNN := Sl.mk hN
    have HS := Sl.mk hS
    have HREP := Sl.mk hrl
    simp only [allV, Bool.and_eq_true] at hall
    have hallL := hall.2
    clear hx hld hok hRb hRl hN hS hrl hbl hll hadb hin
    have hws : (w.alloc (.cells #[.int .i64 k, .int .i64 n1, .slice pb bl cb, .slice pl ll cl] 70)).heap.size = w.heap.size + 1 := by simp
    obtain ⟨w0, hw0⟩ : ∃ w0, w.alloc (.cells #[.int .i64 k, .int .i64 n1, .slice pb bl cb, .slice pl ll cl] 70) = w0 := ⟨_, rfl⟩
    rw [hw0] at hB0 hX0 hws
    have HW0 := Sl.mk hw0
    clear hw0
    have c0 := hX0.cell 0
    have c1 := hX0.cell 1
    have c2 := hX0.cell 2
    have c3 := hX0.cell 3
    rcases kind_zero hall.1 with rfl | rfl | rfl
    · have hen : encV (.mk 0 n1 b l0) = bys (⟨#[105]⟩ ++ itS n1 ++ ⟨#[59]⟩) := by
        rw [bys_app, bys_app, bys_it, encV, if_pos rfl]; rfl
      have hsz := it_size n1 HN1.out.1 HN1.out.2
      have hI := Sl.mk (rnumber_any n1 w0 HN1.out.1 HN1.out.2)
      obtain ⟨T, hT⟩ : ∃ T, itS n1 = T := ⟨_, rfl⟩
      rw [hT] at hI hsz hen
      have HEN := Sl.mk hen
      clear hT hen hlen hall ih
      go_enter Tryd.func17, Tryd.ntmps17
      go_wp2_with (first | refine ld_nx hld' rfl (.tmp 10) rfl rfl ?_)
      rw [HW0.out]
      refine hI.out.mono ?_
      rintro e w1 ⟨rfl, rfl⟩
      go_wp2_with fail
      rw [conv_bys]
      obtain ⟨U, hU⟩ : ∃ U, (⟨#[105]⟩ ++ T ++ ⟨#[59]⟩ : ByteArray) = U := ⟨_, rfl⟩
      rw [hU] at HEN ⊢
      have hbb := bys_below U w0
      have hrd := bys_reads1 U w0 _ rfl
      rw [hws] at hrd
      have HF := Sl.mk (And.intro hrd (hB0.trans (hbb.mono hB0.size)))
      obtain ⟨cp, hcp⟩ : ∃ cp, grownCap w0 U.size 0 5 = cp := ⟨_, rfl⟩
      rw [hcp]
      clear hU hbb hrd hcp hX0 c0 c1 c2 c3
      go_wp2_with fail
      go_ret
      exact ⟨_, _, _, rfl, by rw [HEN.out, bys_len], by rw [HEN.out]; exact HF.out.1, HF.out.2⟩
    · have hen : encV (.mk 1 n1 b l0) = bys (itS bl ++ ⟨#[58]⟩) ++ b := by
        rw [bys_app, bys_it, encV, if_neg (by decide), if_pos rfl, HBL.out, List.append_assoc]; rfl
      have hsz := it_size bl (by omega) (by omega)
      have hI := Sl.mk (fun W => rnumber_any (bl : Int) W (by omega) (by omega))
      obtain ⟨T, hT⟩ : ∃ T, itS bl = T := ⟨_, rfl⟩
      rw [hT] at hI hsz hen
      have HEN := Sl.mk hen
      have HLEN := Sl.mk hlen
      clear hT hen hlen hall ih
      obtain ⟨u0, hu0, hu1, hu2, hu3⟩ := info_parts u8Info
      have HU := Sl.mk (And.intro hu0 (And.intro hu1 (And.intro hu2 hu3)))
      clear hu0 hu1 hu2 hu3
      go_enter Tryd.func17, Tryd.ntmps17
      go_wp2_with (first | refine ld_nx hld' rfl (.tmp 10) rfl rfl ?_)
      rw [HW0.out]
      obtain ⟨wd, hwd⟩ : ∃ wd, w0.drew = wd := ⟨_, rfl⟩
      have hXd : Blk wd w.heap.size 70 #[.int .i64 1, .int .i64 n1, .slice pb bl cb, .slice pl ll cl] := by rw [← hwd]; exact hX0.drew
      have HBD := Sl.mk (show Below w.heap.size w wd by rw [← hwd]; exact hB0.drew)
      have HSF : Sl (∀ W, Below wd.heap.size wd W → W.cell? ⟨w.heap.size, 2, none⟩ = some (.slice pb bl cb)) := Sl.mk (fun W hW => (hXd.be hW).cell 2)
      clear hX0 c0 c1 c2 c3 hB0 hXd
      refine wp_region_X (fun W => Below wd.heap.size wd W) [8, 9] (by kernel_rfl) (by rw [hwd]; exact Below.refl _ _) (fun hS => ?_)
      rw [hwd] at hS ⊢
      clear hwd
      refine wpAnyX_S (i := 0) (v := ?_) rfl (by kernel_rfl) (by kernel_rfl) (by kernel_rfl) (by kernel_rfl) (fun _ _ _ h => h) (Or.inl ⟨by rfl, ?_⟩) hS ?_
      rotate_left 1
      · (intro w' hw'; (first | rw [hw'] | (have hw2 := HSF.out w' hw') | skip); go_simp; (try with_reducible rfl))
      simp only [Act.put, List.setIfInBounds_toArray, List.set_cons_zero, List.set_cons_succ]
      refine wpAnyX_S (i := 1) (v := ?_) rfl (by kernel_rfl) (by kernel_rfl) (by kernel_rfl) (by kernel_rfl) (fun _ _ _ h => h) (Or.inl ⟨by rfl, ?_⟩) hS ?_
      rotate_left 1
      · (intro w' hw'; (first | rw [hw'] | (have hw2 := HSF.out w' hw') | skip); go_simp; (try with_reducible rfl))
      simp only [Act.put, List.setIfInBounds_toArray, List.set_cons_zero, List.set_cons_succ]
      refine wpAnyX_S (i := 2) (v := ?_) rfl (by kernel_rfl) (by kernel_rfl) (by kernel_rfl) (by kernel_rfl) (fun _ _ _ h => h) (Or.inl ⟨by rfl, ?_⟩) hS ?_
      rotate_left 1
      · (intro w' hw'; (first | rw [hw'] | (have hw2 := HSF.out w' hw') | skip); go_simp; (try with_reducible rfl))
      simp only [Act.put, List.setIfInBounds_toArray, List.set_cons_zero, List.set_cons_succ]
      refine wpAnyX_S (i := 6) (v := ?_) rfl (by kernel_rfl) (by kernel_rfl) (by kernel_rfl) (by kernel_rfl) (fun _ _ _ h => h) (Or.inl ⟨by rfl, ?_⟩) hS ?_
      rotate_left 1
      · (intro w' hw'; (first | rw [hw'] | (have hw2 := HSF.out w' hw') | skip); go_simp; (try with_reducible rfl))
      simp only [Act.put, List.setIfInBounds_toArray, List.set_cons_zero, List.set_cons_succ]
      refine wpAnyX_S (i := 7) (v := ?_) rfl (by kernel_rfl) (by kernel_rfl) (by kernel_rfl) (by kernel_rfl) (fun _ _ _ h => h) (Or.inl ⟨by rfl, ?_⟩) hS ?_
      rotate_left 1
      · (intro w' hw'; (first | rw [hw'] | (have hw2 := HSF.out w' hw') | skip); go_simp; (try with_reducible rfl))
      simp only [Act.put, List.setIfInBounds_toArray, List.set_cons_zero, List.set_cons_succ]
      refine wpAnyX_oneL (k := 3) rfl (by kernel_rfl) rfl ?_
      refine wp_of_call (f := 29) (args := #[.int .i64 bl]) (by go_simp) (hI.out wd) (fun e w4 hq => ?_)
      obtain ⟨rfl, rfl⟩ := hq
      refine ⟨_, rfl, fun _ => hS, ?_⟩
      simp only [Act.put, List.setIfInBounds_toArray, List.set_cons_zero, List.set_cons_succ]
      have hTs : ¬ 9223372036854775807 < T.size + 1 := by omega
      refine wpAnyX_S (i := 4) (v := ?_) rfl (by kernel_rfl) (by kernel_rfl) (by kernel_rfl) (by kernel_rfl) (fun _ _ _ h => h) (Or.inl ⟨by rfl, ?_⟩) hS ?_
      rotate_left 1
      · (intro w' hw'; (first | rw [hw'] | (have hw2 := HSF.out w' hw') | skip); go_simp; (try with_reducible rfl))
      simp only [Act.put, List.setIfInBounds_toArray, List.set_cons_zero, List.set_cons_succ]
      refine wpAnyX_oneL (k := 5) rfl (by kernel_rfl) rfl ?_
      have hsT : (T ++ ⟨#[58]⟩ : ByteArray).size = T.size + 1 := by
        rw [ByteArray.size_append]
        rfl
      obtain ⟨U, hU⟩ : ∃ U, (T ++ ⟨#[58]⟩ : ByteArray) = U := ⟨_, rfl⟩
      rw [hU] at HEN hsT
      have hUs : U.size ≤ 22 := by omega
      clear hsT
      refine wp_of_run (v := .slice (some ⟨wd.heap.size, 0, none⟩) U.size (grownCap wd U.size 0 5)) (w' := Lib.bytesWorld wd 5 U) ?_ ⟨fun _ => bys_below U wd, ?_⟩
      · have hcv := conv_bys U wd
        go_simp
      simp only [Act.put, List.setIfInBounds_toArray, List.set_cons_zero, List.set_cons_succ]
      refine wpAnyX_tailF [8, 9] (by kernel_rfl) (by rfl) (by rfl) (by rfl) ?_
      simp only [List.filterMap_cons, List.filterMap_nil, List.getElem?_cons_succ, List.getElem?_cons_zero]
      obtain ⟨hu0, hu1, hu2, hu3⟩ := HU.out
      have hsp := spare_bys U wd
      have hb1 := bys_below U wd
      have hE1 := HBD.out.trans (hb1.mono HBD.out.size)
      have hrb := (HRB.out.below hE1).more hE1.size
      have hq1 : (encV (.mk 1 n1 b l0)).length = U.size + bl := by rw [HEN.out, List.length_append, bys_len, HBL.out]
      have hq2 := HLEN.out
      rw [hq1] at hq2
      have HQ1 := Sl.mk hq1
      refine wpList_append_spare (Lib.bytesWorld wd 5 U) rfl (.tmp 29) (.tmp 31) 23 rfl 5 u0 (.int .u8 0) 1 Tryd.underlying23 hu0 hu1 hu2 hu3 rfl w.heap.size wd.heap.size U.size (grownCap wd U.size 0 5) (u8s (bys U)) rfl hsp HBD.out.size pb bl cb (u8s b) rfl hrb (u8s_one _) (grownCap_ge _ _ _ _) (by unfold maxLen; omega) (by omega) ?_
      intro A9 c9 w9 hc9 hr9 hb9
      have HF := Sl.mk (And.intro hr9 (hE1.trans hb9))
      clear hu0 hu1 hu2 hu3 hsp hb1 hE1 hrb hq1 hq2 hr9 hb9 hU hTs
      go_wp2_with fail
      refine NoPanic.normal ?_
      go_wp2_with fail
      go_ret
      exact ⟨_, _, _, rfl, HQ1.out, by rw [HEN.out, show u8s (bys U ++ b) = u8s (bys U) ++ u8s b by simp [u8s]]; exact HF.out.1, HF.out.2⟩
    · have hen : encV (.mk 2 n1 b l0) = 40 :: (encL l0 ++ [41]) := by rw [encV, if_neg (by decide), if_neg (by decide), if_pos rfl]
      rw [hen] at hlen
      have hlen2 : (encL l0).length + 2 ≤ 131072 := by simpa using hlen
      have HEN := Sl.mk hen
      have hl0 := HREP.out.len
      rw [HLL.out] at hl0
      have HL0 := Sl.mk hl0
      have HIH := Sl.mk ih
      have HALL := Sl.mk hallL
      have HB0 := Sl.mk hB0
      clear hen hlen hall ih hl0 hB0 hallL
      obtain ⟨u0, hu0, hu1, hu2, hu3⟩ := info_parts u8Info
      have HU := Sl.mk (And.intro hu0 (And.intro hu1 (And.intro hu2 hu3)))
      clear hu0 hu1 hu2 hu3
      have hE1 := HB0.out.trans ((below_al (Below.refl w0.heap.size w0) (.cells #[.int .u8 40] 5)).mono HB0.out.size)
      have hX1 := hX0.alloc (.cells #[.int .u8 40] 5)
      have ho1 : (w0.alloc (.cells #[.int .u8 40] 5)).ownsRow w.heap.size 5 1 (.slice (some ⟨w0.heap.size, 0, none⟩) 1 1) 1 (u8s [40]) := own_base (World.ownsRow_lit w0 #[.int .u8 40] 1 (Nat.le_refl _) (by unfold maxLen; omega) rfl) HB0.out.size
      obtain ⟨w1, hw1⟩ : ∃ w1, w0.alloc (.cells #[.int .u8 40] 5) = w1 := ⟨_, rfl⟩
      rw [hw1] at hE1 hX1 ho1
      have HW1 := Sl.mk hw1
      rw [hws] at ho1
      have HO1 := Sl.mk ho1
      clear hw1 ho1
      go_enter Tryd.func17, Tryd.ntmps17
      go_wp2_with (first | refine ld_nx hld' rfl (.tmp 10) rfl rfl ?_)
      rw [HW0.out, HW1.out]
      clear hX0 c0 c1 c2 c3
      go_loopw [6, 7] (fun v6 v7 wr => ∃ (j q co : Nat) (Ao : Option Addr), j ≤ ll ∧ v7 = .int .i64 j ∧ v6 = .slice Ao q co ∧ Blk wr w.heap.size 70 #[.int .i64 2, .int .i64 n1, .slice pb bl cb, .slice pl ll cl] ∧ Below w.heap.size w wr ∧
          Sl (wr.ownsRow w.heap.size 5 1 (.slice Ao q co) q (u8s (40 :: encL (l0.take j))) ∧ q = (encL (l0.take j)).length + 1)) (fun _ v7 _ => ll - (intOf v7).toNat)
      case atStart => exact ⟨0, 1, 1, _, Nat.zero_le _, rfl, rfl, hX1, hE1, ⟨HO1.out, rfl⟩⟩
      case round =>
        obtain ⟨j, q, co, Ao, hj, rfl, rfl, hX, hB, HSS⟩ := hrel
        have c3 := hX.cell 3
        obtain ⟨hown, hq⟩ := HSS.out
        have hqm : q ≤ 131071 := by have := encL_take_len l0 j; omega
        by_cases hjl : j < ll
        · obtain ⟨y, hy⟩ : ∃ y, l0[j]? = some y := ⟨_, List.getElem?_eq_getElem (by rw [← HL0.out]; exact hjl)⟩
          obtain ⟨i2, hi2, hrep2⟩ := HREP.out.at_ hy
          have hmem := List.mem_of_getElem? hy
          obtain ⟨ad2, u, hpl, hadb2, hu, hcu⟩ := (HRL.out.below hB).at_ hjl
          have hue : u = .int .i64 (i2 : Int) := by
            unfold idsV at hu
            rw [List.getElem?_map, hi2] at hu
            simpa using hu.symm
          subst hpl hue
          have hly : (encV y).length ≤ 131072 := by
            have h1 := encL_take_len l0 (j + 1)
            rw [take_one hy, encL_app, List.length_append] at h1
            simp only [encL, List.append_nil] at h1
            omega
          have HC := Sl.mk (HIH.out y hmem S (some ad) n c all i2 wr (fun g hg => Nat.lt_of_lt_of_le (HS.out g hg) hB.size) (HNN.out.keep fun p hp => hB.cell (HS.out _ hp)) hrep2 (allL_mem HALL.out y hmem) hly hnm)
          have HY := Sl.mk hy
          have HOWN := Sl.mk hown
          have HQ := Sl.mk hq
          have hlyq : q + (encV y).length ≤ 131072 := by
            have h1 := encL_take_len l0 (j + 1)
            rw [take_one hy, encL_app, List.length_append] at h1
            simp only [encL, List.append_nil] at h1
            omega
          have hsw := hB.size
          clear hi2 hrep2 hmem hu hadb2 hly hown hq HSS hy HIH
          go_wp2_with fail
          refine HC.out.mono ?_
          rintro e w2 ⟨A2, q2, c2, rfl, hq2, hr2, hB2⟩
          have hX2 := hX.be hB2
          have hE2 := hB.trans (hB2.mono hB.size)
          have ho2 := own_below HOWN.out hB2
          have hs2 := hB2.size
          obtain ⟨hu0, hu1, hu2, hu3⟩ := HU.out
          have HQ2 := Sl.mk hq2
          rw [hq2] at hlyq
          clear hX hB hB2 hq2 c3 HC
          go_wp2_with (at_builtin; refine wpList_append_any _ rfl (.tmp 41) (.tmp 48) 23 rfl w.heap.size 5 u0 (.int .u8 0) 1 1 Tryd.underlying23 hu0 hu1 hu2 hu3 rfl (by decide) _ q _ rfl ho2 w2.heap.size A2 q2 c2 (u8s (encV y)) rfl hr2 (u8s_one _) (by unfold maxLen; omega) (by omega) (by omega) ?_)
          intro v5 w5 ho5 hg5 _
          obtain ⟨A5, c5, rfl⟩ := ownForm ho5
          have hX5 := hX2.grown hg5 (fun e => own_blk_ne ho2 hX2 (by decide) e.symm)
          have hE5 := hE2.grown hg5 (by omega) (fun g e => (ho2.lt g e).1)
          have HF := Sl.mk (show w5.ownsRow w.heap.size 5 1 (.slice A5 (q + q2) c5) (q + q2) (u8s (40 :: encL (l0.take (j + 1)))) ∧ q + q2 = (encL (l0.take (j + 1))).length + 1 by
            rw [take_one HY.out, encL_app]
            simp only [encL, List.append_nil]
            refine ⟨?_, by rw [List.length_append, HQ.out, HQ2.out]; omega⟩
            rw [show u8s (40 :: (encL (l0.take j) ++ encV y)) = u8s (40 :: encL (l0.take j)) ++ u8s (encV y) by simp [u8s]]
            exact ho5)
          clear hX2 hE2 ho2 hr2 hu0 hu1 hu2 hu3 ho5 hg5
          go_wp2_with fail
          go_roundw
          case rel => exact ⟨j + 1, q + q2, c5, A5, by omega, by go_num, rfl, hX5, hE5, HF⟩
          case measure => simp [intOf]; omega
        · obtain rfl : j = ll := by omega
          have hba := below_al (Below.refl wr.heap.size wr) (.cells #[.int .u8 41] 5)
          have ho2 := own_below hown hba
          rw [List.take_of_length_le (by rw [← HL0.out]; exact Nat.le_refl _)] at ho2 hq
          have hE2 := hB.trans (hba.mono hB.size)
          have hRi : Reads (wr.alloc (.cells #[.int .u8 41] 5)) (wr.heap.size + 1) 1 (some ⟨wr.heap.size, 0, none⟩) 1 (u8s [41]) := ⟨rfl, fun _ => ⟨_, rfl, Nat.lt_succ_self _, fun j u hu => by rw [ad_zero, (Blk.new _ _ _).cell j]; simpa [u8s] using hu⟩⟩
          obtain ⟨hu0, hu1, hu2, hu3⟩ := HU.out
          have HQ := Sl.mk hq
          have hsw := hB.size
          clear hX hown hq HSS hB hba
          go_wp2_with (at_builtin; refine wpList_append_any _ rfl (.tmp 50) (.tmp 51) 23 rfl w.heap.size 5 u0 (.int .u8 0) 1 1 Tryd.underlying23 hu0 hu1 hu2 hu3 rfl (by decide) _ q _ rfl ho2 (wr.heap.size + 1) _ 1 1 (u8s [41]) rfl hRi (u8s_one _) (by unfold maxLen; omega) (by omega) (by simp; omega) ?_)
          intro v5 w5 ho5 hg5 _
          obtain ⟨A5, c5, rfl⟩ := ownForm ho5
          have hE5 := hE2.grown hg5 (by simp; omega) (fun g e => (ho2.lt g e).1)
          have HF := Sl.mk (And.intro (Reads.of_own ho5) hE5)
          clear ho2 hE2 hRi hu0 hu1 hu2 hu3 ho5 hg5 hE5
          go_wp2_with fail
          go_ret
          exact ⟨_, _, _, rfl, by rw [HEN.out, HQ.out]; simp, by rw [HEN.out, show u8s (40 :: (encL l0 ++ [41])) = u8s (40 :: encL l0) ++ u8s [41] by simp [u8s]]; exact HF.out.1, HF.out.2⟩

end Go.Proofs.YtbnmbncjefnpiaaDoor
