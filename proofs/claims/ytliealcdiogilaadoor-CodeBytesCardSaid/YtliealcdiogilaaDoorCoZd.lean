/-
  What is still to be read of bytes: the contract of instr, where it is a word alone.
  What is still to be read of bytes: the contract of instr, where it is a text.
-/
import Derived.Test.YtliealcdiogilaaDoorCoZb
namespace Go.Proofs.YtliealcdiogilaaDoor
open Go.RowKit
attribute [local go_sem ↓] Go.wp_at_zero Go.wp_at_succ

set_option maxRecDepth 100000 in
set_option maxHeartbeats 4000000 in
theorem instr_word (B rb : Nat) (x : Ci) (R : List Nat) (w : World) (hop : 0 ≤ x.op ∧ x.op ≤ 21) (hn : x.n = 0) (hs : x.s = []) (hN : numB x.op = false) (ho2 : x.op ≠ 2) (hSp : Spw w B) (h : Rst w B rb (encI x ++ R)) :
    Calls Tryd.prog 34 #[.pointer (some ⟨rb, 0, none⟩)] w (InPost w B rb x R) := by
  obtain ⟨xo, xn, xs⟩ := x
  obtain ⟨op, rfl⟩ : ∃ op : Nat, xo = op := ⟨xo.toNat, by simp at hop; omega⟩
  simp only at hop hn hs hN ho2
  subst hn
  subst hs
  have hE : encI ⟨op, 0, []⟩ ++ R = op :: R := by
    simp [encI, hN, ho2]
  rw [hE] at h
  have hlt := h.lt
  have HT := Sl.mk (fun W => fun (hR : Rst W B rb (op :: R)) => one_ok B rb op _ W (by omega) hR)
  obtain ⟨w0, hw0⟩ : ∃ w0, w.alloc (.cells #[.int .i64 0, .int .i64 0, .string { data := #[] }] 45) = w0 := ⟨_, rfl⟩
  have H0 := Sl.mk (h.be (below_al (Below.refl w.heap.size w) (.cells #[.int .i64 0, .int .i64 0, .string { data := #[] }] 45)))
  rw [hw0] at H0
  go_enter Tryd.func34, Tryd.ntmps34
  go_wp2_with fail
  have hb0 : Blk w0 w.heap.size 45 #[.int .i64 0, .int .i64 0, .string { data := #[] }] := by rw [← hw0]; exact Blk.new _ _ _
  have hz0 : w0.heap.size = w.heap.size + 1 := by rw [← hw0]; simp
  have HB0 := Sl.mk hb0
  have HZ0 := Sl.mk hz0
  have HGa := Sl.mk (show Below w.heap.size w w0 by rw [← hw0]; exact below_al (Below.refl w.heap.size w) _)
  clear hw0 hz0 hb0
  refine (HT.out w0 H0.out).mono ?_
  rintro e w1 ⟨rfl, h1, g1, z1⟩
  have HZ1 := Sl.mk z1
  have HG1 := Sl.mk g1
  have H1 := Sl.mk (h1.be (below_al (Below.refl w1.heap.size w1) (.cells #[.int .i64 op, .int .i64 0, .string { data := #[] }] 45)))
  have HB1 := Sl.mk (Blk.new w1 45 #[.int .i64 op, .int .i64 0, .string { data := #[] }])
  have HGb := Sl.mk (below_al (Below.refl w1.heap.size w1) (.cells #[.int .i64 op, .int .i64 0, .string { data := #[] }] 45))
  clear z1 g1 h1
  have HNb := Sl.mk (fun W => number_any op W)
  go_wp2_with (refine (HNb.out _).mono ?_; rintro _ _ ⟨rfl, rfl⟩; try rw [hN])
  obtain ⟨w1b, hw1b⟩ : ∃ w1b, w1.alloc (.cells #[.int .i64 op, .int .i64 0, .string { data := #[] }] 45) = w1b := ⟨_, rfl⟩
  rw [hw1b] at H1 HB1 HGb
  have HGb0 := HGb
  obtain ⟨t4, ht4⟩ : ∃ t4, w1.heap.size = t4 := ⟨_, rfl⟩
  have HT4 := Sl.mk ht4
  rw [hw1b, ht4]
  rw [ht4] at HB1 HGb HZ1
  clear hw1b ht4
  have hB2 : Blk w1b w.heap.size 45 #[.int .i64 0, .int .i64 0, .string { data := #[] }] := by
    have hne : w.heap.size ≠ rb := by omega
    have e0 := HZ0.out; have e1 := HZ1.out; have e4 := HT4.out
    have hl1 : w.heap.size < w0.heap.size := by omega
    have hl2 : w.heap.size < w1.heap.size := by omega
    exact ((HB0.out.grown HG1.out (by simpa using hne)).below HGb0.out hl2)
  have hG : w.grownBy w1b (some rb) := only_below (only_trans (only_below (only_refl w (some rb)) HGa.out) HG1.out) HGb0.out
  have hne4 : w.heap.size ≠ t4 := by have := HZ0.out; have := HZ1.out; have := HT4.out; omega
  obtain ⟨t2, ht2⟩ : ∃ t2, w.heap.size = t2 := ⟨_, rfl⟩
  have HT2s := Sl.mk ht2
  rw [ht2] at hB2 hne4
  have hwd2 : Blk (w1b.drew) t2 45 #[.int .i64 0, .int .i64 0, .string { data := #[] }] := hB2.drew
  have hwd4 : Blk (w1b.drew) t4 45 #[.int .i64 op, .int .i64 0, .string { data := #[] }] := HB1.out.drew
  have hG4 : w.grownBy w1b.drew (some rb) := only_below hG (Below.refl _ _).drew
  have hR4 : Rst w1b.drew B rb R := H1.out.be (Below.refl _ _).drew
  obtain ⟨wd, hwd⟩ : ∃ wd, w1b.drew = wd := ⟨_, rfl⟩
  rw [hwd] at hwd2 hwd4 hG4 hR4
  have HR4 := Sl.mk hR4
  have HG4 := Sl.mk hG4
  have hSw : Spw wd wd.heap.size := (hSp.be ((Below.refl B w).grown hG4 (by have := h.le; omega) (fun x hx => by injection hx with hx; have := h.le; omega))).mono (by have := h.le; have := hG4.size; omega)
  have HW := Sl.mk (word_any op wd hSw)
  have HLV : Sl (∀ W, Below wd.heap.size wd W → (loadVar 45 ⟨t4, 0, none⟩).run Tryd.prog W = .ok (.agg #[.int .i64 op, .int .i64 0, .string { data := #[] }]) W) := Sl.mk (fun W hW => run_load_blk (hwd4.be hW))
  have HSF : Sl (∀ W, Below wd.heap.size wd W → W.cell? ⟨t4, 0, none⟩ = some (.int .i64 op)) := Sl.mk (fun W hW => (hwd4.be hW).cell 0)
  rw [ht2]
  clear hR4 hG4 hSw ht2
  refine wp_region_X (fun W => Below wd.heap.size wd W) [4, 5, 6] (by kernel_rfl) (by rw [hwd]; exact Below.refl _ _) (fun hS => ?_)
  rw [hwd] at hS ⊢
  clear hwd
  refine wpAnyX_S (i := 1) (v := ?_) rfl (by kernel_rfl) (by kernel_rfl) (by kernel_rfl) (by kernel_rfl) (fun _ _ _ h => h) (Or.inl ⟨by rfl, ?_⟩) hS ?_
  rotate_left 1
  · (intro w' hw'; (first | rw [hw'] | (have hw2 := HSF.out w' hw') | skip); go_simp; (try with_reducible rfl))
  simp only [Act.put, List.setIfInBounds_toArray, List.set_cons_zero, List.set_cons_succ]
  refine wpAnyX_S (i := 2) (v := ?_) rfl (by kernel_rfl) (by kernel_rfl) (by kernel_rfl) (by kernel_rfl) (fun _ _ _ h => h) (Or.inl ⟨by rfl, ?_⟩) hS ?_
  rotate_left 1
  · (intro w' hw'; (first | rw [hw'] | (have hw2 := HSF.out w' hw') | skip); go_simp; (try with_reducible rfl))
  simp only [Act.put, List.setIfInBounds_toArray, List.set_cons_zero, List.set_cons_succ]
  refine wpAnyX_twoL (i := 0) (j := 3) rfl rfl (by kernel_rfl) rfl rfl ?_ ?_
  · refine wp_of_run (v := .agg #[.int .i64 op, .int .i64 0, .string { data := #[] }]) (w' := wd) (by
      unfold execOp
      have := HLV.out wd (Below.refl _ _)
      simp [Instr.loadAt, Instr.sureAddr, Act.eval, this]) ⟨fun _ => hS, ?_⟩
    simp only [Act.put, List.setIfInBounds_toArray, List.set_cons_zero, List.set_cons_succ]
    refine wpAnyX_oneL (k := 3) rfl (by kernel_rfl) rfl ?_
    refine wp_of_call (f := 24) (args := #[.int .i64 op]) (by go_simp) HW.out (fun e w7 hq => ?_)
    obtain ⟨rfl, hB7⟩ := hq
    refine ⟨_, rfl, fun _ => hB7, ?_⟩
    simp only [Act.put, List.setIfInBounds_toArray, List.set_cons_zero, List.set_cons_succ]
    refine wpAnyX_P (i := 4) (v := ?_) rfl (by kernel_rfl) (by kernel_rfl) (by kernel_rfl) (by kernel_rfl) (fun _ _ _ h => h) (Or.inl ⟨by rfl, ?_⟩) ?_
    rotate_left 1
    · (intro w' hw'; (first | rw [hw'] | (have hw2 := HSF.out w' hw') | skip); go_simp; (try with_reducible rfl))
    simp only [Act.put, List.setIfInBounds_toArray, List.set_cons_zero, List.set_cons_succ]
    refine wpAnyX_tailF [5, 6] (by kernel_rfl) (by rfl) (by rfl) (by rfl) ?_
    simp only [List.filterMap_cons, List.filterMap_nil, List.getElem?_cons_succ, List.getElem?_cons_zero]
    refine st_in (hwd2.be hB7) rfl (.tmp 2) (.tmp 29) rfl op 0 { data := #[] } rfl (by rfl) rfl ?_
    intro w8 hb8 hg8 hz8
    have HB8 := Sl.mk hb8
    have HG8 := Sl.mk hg8
    have HZ8 := Sl.mk hz8
    have HB7 := Sl.mk hB7
    have hwt : (bsS (wordF op)).toList.isEmpty = false := word_full (by omega)
    clear hb8 hg8 hz8 hB7 hwd2 hwd4 hS
    go_wp2_with fail
    refine NoPanic.normal ?_
    go_wp2_with fail
    refine bodyPost_ret (v := .tuple #[.agg #[.int .i64 op, .int .i64 0, .string { data := #[] }], .bool true]) (res_cell_tmp Tryd.results34 _ _ _ rfl HB8.out Tryd.underlying45 iSize rfl) rfl ?_
    refine ⟨rfl, (HR4.out.be HB7.out).only HG8.out (by have := h.le; have := HT2s.out; omega) (by have := HT2s.out; omega), grown_only (only_below HG4.out HB7.out) HG8.out (by have := HT2s.out; omega)⟩
  · refine wp_of_call (f := 24) (args := #[.int .i64 op]) (by go_simp) HW.out (fun e w7 hq => ?_)
    obtain ⟨rfl, hB7⟩ := hq
    refine ⟨_, rfl, fun _ => hB7, ?_⟩
    simp only [Act.put, List.setIfInBounds_toArray, List.set_cons_zero, List.set_cons_succ]
    refine wpAnyX_P (i := 4) (v := ?_) rfl (by kernel_rfl) (by kernel_rfl) (by kernel_rfl) (by kernel_rfl) (fun _ _ _ h => h) (Or.inl ⟨by rfl, ?_⟩) ?_
    rotate_left 1
    · (intro w' hw'; (first | rw [hw'] | (have hw2 := HSF.out w' hw') | skip); go_simp; (try with_reducible rfl))
    simp only [Act.put, List.setIfInBounds_toArray, List.set_cons_zero, List.set_cons_succ]
    refine wpAnyX_oneL (k := 0) rfl (by kernel_rfl) rfl ?_
    refine wp_of_run (v := .agg #[.int .i64 op, .int .i64 0, .string { data := #[] }]) (w' := w7) (by
      unfold execOp
      have := HLV.out w7 hB7
      simp [Instr.loadAt, Instr.sureAddr, Act.eval, this]) ⟨fun _ => hB7, ?_⟩
    simp only [Act.put, List.setIfInBounds_toArray, List.set_cons_zero, List.set_cons_succ]
    refine wpAnyX_tailF [5, 6] (by kernel_rfl) (by rfl) (by rfl) (by rfl) ?_
    simp only [List.filterMap_cons, List.filterMap_nil, List.getElem?_cons_succ, List.getElem?_cons_zero]
    refine st_in (hwd2.be hB7) rfl (.tmp 2) (.tmp 29) rfl op 0 { data := #[] } rfl (by rfl) rfl ?_
    intro w8 hb8 hg8 hz8
    have HB8 := Sl.mk hb8
    have HG8 := Sl.mk hg8
    have HZ8 := Sl.mk hz8
    have HB7 := Sl.mk hB7
    have hwt : (bsS (wordF op)).toList.isEmpty = false := word_full (by omega)
    clear hb8 hg8 hz8 hB7 hwd2 hwd4 hS
    go_wp2_with fail
    refine NoPanic.normal ?_
    go_wp2_with fail
    refine bodyPost_ret (v := .tuple #[.agg #[.int .i64 op, .int .i64 0, .string { data := #[] }], .bool true]) (res_cell_tmp Tryd.results34 _ _ _ rfl HB8.out Tryd.underlying45 iSize rfl) rfl ?_
    refine ⟨rfl, (HR4.out.be HB7.out).only HG8.out (by have := h.le; have := HT2s.out; omega) (by have := HT2s.out; omega), grown_only (only_below HG4.out HB7.out) HG8.out (by have := HT2s.out; omega)⟩
end Go.Proofs.YtliealcdiogilaaDoor

namespace Go.Proofs.YtliealcdiogilaaDoor
open Go.RowKit
attribute [local go_sem ↓] Go.wp_at_zero Go.wp_at_succ

def strN (d : List Nat) : ByteArray := ⟨(d.map UInt8.ofNat).toArray⟩
theorem strN_size (d : List Nat) : (strN d).size = d.length := by simp [strN, ByteArray.size]
theorem conv_str {w : World} {B n c : Nat} {A : Option Addr} {d : List Nat} (h : Reads w B 1 A n (u8s d)) (hb : ∀ b ∈ d, b < 256) :
    (convert 47 9 (.slice A n c)).run Tryd.prog w = .ok (.string (strN d)) w := by
  have hl := bytes_n h
  cases A with
  | none =>
    have h0 : n = 0 := by
      rcases Nat.eq_zero_or_pos n with h0 | h0
      · exact h0
      · obtain ⟨ad, e, _⟩ := h.2 h0; cases e
    subst h0
    obtain rfl : d = [] := List.eq_nil_of_length_eq_zero hl
    exact run_convert_bytes_nil (P := Tryd.prog) w 47 5 Tryd.underlying47 Tryd.underlying5 0 c 9 Tryd.underlying9
  | some ad =>
    have hm : (d.map UInt8.ofNat).length = n := by simpa using hl
    have := run_convert_bytes_back (P := Tryd.prog) w 47 9 5 ad c (d.map UInt8.ofNat) Tryd.underlying47 Tryd.underlying5 Tryd.underlying9 (fun j hj => by
      have hj' : j < d.length := by simpa using hj
      have hn : 0 < n := by omega
      obtain ⟨ad', e, _, hc⟩ := h.2 hn
      have e' := Option.some.inj e
      subst e'
      have h1 := hc j (.int .u8 ((d[j] : Nat) : Int)) (by simp [u8s, hj'])
      rw [h1]
      have h2 := hb d[j] (List.getElem_mem hj')
      simp only [List.getElem_map, UInt8.toNat_ofNat']
      rw [Nat.mod_eq_of_lt (by omega)])
    rw [hm] at this
    exact this
set_option maxRecDepth 100000 in
set_option maxHeartbeats 4000000 in
theorem instr_text (B rb : Nat) (x : Ci) (R : List Nat) (w : World) (hop : x.op = 2) (hn : x.n = 0) (hs : x.s.length ≤ 60) (hSp : Spw w B) (h : Rst w B rb (encI x ++ R)) :
    Calls Tryd.prog 34 #[.pointer (some ⟨rb, 0, none⟩)] w (InPost w B rb x R) := by
  obtain ⟨xo, xn, xs⟩ := x
  simp only at hop hn hs
  subst hop hn
  have hN : numB 2 = false := rfl
  obtain ⟨m, hm⟩ : ∃ m, xs.length = m := ⟨_, rfl⟩
  have hE : encI ⟨2, 0, xs⟩ ++ R = 2 :: m :: (xs.map UInt8.toNat ++ R) := by
    simp [encI, hN, hm]
  rw [hE] at h
  rw [hm] at hs
  have hlt := h.lt
  have HT := Sl.mk (fun W => fun (hR : Rst W B rb (2 :: m :: (xs.map UInt8.toNat ++ R))) => one_ok B rb 2 _ W (by omega) hR)
  have HT1 := Sl.mk (fun W => fun (hR : Rst W B rb (m :: (xs.map UInt8.toNat ++ R))) => one_ok B rb _ _ W (by omega) hR)
  have HT2 := Sl.mk (fun W => fun (hR : Rst W B rb (xs.map UInt8.toNat ++ R)) => take_ok B rb m _ W (by simp [hm]) hR)
  obtain ⟨w0, hw0⟩ : ∃ w0, w.alloc (.cells #[.int .i64 0, .int .i64 0, .string { data := #[] }] 45) = w0 := ⟨_, rfl⟩
  have H0 := Sl.mk (h.be (below_al (Below.refl w.heap.size w) (.cells #[.int .i64 0, .int .i64 0, .string { data := #[] }] 45)))
  rw [hw0] at H0
  go_enter Tryd.func34, Tryd.ntmps34
  go_wp2_with fail
  have hb0 : Blk w0 w.heap.size 45 #[.int .i64 0, .int .i64 0, .string { data := #[] }] := by rw [← hw0]; exact Blk.new _ _ _
  have hz0 : w0.heap.size = w.heap.size + 1 := by rw [← hw0]; simp
  have HB0 := Sl.mk hb0
  have HZ0 := Sl.mk hz0
  have HGa := Sl.mk (show Below w.heap.size w w0 by rw [← hw0]; exact below_al (Below.refl w.heap.size w) _)
  clear hw0 hz0 hb0
  refine (HT.out w0 H0.out).mono ?_
  rintro e w1 ⟨rfl, h1, g1, z1⟩
  have HZ1 := Sl.mk z1
  have HG1 := Sl.mk g1
  have H1 := Sl.mk (h1.be (below_al (Below.refl w1.heap.size w1) (.cells #[.int .i64 2, .int .i64 0, .string { data := #[] }] 45)))
  have HB1 := Sl.mk (Blk.new w1 45 #[.int .i64 2, .int .i64 0, .string { data := #[] }])
  have HGb := Sl.mk (below_al (Below.refl w1.heap.size w1) (.cells #[.int .i64 2, .int .i64 0, .string { data := #[] }] 45))
  clear z1 g1 h1
  have HNb := Sl.mk (fun W => number_any 2 W)
  go_wp2_with (refine (HNb.out _).mono ?_; rintro _ _ ⟨rfl, rfl⟩; try rw [hN])
  obtain ⟨w1b, hw1b⟩ : ∃ w1b, w1.alloc (.cells #[.int .i64 2, .int .i64 0, .string { data := #[] }] 45) = w1b := ⟨_, rfl⟩
  rw [hw1b] at H1 HB1 HGb
  have HGb0 := HGb
  obtain ⟨t4, ht4⟩ : ∃ t4, w1.heap.size = t4 := ⟨_, rfl⟩
  have HT4 := Sl.mk ht4
  rw [hw1b, ht4]
  rw [ht4] at HB1 HGb HZ1
  clear hw1b ht4 
  refine (HT1.out w1b H1.out).mono ?_
  rintro e w2 ⟨rfl, h2, g2, z2⟩
  have H2 := Sl.mk h2
  have HG2 := Sl.mk g2
  have HZ2 := Sl.mk z2
  clear h2 g2 z2
  go_wp2_with fail
  refine (HT2.out w2 H2.out).mono ?_
  rintro e w3 ⟨A3, c3', rfl, r3, h3, g3, z3⟩
  have hxb : ∀ b ∈ xs.map UInt8.toNat, b < 256 := by
    intro b hb
    obtain ⟨u, _, rfl⟩ := List.mem_map.1 hb
    exact u.toNat_lt
  rw [show (xs.map UInt8.toNat ++ R).take m = xs.map UInt8.toNat by rw [← hm]; simp] at r3
  rw [show (xs.map UInt8.toNat ++ R).drop m = R by rw [← hm]; simp] at h3
  have hcv := conv_str (c := c3') r3 hxb
  have hse : strN (xs.map UInt8.toNat) = bsS xs := by
    simp [strN, bsS, List.map_map, Function.comp_def]
  rw [hse] at hcv
  clear r3
  have hb3 : Blk w3 t4 45 #[.int .i64 2, .int .i64 0, .string { data := #[] }] := by
    have hne : t4 ≠ rb := by have := HZ0.out; have := HZ1.out; omega
    exact (HB1.out.grown HG2.out (by simpa using hne)).grown g3 (by simpa using hne)
  have c3 := hb3.cell 0
  have c4 := hb3.cell 2
  have f4 := hb3.frozen 2
  have H3 := Sl.mk h3
  have HG3 := Sl.mk g3
  have HZ3 := Sl.mk z3
  have HB3 := Sl.mk hb3
  clear h3 g3 z3 hb3
  go_wp2_with fail
  have hB2 : Blk w3 w.heap.size 45 #[.int .i64 0, .int .i64 0, .string { data := #[] }] := by
    have hne : w.heap.size ≠ rb := by omega
    have e0 := HZ0.out; have e1 := HZ1.out; have e4 := HT4.out
    have hl1 : w.heap.size < w0.heap.size := by omega
    have hl2 : w.heap.size < w1.heap.size := by omega
    exact (((HB0.out.grown HG1.out (by simpa using hne)).below HGb0.out hl2).grown HG2.out (by simpa using hne)).grown HG3.out (by simpa using hne)
  have hG : w.grownBy w3 (some rb) := only_trans (only_trans (only_below (only_trans (only_below (only_refl w (some rb)) HGa.out) HG1.out) HGb0.out) HG2.out) HG3.out
  have hne4 : w.heap.size ≠ t4 := by have := HZ0.out; have := HZ1.out; have := HT4.out; omega
  obtain ⟨t2, ht2⟩ : ∃ t2, w.heap.size = t2 := ⟨_, rfl⟩
  have HT2s := Sl.mk ht2
  rw [ht2] at hB2 hne4
  have hwd2 : Blk ((w3.setCell ⟨t4, 2, none⟩ (.string (bsS xs))).drew) t2 45 #[.int .i64 0, .int .i64 0, .string { data := #[] }] := (blk_only hB2 (only_setCell (only_refl w3 (some t4)) 2 _) hne4).drew
  have hwd4 : Blk ((w3.setCell ⟨t4, 2, none⟩ (.string (bsS xs))).drew) t4 45 #[.int .i64 2, .int .i64 0, .string (bsS xs)] := (HB3.out.set_ 2 (.string (bsS xs))).drew
  have hG4 : w.grownBy (w3.setCell ⟨t4, 2, none⟩ (.string (bsS xs))).drew (some rb) := only_below (grown_only hG (only_setCell (only_refl w3 (some t4)) 2 (.string (bsS xs))) (by have := HZ0.out; have := HZ1.out; have := HT4.out; omega)) (Below.refl _ _).drew
  have hR4 : Rst (w3.setCell ⟨t4, 2, none⟩ (.string (bsS xs))).drew B rb R := (H3.out.only (only_setCell (only_refl w3 (some t4)) 2 (.string (bsS xs))) (by have := h.le; have := HZ0.out; have := HZ1.out; have := HT4.out; omega) (by have := HZ0.out; have := HZ1.out; have := HT4.out; omega)).be (Below.refl _ _).drew
  obtain ⟨wd, hwd⟩ : ∃ wd, (w3.setCell ⟨t4, 2, none⟩ (.string (bsS xs))).drew = wd := ⟨_, rfl⟩
  rw [hwd] at hwd2 hwd4 hG4 hR4
  have HR4 := Sl.mk hR4
  have HG4 := Sl.mk hG4
  have hSw : Spw wd wd.heap.size := (hSp.be ((Below.refl B w).grown hG4 (by have := h.le; omega) (fun x hx => by injection hx with hx; have := h.le; omega))).mono (by have := h.le; have := hG4.size; omega)
  have HW := Sl.mk (word_any 2 wd hSw)
  have HLV : Sl (∀ W, Below wd.heap.size wd W → (loadVar 45 ⟨t4, 0, none⟩).run Tryd.prog W = .ok (.agg #[.int .i64 2, .int .i64 0, .string (bsS xs)]) W) := Sl.mk (fun W hW => run_load_blk (hwd4.be hW))
  have HSF : Sl (∀ W, Below wd.heap.size wd W → W.cell? ⟨t4, 0, none⟩ = some (.int .i64 2)) := Sl.mk (fun W hW => (hwd4.be hW).cell 0)
  rw [ht2]
  clear hR4 hG4 hSw ht2 c3 c4 f4 HB3
  refine wp_region_X (fun W => Below wd.heap.size wd W) [4, 5, 6] (by kernel_rfl) (by rw [hwd]; exact Below.refl _ _) (fun hS => ?_)
  rw [hwd] at hS ⊢
  clear hwd
  refine wpAnyX_S (i := 1) (v := ?_) rfl (by kernel_rfl) (by kernel_rfl) (by kernel_rfl) (by kernel_rfl) (fun _ _ _ h => h) (Or.inl ⟨by rfl, ?_⟩) hS ?_
  rotate_left 1
  · (intro w' hw'; (first | rw [hw'] | (have hw2 := HSF.out w' hw') | skip); go_simp; (try with_reducible rfl))
  simp only [Act.put, List.setIfInBounds_toArray, List.set_cons_zero, List.set_cons_succ]
  refine wpAnyX_S (i := 2) (v := ?_) rfl (by kernel_rfl) (by kernel_rfl) (by kernel_rfl) (by kernel_rfl) (fun _ _ _ h => h) (Or.inl ⟨by rfl, ?_⟩) hS ?_
  rotate_left 1
  · (intro w' hw'; (first | rw [hw'] | (have hw2 := HSF.out w' hw') | skip); go_simp; (try with_reducible rfl))
  simp only [Act.put, List.setIfInBounds_toArray, List.set_cons_zero, List.set_cons_succ]
  refine wpAnyX_twoL (i := 0) (j := 3) rfl rfl (by kernel_rfl) rfl rfl ?_ ?_
  · refine wp_of_run (v := .agg #[.int .i64 2, .int .i64 0, .string (bsS xs)]) (w' := wd) (by
      unfold execOp
      have := HLV.out wd (Below.refl _ _)
      simp [Instr.loadAt, Instr.sureAddr, Act.eval, this]) ⟨fun _ => hS, ?_⟩
    simp only [Act.put, List.setIfInBounds_toArray, List.set_cons_zero, List.set_cons_succ]
    refine wpAnyX_oneL (k := 3) rfl (by kernel_rfl) rfl ?_
    refine wp_of_call (f := 24) (args := #[.int .i64 2]) (by go_simp) HW.out (fun e w7 hq => ?_)
    obtain ⟨rfl, hB7⟩ := hq
    refine ⟨_, rfl, fun _ => hB7, ?_⟩
    simp only [Act.put, List.setIfInBounds_toArray, List.set_cons_zero, List.set_cons_succ]
    refine wpAnyX_P (i := 4) (v := ?_) rfl (by kernel_rfl) (by kernel_rfl) (by kernel_rfl) (by kernel_rfl) (fun _ _ _ h => h) (Or.inl ⟨by rfl, ?_⟩) ?_
    rotate_left 1
    · (intro w' hw'; (first | rw [hw'] | (have hw2 := HSF.out w' hw') | skip); go_simp; (try with_reducible rfl))
    simp only [Act.put, List.setIfInBounds_toArray, List.set_cons_zero, List.set_cons_succ]
    refine wpAnyX_tailF [5, 6] (by kernel_rfl) (by rfl) (by rfl) (by rfl) ?_
    simp only [List.filterMap_cons, List.filterMap_nil, List.getElem?_cons_succ, List.getElem?_cons_zero]
    refine st_in (hwd2.be hB7) rfl (.tmp 2) (.tmp 29) rfl 2 0 (bsS xs) rfl (by rfl) rfl ?_
    intro w8 hb8 hg8 hz8
    have HB8 := Sl.mk hb8
    have HG8 := Sl.mk hg8
    have HZ8 := Sl.mk hz8
    have HB7 := Sl.mk hB7
    have hwt : (bsS (wordF 2)).toList.isEmpty = false := word_full (k := 2) (by omega)
    clear hb8 hg8 hz8 hB7 hwd2 hwd4 hS
    go_wp2_with fail
    refine NoPanic.normal ?_
    go_wp2_with fail
    refine bodyPost_ret (v := .tuple #[.agg #[.int .i64 2, .int .i64 0, .string (bsS xs)], .bool true]) (res_cell_tmp Tryd.results34 _ _ _ rfl HB8.out Tryd.underlying45 iSize rfl) rfl ?_
    refine ⟨rfl, (HR4.out.be HB7.out).only HG8.out (by have := h.le; have := HT2s.out; omega) (by have := HT2s.out; omega), grown_only (only_below HG4.out HB7.out) HG8.out (by have := HT2s.out; omega)⟩
  · refine wp_of_call (f := 24) (args := #[.int .i64 2]) (by go_simp) HW.out (fun e w7 hq => ?_)
    obtain ⟨rfl, hB7⟩ := hq
    refine ⟨_, rfl, fun _ => hB7, ?_⟩
    simp only [Act.put, List.setIfInBounds_toArray, List.set_cons_zero, List.set_cons_succ]
    refine wpAnyX_P (i := 4) (v := ?_) rfl (by kernel_rfl) (by kernel_rfl) (by kernel_rfl) (by kernel_rfl) (fun _ _ _ h => h) (Or.inl ⟨by rfl, ?_⟩) ?_
    rotate_left 1
    · (intro w' hw'; (first | rw [hw'] | (have hw2 := HSF.out w' hw') | skip); go_simp; (try with_reducible rfl))
    simp only [Act.put, List.setIfInBounds_toArray, List.set_cons_zero, List.set_cons_succ]
    refine wpAnyX_oneL (k := 0) rfl (by kernel_rfl) rfl ?_
    refine wp_of_run (v := .agg #[.int .i64 2, .int .i64 0, .string (bsS xs)]) (w' := w7) (by
      unfold execOp
      have := HLV.out w7 hB7
      simp [Instr.loadAt, Instr.sureAddr, Act.eval, this]) ⟨fun _ => hB7, ?_⟩
    simp only [Act.put, List.setIfInBounds_toArray, List.set_cons_zero, List.set_cons_succ]
    refine wpAnyX_tailF [5, 6] (by kernel_rfl) (by rfl) (by rfl) (by rfl) ?_
    simp only [List.filterMap_cons, List.filterMap_nil, List.getElem?_cons_succ, List.getElem?_cons_zero]
    refine st_in (hwd2.be hB7) rfl (.tmp 2) (.tmp 29) rfl 2 0 (bsS xs) rfl (by rfl) rfl ?_
    intro w8 hb8 hg8 hz8
    have HB8 := Sl.mk hb8
    have HG8 := Sl.mk hg8
    have HZ8 := Sl.mk hz8
    have HB7 := Sl.mk hB7
    have hwt : (bsS (wordF 2)).toList.isEmpty = false := word_full (k := 2) (by omega)
    clear hb8 hg8 hz8 hB7 hwd2 hwd4 hS
    go_wp2_with fail
    refine NoPanic.normal ?_
    go_wp2_with fail
    refine bodyPost_ret (v := .tuple #[.agg #[.int .i64 2, .int .i64 0, .string (bsS xs)], .bool true]) (res_cell_tmp Tryd.results34 _ _ _ rfl HB8.out Tryd.underlying45 iSize rfl) rfl ?_
    refine ⟨rfl, (HR4.out.be HB7.out).only HG8.out (by have := h.le; have := HT2s.out; omega) (by have := HT2s.out; omega), grown_only (only_below HG4.out HB7.out) HG8.out (by have := HT2s.out; omega)⟩
end Go.Proofs.YtliealcdiogilaaDoor
