/-
  A manifest without one of its items: plain, and in memory.
  The tables, out of the rows' own condition (manifest).
  ManifestGrows at any input.
-/
import Derived.Test.YtmgblbkmbiiofaaDoorMd20
import Derived.Test.YtmgblbkmbiiofaaDoorMd14
import Derived.Test.YtmgblbkmbiiofaaDoorCards
import Derived.Test.YtmgblbkmbiiofaaDoorTie
import Derived.Test.YtmgblbkmbiiofaaDoorMd5
import Derived.Deep.DeepHandedRow
import Derived.Deep.DeepWitnessRowRef
import Derived.Lib.LaidTab
import Derived.Stop.LaidErr
import Derived.Shelf.Vars
import Derived.Test.YtmgblbkmbiiofaaDoorMd2
import Derived.Test.YtmgblbkmbiiofaaDoorMd15
import Derived.ProofKit
import Derived.OpenShut

namespace Go.Proofs.YtmgblbkmbiiofaaDoor
open Go.RowKit
attribute [local go_sem ↓] Go.wp_at_zero Go.wp_at_succ
set_option linter.unusedVariables false

def sumF (m : Mf) : Nat → Nat
  | 0 => 0
  | i + 1 => sumF m i + (m.at i).length
theorem sumF_four (m : Mf) : sumF m 4 = m.p.length + m.s.length + m.h.length + m.w.length := by simp [sumF, Mf.at]
def Mf.setL (m : Mf) (k : Nat) (l : List It) : Mf := match k with
  | 0 => { m with p := l }
  | 1 => { m with s := l }
  | 2 => { m with h := l }
  | _ => { m with w := l }
theorem setL_at (m : Mf) (k j : Nat) (l : List It) (hk : k < 4) (hj : j < 4) : (m.setL k l).at j = if j = k then l else m.at j := by
  match k, hk, j, hj with
  | 0, _, 0, _ => rfl
  | 0, _, 1, _ => rfl
  | 0, _, 2, _ => rfl
  | 0, _, 3, _ => rfl
  | 1, _, 0, _ => rfl
  | 1, _, 1, _ => rfl
  | 1, _, 2, _ => rfl
  | 1, _, 3, _ => rfl
  | 2, _, 0, _ => rfl
  | 2, _, 1, _ => rfl
  | 2, _, 2, _ => rfl
  | 2, _, 3, _ => rfl
  | 3, _, 0, _ => rfl
  | 3, _, 1, _ => rfl
  | 3, _, 2, _ => rfl
  | 3, _, 3, _ => rfl
theorem setL_same (m : Mf) (k : Nat) (l : List It) : (m.setL k l).pkg = m.pkg ∧ (m.setL k l).pub = m.pub ∧ (m.setL k l).rev = m.rev := by
  match k with
  | 0 => exact ⟨rfl, rfl, rfl⟩
  | 1 => exact ⟨rfl, rfl, rfl⟩
  | 2 => exact ⟨rfl, rfl, rfl⟩
  | _ + 3 => exact ⟨rfl, rfl, rfl⟩
theorem ofA_setL (m : Mf) (k : Nat) (l : List It) (hd : Nat → Hd) : ofA (m.setL k l) hd = ofA m hd := by
  obtain ⟨h1, h2, h3⟩ := setL_same m k l
  unfold ofA
  rw [h1, h2, h3]
theorem delM_at (m : Mf) {i k : Nat} (hi : i < 4) (hk : k < (m.at i).length) : delM m (k + sumF m i) = m.setL i ((m.at i).eraseIdx k) := by
  unfold delM
  match i, hi with
  | 0, _ =>
    have h : k < m.p.length := hk
    rw [show k + sumF m 0 = k from rfl, if_pos h]; rfl
  | 1, _ =>
    have h : k < m.s.length := hk
    have e : k + sumF m 1 = k + m.p.length := by simp [sumF, Mf.at]
    rw [e, if_neg (by omega), Nat.add_sub_cancel, if_pos h]; rfl
  | 2, _ =>
    have h : k < m.h.length := hk
    have e : k + sumF m 2 = k + m.s.length + m.p.length := by simp [sumF, Mf.at]; omega
    rw [e, if_neg (by omega), Nat.add_sub_cancel, if_neg (by omega), Nat.add_sub_cancel, if_pos h]; rfl
  | 3, _ =>
    have h : k < m.w.length := hk
    have e : k + sumF m 3 = k + m.h.length + m.s.length + m.p.length := by simp [sumF, Mf.at]; omega
    rw [e, if_neg (by omega), Nat.add_sub_cancel, if_neg (by omega), Nat.add_sub_cancel, if_neg (by omega), Nat.add_sub_cancel]; rfl
theorem mfr_set {w : World} {m : Mf} {hd : Nat → Hd} (h : ∀ j, j < 4 → Its w (hd j).A (hd j).n (m.at j) ∧ ((hd j).n ≤ 1000000 ∧ (hd j).n ≤ (hd j).c)) (hp : m.pkg.length ≤ 1000000 ∧ m.pub.length ≤ 1000000) : MfR w m (hd 0) (hd 1) (hd 2) (hd 3) := by
  have k0 := h 0 (by decide)
  have k1 := h 1 (by decide)
  have k2 := h 2 (by decide)
  have k3 := h 3 (by decide)
  exact ⟨k0.1, k1.1, k2.1, k3.1, k0.2, k1.2, k2.2, k3.2, hp.1, hp.2⟩
theorem MfR.at_ {w : World} {m : Mf} {hd : Nat → Hd} (H : MfR w m (hd 0) (hd 1) (hd 2) (hd 3)) : ∀ j, j < 4 → Its w (hd j).A (hd j).n (m.at j) ∧ ((hd j).n ≤ 1000000 ∧ (hd j).n ≤ (hd j).c) := fun j hj => by
  match j, hj with
  | 0, _ => exact ⟨H.ip, H.pl⟩
  | 1, _ => exact ⟨H.iq, H.sl⟩
  | 2, _ => exact ⟨H.ir, H.hl⟩
  | 3, _ => exact ⟨H.iw, H.wl⟩
/-! ### Slices of a slice of items -/
theorem run_from (A : Option Addr) (n c k : Nat) (L : Int) (hL : L = (k : Nat)) (hk : k ≤ n) (hn : n ≤ c) (W : World) :
    (Instr.slice 22 (.slice A n c) (some (.int .i64 L)) none none).run Tryd.prog W = .ok (.slice (if c = k then A else A.map (·.add (k * 2))) (n - k) (c - k)) W := by
  obtain ⟨i0, hi0, hz0, hz1, hz2⟩ := info_ri
  have hu := Tryd.underlying22
  have he : Tryd.prog.elem 22 = 65 := by unfold Program.elem; rw [hu]
  subst hL
  rw [run_slice_l W 22 A n c (by rw [he]; exact hu) .i64 (k : Int) (by omega) (by omega), he]
  simp [sizeOf, typeInfo, hi0, hz1, sliced, Result.andThen, Int.toNat_natCast]
theorem reads_from {W : World} {B n c k : Nat} {A : Option Addr} {xs : List Value} (h : Reads W B 2 A n xs) (hk : k ≤ n) (hn : n ≤ c) : Reads W B 2 (if c = k then A else A.map (·.add (k * 2))) (n - k) (xs.drop (k * 2)) := by
  refine ⟨by rw [List.length_drop, h.1]; omega, fun hp => ?_⟩
  obtain ⟨ad, rfl, hb, hc⟩ := h.2 (by omega)
  rw [if_neg (by omega)]
  refine ⟨_, rfl, by rw [block_of_add]; exact hb, fun j u hu => ?_⟩
  rw [add_of_add]
  rw [List.getElem?_drop] at hu
  exact hc _ _ hu
theorem run_to (A : Option Addr) (n c k : Nat) (hk : k ≤ n) (hn : n ≤ c) (W : World) :
    (Instr.slice 22 (.slice A n c) none (some (.int .i64 (k : Int))) none).run Tryd.prog W = .ok (.slice (if c = 0 then A else A.map (·.add (0 * 2))) k c) W := by
  obtain ⟨i0, hi0, hz0, hz1, hz2⟩ := info_ri
  have hu := Tryd.underlying22
  have he : Tryd.prog.elem 22 = 65 := by unfold Program.elem; rw [hu]
  rw [run_slice_h W 22 A n c (by rw [he]; exact hu) .i64 (k : Int) (by omega) (by omega), he]
  simp [sizeOf, typeInfo, hi0, hz1, sliced, Result.andThen, Int.toNat_natCast]
theorem reads_to {W : World} {B n c k : Nat} {A : Option Addr} {xs : List Value} (h : Reads W B 2 A n xs) (hk : k ≤ n) (hn : n ≤ c) : Reads W B 2 (if c = 0 then A else A.map (·.add (0 * 2))) k (xs.take (k * 2)) := by
  refine ⟨by rw [List.length_take, h.1]; omega, fun hp => ?_⟩
  obtain ⟨ad, rfl, hb, hc⟩ := h.2 (by omega)
  rw [if_neg (by omega)]
  refine ⟨_, rfl, by rw [block_of_add]; exact hb, fun j u hu => ?_⟩
  rw [add_of_add, Nat.zero_mul, Nat.zero_add]
  rw [List.getElem?_take] at hu
  split at hu
  · exact hc _ _ hu
  · cases hu
theorem itsC_drop (l : List It) (k : Nat) : (itsC l).drop (k * 2) = itsC (l.drop k) := by
  have h1 : itsC l = itsC (l.take k) ++ itsC (l.drop k) := by rw [← itsC_app, List.take_append_drop]
  rw [h1]
  rcases Nat.lt_or_ge k l.length with h | h
  · rw [List.drop_append_of_le_length (by rw [itsC_len, List.length_take]; omega), List.drop_of_length_le (by rw [itsC_len, List.length_take]; omega)]
    rfl
  · rw [List.drop_of_length_le (i := k) h, List.take_of_length_le h]
    simp only [itsC, List.flatMap_nil, List.append_nil]
    exact List.drop_of_length_le (by have := itsC_len l; simp only [itsC] at this; rw [this]; omega)
theorem cutG_le (s : Bs) (a : Nat) : ∀ i, (cutG s a i).2.2 ≤ i ∧ (cutG s a i).1.length ≤ (cutG s a i).2.2 ∧ (cutG s a i).2.1 ≤ i
  | 0 => ⟨Nat.le_refl _, Nat.le_refl _, Nat.le_refl _⟩
  | i + 1 => by
    obtain ⟨h1, h2, h3⟩ := cutG_le s a i
    rw [cutG]
    split
    · refine ⟨Nat.le_refl _, ?_, by show _ + 1 ≤ _; omega⟩
      show (if _ then _ else _ : Bs).length ≤ i + 1
      split
      · omega
      · rw [List.length_append, List.length_take]
        omega
    · exact ⟨by omega, h2, by omega⟩
theorem reads_setv {w : World} {B n size : Nat} {q : Addr} {A : Option Addr} {xs : List Value} {u v : Value} (h : Reads w B size A n xs) (hq : w.cell? q = some v) (hv : ∀ x ∈ xs, x ≠ v) : Reads (w.setCell q u) B size A n xs :=
  ⟨h.1, fun hn => by
    obtain ⟨ad, e, hb, hc⟩ := h.2 hn
    refine ⟨ad, e, hb, fun j x hx => ?_⟩
    have h1 := hc j x hx
    rw [World.cell?_setCell_other w q (ad.add j) u (fun e2 => ?_)]
    · exact h1
    · first | rw [e2] at h1 | rw [← e2] at h1
      exact hv x (List.mem_of_getElem? hx) (Option.some.inj (h1.symm.trans hq))⟩
theorem itsC_noslice {l : List It} {A : Option Addr} {n c : Nat} : ∀ x ∈ itsC l, x ≠ .slice A n c := fun x hx => by
  obtain ⟨y, _, hy⟩ := List.mem_flatMap.1 hx
  simp only [itC, List.mem_cons, List.not_mem_nil, or_false] at hy
  rcases hy with rfl | rfl <;> (intro e; cases e)
theorem Its.setv {w : World} {A B : Option Addr} {n k c : Nat} {l : List It} {q : Addr} {u : Value} (h : Its w A n l) (hq : w.cell? q = some (.slice B k c)) : Its (w.setCell q u) A n l :=
  ⟨by
    have h1 := reads_setv (u := u) h.row hq itsC_noslice
    have h2 : (w.setCell q u).heap.size = w.heap.size := by simp [World.setCell]
    rw [h2]; exact h1, h.len⟩
theorem MfR.setv {w : World} {m : Mf} {p s h k : Hd} {B : Option Addr} {n c : Nat} {q : Addr} {u : Value} (H : MfR w m p s h k) (hq : w.cell? q = some (.slice B n c)) : MfR (w.setCell q u) m p s h k :=
  ⟨H.ip.setv hq, H.iq.setv hq, H.ir.setv hq, H.iw.setv hq, H.pl, H.sl, H.hl, H.wl, H.pkg, H.pub⟩
theorem ofA_cell {W : World} {b : Nat} {T : TypeId} {m : Mf} {hd : Nat → Hd} (hB : Blk W b T (ofA m hd)) {i : Nat} (hi : i < 4) : W.cell? ⟨b, 3 + i, none⟩ = some (hd i).v := by
  match i, hi with
  | 0, _ => exact hB.cell 3
  | 1, _ => exact hB.cell 4
  | 2, _ => exact hB.cell 5
  | 3, _ => exact hB.cell 6
end Go.Proofs.YtmgblbkmbiiofaaDoor

namespace Go.Proofs.YtmgblbkmbiiofaaDoor
open Go.RowKit Go.ChangeShapes Go.WideShapes Go.ChangeAt

theorem gS : Tryd.prog.globalNamed "strings.asciiSpace" = some 2 := by kernel_rfl
theorem gST : (Tryd.prog.globals[2]?).map (·.type) = some 128 := by kernel_rfl
theorem tab_eq : (Rows.laid_strings_asciiSpace : DataW Unit) = Lib.tabData .u8 Lib.asciiSpaceTab := by kernel_rfl
theorem gPT : (Tryd.prog.globals[1]?).map (·.type) = some 121 := by kernel_rfl
theorem pow_eq : (Rows.laid_internal_strconv_uint64pow10 : DataW Unit) = Lib.tabData .u64 Lib.pow10Tab := by kernel_rfl
/-- The two tables lie. -/
def Tb (W : World) : Prop := Lib.TabIs Tryd.prog W "strings.asciiSpace" .u8 Lib.asciiSpaceTab ∧ Lib.TabIs Tryd.prog W "internal/strconv.uint64pow10" .u64 Lib.pow10Tab
theorem tabs_of {rest : List (String × DataW Unit)} {W : World} (h : laidMet Tryd.prog (("math/bits.deBruijn32tab", Rows.laid_math_bits_deBruijn32tab) :: ("math/bits.deBruijn64tab", Rows.laid_math_bits_deBruijn64tab) :: ("internal/strconv.uint64pow10", Rows.laid_internal_strconv_uint64pow10) :: ("unicode/utf8.acceptRanges", Rows.laid_unicode_utf8_acceptRanges) :: ("unicode.White_Space", Rows.laid_unicode_White_Space) :: ("strings.asciiSpace", Rows.laid_strings_asciiSpace) :: rest) W) : Tb W := by
  have h2 := laidMet.tail (laidMet.tail h)
  have h5 := laidMet.tail (laidMet.tail (laidMet.tail h2))
  rw [pow_eq] at h2
  rw [tab_eq] at h5
  exact ⟨Lib.tabIs_of_head (rest := rest) gS gST Tryd.underlying128 Tryd.underlying5 (by kernel_rfl) (by kernel_rfl) h5,
    Lib.tabIs_of_head pwNamed gPT Tryd.underlying121 Tryd.underlying35 (by kernel_rfl) (by kernel_rfl) h2⟩
theorem em_of {W : World} (h : Tb W) (hsh : W.ShapedOpen Tryd.prog) : Em W W.heap.size := by
  obtain ⟨m, hm⟩ : ∃ m : Int, W.cell? ⟨0, 0, none⟩ = some (.int .i64 m) :=
    cell_of_shapedOpen_int (P := Tryd.prog) (g := 0) (t := 3) (zero := #[.int .i64 0]) hsh (of_decide_eq_true (by kernel_rfl)) (by kernel_rfl) rfl (by kernel_rfl) (by kernel_rfl) Tryd.underlying3
  have h3 := h.1.cell gS 0 (by rw [Lib.asciiSpaceTab_length]; decide)
  have h4 := h.2.cell pwNamed 0 (by decide)
  exact ⟨h.1, cell_lt' h3, h.2, cell_lt' h4, ⟨m, hm⟩, cell_lt' hm⟩

end Go.Proofs.YtmgblbkmbiiofaaDoor

namespace Go.Proofs.YtmgblbkmbiiofaaDoor
open Go.ChangeShapes Go.WideShapes Go.ChangeAt Go.RowKit Go.ChangeMaps
attribute [local go_sem ↓] Go.wp_at_zero Go.wp_at_succ
set_option linter.unusedVariables false
set_option linter.unusedSimpArgs false

theorem MfI.be {w w' : World} {m : Mf} {p s h k : Hd} (H : MfI w m p s h k) (hb : Below w.heap.size w w') : MfI w' m p s h k :=
  ⟨(H.ip.below hb).more hb.size, (H.iq.below hb).more hb.size, (H.ir.below hb).more hb.size, (H.iw.below hb).more hb.size, H.pn, H.tx, H.pk⟩
set_option maxRecDepth 100000 in
set_option maxHeartbeats 64000000 in
theorem grows_walk (m0 : Mf) (p0 s0 h0 k0 : Hd) (a : Int) (w : World) (H : MfI w m0 p0 s0 h0 k0) (hE : Em w w.heap.size) : Calls Tryd.prog 3 #[mfV m0 p0 s0 h0 k0, .int .i64 a] w (RPost w true) := by
  obtain ⟨i0, hi0, hz0, hz1, hz2⟩ := info_ri
  have HE := Sl.mk hE
  have HK := Sl.mk (fun (W : World) (hb : Below w.heap.size w W) => known_any W (hE.all hb))
  unfold RPost at HK
  have HT0 := Sl.mk (fun (W : World) (hb : Below w.heap.size w W) => to_any m0 p0 s0 h0 k0 W (H.be hb))
  have HSM := Sl.mk (toM_small m0)
  have HLS := Sl.mk (show (toM m0).p.length ≤ 21 ∧ (toM m0).s.length ≤ 21 ∧ (toM m0).h.length ≤ 21 ∧ (toM m0).w.length ≤ 21 from ⟨itemsF_len _, itemsF_len _, itemsF_len _, itemsF_len _⟩)
  obtain ⟨m, hm⟩ : ∃ m, toM m0 = m := ⟨_, rfl⟩
  unfold ToPost at HT0
  rw [hm] at HT0 HSM HLS
  have HRT := Sl.mk (fun (h : checkM m = 0) => (check_zero m).1 h)
  have HLN := Sl.mk (fun (h : checkM m = 0) => text_small (HRT.out h) HSM.out)
  obtain ⟨E, hEE⟩ : ∃ E, checkM m = E := ⟨_, rfl⟩
  have HEE := Sl.mk hEE
  obtain ⟨w0, hw0⟩ : ∃ w0, w.alloc (.cells (mfC m0 p0 s0 h0 k0).toArray 25) = w0 := ⟨_, rfl⟩
  have HB0 := Sl.mk (show Below w.heap.size w w0 by rw [← hw0]; exact below_al (Below.refl _ _) _)
  have HK0 := Sl.mk (show Blk w0 w.heap.size 25 (mfC m0 p0 s0 h0 k0).toArray by rw [← hw0]; exact Blk.new _ _ _)
  clear hE H hm hEE
  unfold mfV
  simp only [mfC] at hw0 ⊢
  go_enter Tryd.func3, Tryd.ntmps3
  go_upto_region 1 with fail
  clear hw0
  have hl0 := blk_at HK0.out
  go_wp2_with (refine ld_rm hl0 rfl (.tmp 2) rfl rfl ?_)
  refine (HT0.out _ HB0.out).mono ?_
  rintro e w1 ⟨hb1, p, s, h, k, rfl, hm1⟩
  have HB1 := Sl.mk (HB0.out.trans (hb1.mono HB0.out.size))
  have HM1 := Sl.mk hm1
  clear hb1 hm1 hl0
  go_wp2_with (first | (refine ld_mf hl2 rfl (.tmp 5) rfl rfl ?_) | (refine wpList_store_fresh rfl 28 (.tmp 5) (.tmp 21) rfl 28 [.string ⟨#[]⟩, .string ⟨#[]⟩, .int .i64 0, .slice none 0 0, .slice none 0 0, .slice none 0 0, .slice none 0 0] (mfC m p s h k) _ rfl rfl rfl rfl (by rw [mfSize]; rfl) (mfC_one _ _ _ _ _) ?_; intro w2 hB2 hb2 hs2; have HB2 := Sl.mk (HB1.out.trans (hb2.mono HB1.out.size)); have HK2 := Sl.mk hB2; have HM2 := Sl.mk (HM1.out.be hb2); have hl2 := blk_at hB2; clear hB2 hb2 hs2))
  obtain ⟨g1, hg1⟩ : ∃ g, w1.heap.size = g := ⟨_, rfl⟩
  rw [hg1] at HK2 ⊢
  have HT := Sl.mk (text_any m p s h k w2 (HE.out.at_ HB2.out HB2.out.size) HM2.out)
  unfold TextPost at HT
  rw [HEE.out] at HT
  obtain ⟨TX, hTX⟩ : ∃ TX, (if E = 0 then textM m else []) = TX := ⟨_, rfl⟩
  rw [hTX] at HT
  have HTX := Sl.mk hTX
  clear hg1 hTX hl2
  refine HT.out.mono ?_
  rintro e w3 ⟨rfl, hb3⟩
  have HB3 := Sl.mk (HB2.out.trans (hb3.mono HB2.out.size))
  have HK3 := Sl.mk (HK2.out.be hb3)
  have HM3 := Sl.mk (HM2.out.be hb3)
  have hl3 := blk_at HK3.out
  clear hb3 HT
  go_wp2_with (refine ld_mf hl3 rfl (.tmp 5) rfl rfl ?_)
  refine (of_any m p s h k w3 HM3.out).mono ?_
  rintro e w4 ⟨hb4, hd, rfl, hL⟩
  have HB4 := Sl.mk (HB3.out.trans (hb4.mono HB3.out.size))
  have HN4 := Sl.mk (of_mfr HM3.out hL)
  clear hb4 hL hl3
  have hlen := fun j (hj : j < 4) => (HN4.out.at_ j hj).1.n_
  have hlen0 := hlen 0 (by decide)
  have hlen1 := hlen 1 (by decide)
  have hlen2 := hlen 2 (by decide)
  have hlen3 := hlen 3 (by decide)
  have HLEN := Sl.mk hlen
  obtain ⟨z0, hq0⟩ : ∃ z, hd 0 = z := ⟨_, rfl⟩
  obtain ⟨z1, hq1⟩ : ∃ z, hd 1 = z := ⟨_, rfl⟩
  obtain ⟨z2, hq2⟩ : ∃ z, hd 2 = z := ⟨_, rfl⟩
  obtain ⟨z3, hq3⟩ : ∃ z, hd 3 = z := ⟨_, rfl⟩
  rw [hq0] at hlen0
  rw [hq1] at hlen1
  rw [hq2] at hlen2
  rw [hq3] at hlen3
  obtain ⟨A0, n0, c0⟩ := z0
  obtain ⟨A1, n1, c1⟩ := z1
  obtain ⟨A2, n2, c2⟩ := z2
  obtain ⟨A3, n3, c3⟩ := z3
  have HQ0 := Sl.mk hq0
  have HQ1 := Sl.mk hq1
  have HQ2 := Sl.mk hq2
  have HQ3 := Sl.mk hq3
  have hls := HLS.out
  have e0 : m.p.length = n0 := hlen0
  have e1 : m.s.length = n1 := hlen1
  have e2 : m.h.length = n2 := hlen2
  have e3 : m.w.length = n3 := hlen3
  have hb0 : n0 ≤ 21 := by omega
  have hb1 : n1 ≤ 21 := by omega
  have hb2 : n2 ≤ 21 := by omega
  have hb3 : n3 ≤ 21 := by omega
  obtain ⟨N, hN⟩ : ∃ N, n0 + n1 + n2 + n3 = N := ⟨_, rfl⟩
  have hsum : (n0 : Int) + (n1 : Int) + (n2 : Int) + (n3 : Int) = (N : Nat) := by omega
  have hN84 : N ≤ 84 := by omega
  have HNN := Sl.mk (show sumF m 4 = N by rw [sumF_four]; omega)
  clear hlen hlen0 hlen1 hlen2 hlen3 hq0 hq1 hq2 hq3 hls e0 e1 e2 e3 hN HB2 HK2 HM2 HB3 HM3 HB1 HM1
  by_cases hE0 : E = 0
  · subst hE0
    have HX := Sl.mk (show textM m = TX by rw [← HTX.out, if_pos rfl])
    by_cases hN0 : N = 0
    · have hNz : ((N : Int) == 0) = true := by simp; omega
      clear hN0
      go_wp2_with (refine wpList_store_fresh rfl 25 (.tmp 8) (.tmp 28) rfl 25 [.string ⟨#[]⟩, .string ⟨#[]⟩, .int .i64 0, .slice none 0 0, .slice none 0 0, .slice none 0 0, .slice none 0 0] (mfC m (hd 0) (hd 1) (hd 2) (hd 3)) _ rfl rfl rfl rfl (by rw [rmSize]; rfl) (mfC_one _ _ _ _ _) ?_; intro w5 hB5 hb5 hs5; have HD5 := Sl.mk hb5; have HJ5 := Sl.mk hB5; have HB5 := Sl.mk (HB4.out.trans (hb5.mono HB4.out.size)); have c53 : w5.cell? ⟨w4.heap.size, 3, none⟩ = some (.slice A0 n0 c0) := (hB5.cell 3).trans (by rw [HQ0.out]; rfl); have c54 : w5.cell? ⟨w4.heap.size, 4, none⟩ = some (.slice A1 n1 c1) := (hB5.cell 4).trans (by rw [HQ1.out]; rfl); have c55 : w5.cell? ⟨w4.heap.size, 5, none⟩ = some (.slice A2 n2 c2) := (hB5.cell 5).trans (by rw [HQ2.out]; rfl); have c56 : w5.cell? ⟨w4.heap.size, 6, none⟩ = some (.slice A3 n3 c3) := (hB5.cell 6).trans (by rw [HQ3.out]; rfl); clear hB5 hb5 hs5)
      refine (HK.out _ HB5.out).mono ?_
      rintro e w6 ⟨rfl, hb6⟩
      have HB6 := Sl.mk (HB5.out.trans (hb6.mono HB5.out.size))
      clear hb6
      go_wp2_with fail
      go_ret
      exact ⟨rfl, HB6.out⟩
    have hNz : ((N : Int) == 0) = false := by simp; omega
    have hlx : TX.length ≤ 4096 := by rw [← HX.out]; exact HLN.out HEE.out
    have hzx := bs_size TX
    have hU0 : 0 ≤ IntKind.u64.wrap a ∧ IntKind.u64.wrap a < 18446744073709551616 := by
      unfold IntKind.wrap
      simp only [IntKind.signed, IntKind.bits]
      constructor
      · exact Int.emod_nonneg _ (by decide)
      · exact Int.emod_lt_of_pos _ (by decide)
    obtain ⟨U, hU⟩ : ∃ U : Nat, IntKind.u64.wrap a = (U : Nat) := ⟨(IntKind.u64.wrap a).toNat, by omega⟩
    obtain ⟨r, hr⟩ : ∃ r : Nat, U % N = r := ⟨_, rfl⟩
    have hrN : r < N := by rw [← hr]; exact Nat.mod_lt _ (by omega)
    have hm1 : (U : Int) % (N : Int) = (r : Nat) := by rw [← hr]; exact (Int.natCast_emod U N).symm
    have hm2 : (U : Int).tmod (N : Int) = (r : Nat) := by rw [← hr]; rfl
    have hNw : IntKind.u64.wrap (N : Int) = (N : Nat) := IntWalk.u64_in _ (by omega)
    have hrw : IntKind.u64.wrap (r : Int) = (r : Nat) := IntWalk.u64_in _ (by omega)
    have hri : IntKind.i64.wrap (r : Int) = (r : Nat) := Go.IntWalk.i64_in _ (by omega)
    obtain ⟨at_, hat⟩ : ∃ q : Nat, 3 + r = q := ⟨_, rfl⟩
    have ha3 : (3 : Int) + (r : Int) = (at_ : Nat) := by omega
    have hsub : (at_ : Int) - 3 = (r : Nat) := by omega
    have hat90 : at_ ≤ 90 := by omega
    have HLAW := Sl.mk (show parseM (cutG TX at_ TX.length).1 = (delM m r, 0, 0) by
      have h1 := grows_law HEE.out HSM.out r
      rw [HX.out, hat] at h1
      exact h1)
    have HRN := Sl.mk (And.intro hr (And.intro hrN hat))
    have HCL := Sl.mk (cutG_le TX at_)
    clear hU0 hr hat hrN
    go_wp2_with (refine wpList_store_fresh rfl 25 (.tmp 8) (.tmp 28) rfl 25 [.string ⟨#[]⟩, .string ⟨#[]⟩, .int .i64 0, .slice none 0 0, .slice none 0 0, .slice none 0 0, .slice none 0 0] (mfC m (hd 0) (hd 1) (hd 2) (hd 3)) _ rfl rfl rfl rfl (by rw [rmSize]; rfl) (mfC_one _ _ _ _ _) ?_; intro w5 hB5 hb5 hs5; have HD5 := Sl.mk hb5; have HJ5 := Sl.mk hB5; have HB5 := Sl.mk (HB4.out.trans (hb5.mono HB4.out.size)); have c53 : w5.cell? ⟨w4.heap.size, 3, none⟩ = some (.slice A0 n0 c0) := (hB5.cell 3).trans (by rw [HQ0.out]; rfl); have c54 : w5.cell? ⟨w4.heap.size, 4, none⟩ = some (.slice A1 n1 c1) := (hB5.cell 4).trans (by rw [HQ1.out]; rfl); have c55 : w5.cell? ⟨w4.heap.size, 5, none⟩ = some (.slice A2 n2 c2) := (hB5.cell 5).trans (by rw [HQ2.out]; rfl); have c56 : w5.cell? ⟨w4.heap.size, 6, none⟩ = some (.slice A3 n3 c3) := (hB5.cell 6).trans (by rw [HQ3.out]; rfl); clear hB5 hb5 hs5)
    clear hU hm1 hm2 hNw hrw hri ha3 c53 c54 c55 c56 hN0
    go_loopg [13, 10, 11, 12] TX.length (fun q v13 v10 v11 v12 wx => ∃ (i : Nat) (out : Bs) (ln fr : Nat), q = TX.length - i ∧ i ≤ TX.length ∧ v13 = .int .i64 i ∧ v10 = .string (bsS out) ∧ v11 = .int .i64 ln ∧ v12 = .int .i64 fr ∧ wx = w5 ∧ Sl (cutG TX at_ i = (out, ln, fr)))
    case atStart => exact ⟨0, [], 0, 0, rfl, Nat.zero_le _, rfl, rfl, rfl, rfl, rfl, ⟨rfl⟩⟩
    case round =>
      obtain ⟨i, out, ln, fr, hq, hi, rfl, rfl, rfl, rfl, hwx, HG⟩ := hrel
      subst hwx
      have hcl := HCL.out i
      rw [HG.out] at hcl
      obtain ⟨hf1, hf2, hf3⟩ := hcl
      simp only at hf1 hf2 hf3
      by_cases hlt : i < TX.length
      · have hlt2 : i < (bsS TX).size := by rw [hzx]; exact hlt
        have HA := Sl.mk (bs_at hlt2)
        obtain ⟨b, hb⟩ : ∃ b : Nat, ((bsS TX)[i]).toNat = b := ⟨_, rfl⟩
        have HBX := Sl.mk (show (TX.getD i 0).toNat = b by rw [← HA.out, hb])
        have hlz : (i : Int) < (TX.length : Int) := by omega
        by_cases h10 : b = 10
        · have he : ((b : Int) != 10) = false := by rw [h10]; rfl
          have HS1 := Sl.mk (show TX.getD i 0 = 10 from UInt8.toNat_inj.1 (by rw [HBX.out, h10]; rfl))
          have HG2 := Sl.mk (show cutG TX at_ (i + 1) = ((if ln = at_ then out else out ++ (TX.drop fr).take (i + 1 - fr)), ln + 1, i + 1) by
            rw [cutG, if_pos HS1.out, HG.out])
          have hi1 : ((i : Int) + 1).toNat = i + 1 := by omega
          clear h10
          by_cases hla : ln = at_
          · have hne : ((ln : Int) != (at_ : Int)) = false := by rw [hla]; simp
            rw [if_pos hla] at HG2
            clear hla
            go_wp2_with fail
            go_roundg (TX.length - (i + 1))
            case measure => omega
            case rel => exact ⟨i + 1, out, ln + 1, i + 1, rfl, by omega, by go_num, rfl, by go_num, by go_num, rfl, HG2⟩
          · have hne : ((ln : Int) != (at_ : Int)) = true := by simp; omega
            rw [if_neg hla] at HG2
            obtain ⟨P, hP⟩ : ∃ P, (TX.drop fr).take (i + 1 - fr) = P := ⟨_, rfl⟩
            have hsl : ∀ W, (Instr.slice 9 (.string (bsS TX)) (some (.int .i64 (fr : Int))) (some (.int .i64 ((i : Int) + 1))) none).run Tryd.prog W = .ok (.string (bsS P)) W := fun W => by
              rw [run_slice_string_if W 9 (bsS TX) .i64 .i64 (fr : Int) ((i : Int) + 1) Tryd.underlying9, if_pos ⟨by omega, by rw [hzx]; omega⟩, if_pos ⟨by omega, by omega⟩, hi1, Int.toNat_natCast, bs_cut, hP]
            have hap : bsS out ++ bsS P = bsS (out ++ P) := bs_app out P
            have hPl : P.length ≤ 4097 := by rw [← hP, List.length_take]; omega
            have hz1 := bs_size out
            have hz2 := bs_size P
            rw [hP] at HG2
            obtain ⟨OP, hOP⟩ : ∃ O, out ++ P = O := ⟨_, rfl⟩
            rw [hOP] at hap HG2
            clear hla hP hOP
            go_wp2_with fail
            go_roundg (TX.length - (i + 1))
            case measure => omega
            case rel => exact ⟨i + 1, OP, ln + 1, i + 1, rfl, by omega, by go_num, rfl, by go_num, by go_num, rfl, HG2⟩
        · have he : ((b : Int) != 10) = true := by simp; omega
          have HG2 := Sl.mk (show cutG TX at_ (i + 1) = (out, ln, fr) by
            rw [cutG, if_neg (fun e => h10 (by rw [← HBX.out, e]; rfl)), HG.out])
          clear h10
          go_wp2_with fail
          go_roundg (TX.length - (i + 1))
          case measure => omega
          case rel => exact ⟨i + 1, out, ln, fr, rfl, by omega, by go_num, rfl, rfl, rfl, rfl, HG2⟩
      · obtain rfl : i = TX.length := by omega
        have hlz : ¬ ((TX.length : Nat) : Int) < (TX.length : Int) := by omega
        have hP := parse_m out wr (by omega) (HE.out.at_ HB5.out HB5.out.size)
        rw [show parseM out = (delM m r, 0, 0) by have h1 := HLAW.out; rw [HG.out] at h1; exact h1] at hP
        have HP := Sl.mk hP
        clear hP hf1 hf2 hf3 hq
        go_wp2_with fail
        refine HP.out.mono ?_
        rintro e w6 ⟨hb6, p8, s8, h8, k8, rfl, hm8⟩
        have HB6 := Sl.mk (HB5.out.trans (hb6.mono HB5.out.size))
        have HD6 := Sl.mk (HD5.out.trans (hb6.mono HD5.out.size))
        have HJ6 := Sl.mk (HJ5.out.be hb6)
        have HZ6 := Sl.mk hm8
        clear hb6 hm8
        go_wp2_with (refine wpList_store_fresh rfl 28 (.tmp 14) (.tmp 89) rfl 28 [.string ⟨#[]⟩, .string ⟨#[]⟩, .int .i64 0, .slice none 0 0, .slice none 0 0, .slice none 0 0, .slice none 0 0] (mfC (delM m r) p8 s8 h8 k8) _ rfl rfl rfl rfl (by rw [mfSize]; rfl) (mfC_one _ _ _ _ _) ?_; intro w7 hB7 hb7 hs7; have HB7 := Sl.mk (HB6.out.trans (hb7.mono HB6.out.size)); have HD7 := Sl.mk (HD6.out.trans (hb7.mono HD6.out.size)); have HJ7 := Sl.mk (HJ6.out.be hb7); have HG7 := Sl.mk hB7; have HZ7 := Sl.mk (HZ6.out.be hb7); clear hB7 hb7 hs7)
        obtain ⟨g2, hg2⟩ : ∃ g, w4.heap.size = g := ⟨_, rfl⟩
        obtain ⟨g3, hg3⟩ : ∃ g, w6.heap.size = g := ⟨_, rfl⟩
        have HSZ := Sl.mk hg2
        rw [hg2] at HJ7 ⊢
        rw [hg3] at HG7 ⊢
        have HJO := Sl.mk (show Blk w7 g2 25 (ofA m hd) from HJ7.out)
        have HGN := Sl.mk (show g2 ≠ g3 from Blk.ne_ HJ7.out HG7.out (by decide))
        have hr84 : r ≤ 84 := by have := HRN.out.2.1; omega
        clear hg2 hg3 HJ7 HB6 HD6 HJ6 HZ6
        go_loopg [18, 17] 4 (fun q v18 v17 wx => ∃ (i k2 : Nat), q = 4 - i ∧ i ≤ 4 ∧ v18 = .int .i64 i ∧ v17 = .int .i64 k2 ∧ wx = w7 ∧ k2 ≤ 84 ∧ Sl (k2 + sumF m i = r))
        case atStart => exact ⟨0, r, rfl, by omega, rfl, rfl, rfl, hr84, ⟨rfl⟩⟩
        case round =>
          obtain ⟨i, k2, hq, hi, rfl, rfl, hwx, hk84, HKS⟩ := hrel
          subst hwx
          by_cases hi4 : i < 4
          · have c0 := ofA_cell HJO.out hi4
            have HIT := Sl.mk (HN4.out.at_ i hi4)
            obtain ⟨l, hl⟩ : ∃ l, m.at i = l := ⟨_, rfl⟩
            obtain ⟨z, hz⟩ : ∃ z, hd i = z := ⟨_, rfl⟩
            rw [hz] at c0 HIT
            rw [hl] at HIT
            have HLL := Sl.mk hl
            clear hz hl
            obtain ⟨A, n, c⟩ := z
            simp only [Hd.v] at c0 HIT
            have hnc : n ≤ c := HIT.out.2.2
            have hnb : n ≤ 1000000 := HIT.out.2.1
            have HN := Sl.mk (show l.length = n from HIT.out.1.n_)
            have hilt : (i : Int) < 4 := by omega
            by_cases hlt : k2 < n
            · have hlz : (k2 : Int) < (n : Int) := by omega
              have HRw := Sl.mk (show Reads wr wr.heap.size 2 A n (itsC l) from (HIT.out.1.row.below HD7.out).more HD7.out.size)
              have hto := fun W => run_to A n c k2 (by omega) hnc W
              have hfr := fun W => run_from A n c (k2 + 1) ((k2 : Int) + 1) (by omega) (by omega) hnc W
              have HR1 := reads_to (k := k2) HRw.out (by omega) hnc
              have HR2 := reads_from (k := k2 + 1) HRw.out (by omega) hnc
              rw [itsC_take] at HR1
              rw [itsC_drop] at HR2
              obtain ⟨A8, hA8⟩ : ∃ x, (if c = 0 then A else A.map (·.add (0 * 2))) = x := ⟨_, rfl⟩
              obtain ⟨A9, hA9⟩ : ∃ x, (if c = k2 + 1 then A else A.map (·.add ((k2 + 1) * 2))) = x := ⟨_, rfl⟩
              obtain ⟨nn, hnn⟩ : ∃ x, n - (k2 + 1) = x := ⟨_, rfl⟩
              obtain ⟨cc, hcc⟩ : ∃ x, c - (k2 + 1) = x := ⟨_, rfl⟩
              rw [hA8] at hto HR1
              rw [hA9, hnn, hcc] at hfr
              rw [hA9, hnn] at HR2
              have HR1 := Sl.mk HR1
              have HR2 := Sl.mk HR2
              have hnn2 : nn ≤ 1000000 := by omega
              have HNN2 := Sl.mk (show k2 + nn + 1 = n by omega)
              have hgl : g2 < wr.heap.size := HJO.out.lt
              have HDL := Sl.mk (show delM m r = m.setL i (l.eraseIdx k2) by
                have h1 := delM_at m hi4 (k := k2) (by rw [HLL.out, HN.out]; exact hlt)
                rw [HLL.out, HKS.out] at h1
                exact h1)
              have HCE := Sl.mk (fun (W : World) (hW : Below wr.heap.size wr W) => show W.cell? ⟨g2, 3 + i, none⟩ = some (.slice A n c) from (hW.cell (p := ⟨g2, 3 + i, none⟩) hgl).trans c0)
              have HFE := Sl.mk (fun (W : World) (hW : Below wr.heap.size wr W) => show W.frozen? ⟨g2, 3 + i, none⟩ = false from (HJO.out.be hW).frozen (3 + i))
              have b7 := Sl.mk (Below.refl wr.heap.size wr)
              clear hA8 hA9 hnn hcc
              go_upto_region 25 with (at_builtin; go_loud (refine wpList_append_any _ rfl (.tmp 109) (.tmp 115) 22 rfl wr.heap.size 65 i0 (.agg #[.string ⟨#[]⟩, .string ⟨#[]⟩]) 2 32 Tryd.underlying22 hi0 hz0 hz1 hz2 rfl (by decide) _ _ _ rfl (own_empty wr _ 2) wr.heap.size _ k2 c (itsC (l.take k2)) rfl (HR1.out.below (below_al (Below.refl _ _) _)) (itsC_one _) (by unfold maxLen; omega) (by omega) (by simp) ?_; intro v9 w9 ho9 hg9 _; obtain ⟨A5, c5, hv9⟩ := ownForm ho9; subst hv9; have ho9 : w9.ownsRow wr.heap.size 65 2 (.slice A5 k2 c5) k2 (itsC (l.take k2)) := (by rw [Nat.zero_add] at ho9; exact ho9); have HO9 := Sl.mk ho9; have hg9b : Below wr.heap.size (wr.alloc (.cells #[] 65)) w9 := ((Below.refl _ _).grown hg9 (by simp) (fun g hg => ownGe (own_empty wr 65 2) hg)); have HB9 := Sl.mk (below_al (Below.refl wr.heap.size wr) (.cells #[] 65) |>.trans hg9b); clear ho9 hg9 hg9b))
              have c9 := HCE.out w9 HB9.out
              have f9 := HFE.out w9 HB9.out
              have hsz9 := HB9.out.size
              go_wp2_with (at_builtin; refine wpList_append_any _ rfl (.tmp 118) (.tmp 125) 22 rfl wr.heap.size 65 i0 (.agg #[.string ⟨#[]⟩, .string ⟨#[]⟩]) 2 32 Tryd.underlying22 hi0 hz0 hz1 hz2 rfl (by decide) _ _ _ rfl HO9.out wr.heap.size _ nn cc (itsC (l.drop (k2 + 1))) rfl (HR2.out.below HB9.out) (itsC_one _) (by unfold maxLen; omega) (by omega) hsz9 ?_; intro v10 w10 ho10 hg10 _; obtain ⟨A6, c6, hv10⟩ := ownForm ho10; subst hv10; have HO10 := Sl.mk ho10; have HB10 := Sl.mk (HB9.out.trans ((Below.refl _ _).grown hg10 hsz9 (fun g hg => ownGe HO9.out hg))); have c10 := HCE.out w10 HB10.out; have f10 := HFE.out w10 HB10.out; clear ho10 hg10)
              have HER := Sl.mk (show itsC (l.take k2) ++ itsC (l.drop (k2 + 1)) = itsC (l.eraseIdx k2) by rw [← itsC_app, List.eraseIdx_eq_take_drop_succ])
              obtain ⟨nk, hnk⟩ : ∃ q, k2 + nn = q := ⟨_, rfl⟩
              rw [hnk] at HO10 ⊢
              have HNK := Sl.mk hnk
              have HOW := Sl.mk (show OwnR w10 wr.heap.size ⟨A6, nk, c6⟩ (l.eraseIdx k2) by
                have h1 := HO10.out
                rw [HER.out] at h1
                exact h1)
              obtain ⟨wx, hwx⟩ : ∃ wx, w10.setCell ⟨g2, 3 + i, none⟩ (.slice A6 nk c6) = wx := ⟨_, rfl⟩
              rw [hwx]
              have hD10 := HD7.out.trans (HB10.out.mono HD7.out.size)
              have hs10 := only_setCell (only_refl w10 (some g2)) (3 + i) (.slice A6 nk c6)
              rw [hwx] at hs10
              have HDX := Sl.mk (hD10.grown hs10 hD10.size (fun g hg => by injection hg with hg; have := HSZ.out; omega))
              have HBX := Sl.mk (HB4.out.trans (HDX.out.mono HB4.out.size))
              have HJX := Sl.mk (show Blk wx g2 25 (ofA (delM m r) (updH hd i ⟨A6, nk, c6⟩)) by
                rw [← hwx]
                exact blk_set _ _ _ _ (3 + i) _ _ (HJO.out.be HB10.out) (by rw [HDL.out, ofA_setL]; exact ofA_upd m hd i ⟨A6, nk, c6⟩ hi4))
              have HGX := Sl.mk (show Blk wx g3 28 (mfC (delM m r) p8 s8 h8 k8).toArray by
                rw [← hwx]
                exact (HG7.out.be HB10.out).far (p := ⟨g2, 3 + i, none⟩) (fun e => HGN.out e.symm) _)
              have HZX := Sl.mk (show MfR wx (delM m r) p8 s8 h8 k8 by
                rw [← hwx]
                exact (HZ7.out.be HB10.out).setv c10)
              have HNX := Sl.mk (show MfR wx (delM m r) (updH hd i ⟨A6, nk, c6⟩ 0) (updH hd i ⟨A6, nk, c6⟩ 1) (updH hd i ⟨A6, nk, c6⟩ 2) (updH hd i ⟨A6, nk, c6⟩ 3) by
                rw [HDL.out]
                refine mfr_set (fun j hj => ?_) ?_
                · rw [setL_at m i j _ hi4 hj]
                  unfold updH
                  by_cases hji : j = i
                  · rw [if_pos hji, if_pos hji]
                    have ho := HOW.out.kept hs10 (.inr (own_blk_ne HOW.out (HJO.out.be HB10.out) (by decide)))
                    refine ⟨⟨Reads.of_own ho, fun x hx => ?_⟩, ?_, (rowCap ho).1⟩
                    · exact HIT.out.1.len x (List.mem_of_mem_eraseIdx hx)
                    · have h1 := HNK.out; have h2 := HNN2.out; show nk ≤ 1000000; omega
                  · rw [if_neg hji, if_neg hji]
                    have h1 := HN4.out.at_ j hj
                    exact ⟨h1.1.be HDX.out, h1.2⟩
                · obtain ⟨h1, h2, _⟩ := setL_same m i (l.eraseIdx k2)
                  rw [h1, h2]
                  exact ⟨HN4.out.pkg, HN4.out.pub⟩)
              obtain ⟨hd2, hhd2⟩ : ∃ f, updH hd i ⟨A6, nk, c6⟩ = f := ⟨_, rfl⟩
              rw [hhd2] at HJX HNX
              obtain ⟨dm, hdm⟩ : ∃ x, delM m r = x := ⟨_, rfl⟩
              rw [hdm] at HJX HNX HGX HZX
              have HJX : Sl (Blk wx g2 25 (mfC dm (hd2 0) (hd2 1) (hd2 2) (hd2 3)).toArray) := HJX
              clear hwx hs10 hD10 hhd2 hdm c10 f10 c9 f9 c0 hto hfr hgl HCE HFE HR1 HR2 HO9 HO10 HB9 HB10 HOW HDL HER HNK HNN2 HRw HD7 HB7 HJO HG7 HZ7 hnk
              go_wp2_with fail
              obtain ⟨wd, hwd⟩ : ∃ wd, wx.drew = wd := ⟨_, rfl⟩
              have hdw : Below wx.heap.size wx wd := by rw [← hwd]; exact (Below.refl _ _).drew
              have HBd := Sl.mk (HBX.out.trans (hdw.mono HBX.out.size))
              have HJd := Sl.mk (HJX.out.be hdw)
              have HGd := Sl.mk (HGX.out.be hdw)
              have HNd := Sl.mk (HNX.out.be hdw)
              have HZd := Sl.mk (HZX.out.be hdw)
              clear hdw
              refine wp_region_X (fun W => Below wd.heap.size wd W) [10, 11] (by kernel_rfl) (by rw [hwd]; exact Below.refl _ _) (fun hS => ?_)
              rw [hwd] at hS ⊢
              clear hwd
              refine wpAnyX_oneL (k := 0) rfl (by kernel_rfl) rfl ?_
              refine wp_of_callZ (f := 7) (args := #[]) (by go_simp) (HK.out wd HBd.out) (fun e v1 hq => ?_)
              obtain ⟨rfl, x1⟩ := hq
              have hS1 : Below wd.heap.size wd v1 := x1
              refine ⟨_, rfl, fun _ => hS1, ?_⟩
              clear hS x1
              have hS := hS1
              simp only [Act.put, List.setIfInBounds_toArray, List.set_cons_zero, List.set_cons_succ]
              refine wpAnyX_S (i := 1) (v := ?_) rfl (by kernel_rfl) (by kernel_rfl) (by kernel_rfl) (by kernel_rfl) (fun _ _ _ h => h) (Or.inl ⟨by rfl, ?_⟩) hS ?_
              rotate_left 1
              · (intro w' hw'; (first | rw [hw'] | (have hw2 := HSF.out w' hw'; (try obtain ⟨hw2, hw3⟩ := hw2)) | skip); go_simp; (try with_reducible rfl))
              simp only [Act.put, List.setIfInBounds_toArray, List.set_cons_zero, List.set_cons_succ]
              refine wpAnyX_S (i := 2) (v := ?_) rfl (by kernel_rfl) (by kernel_rfl) (by kernel_rfl) (by kernel_rfl) (fun _ _ _ h => h) (Or.inl ⟨by rfl, ?_⟩) hS ?_
              rotate_left 1
              · (intro w' hw'; (first | rw [hw'] | (have hw2 := HSF.out w' hw'; (try obtain ⟨hw2, hw3⟩ := hw2)) | skip); go_simp; (try with_reducible rfl))
              simp only [Act.put, List.setIfInBounds_toArray, List.set_cons_zero, List.set_cons_succ]
              refine wpAnyX_S (i := 3) (v := ?_) rfl (by kernel_rfl) (by kernel_rfl) (by kernel_rfl) (by kernel_rfl) (fun _ _ _ h => h) (Or.inl ⟨by rfl, ?_⟩) hS ?_
              rotate_left 1
              · (intro w' hw'; (first | rw [hw'] | (have hw2 := HSF.out w' hw'; (try obtain ⟨hw2, hw3⟩ := hw2)) | skip); go_simp; (try with_reducible rfl))
              simp only [Act.put, List.setIfInBounds_toArray, List.set_cons_zero, List.set_cons_succ]
              refine wpAnyX_S (i := 4) (v := ?_) rfl (by kernel_rfl) (by kernel_rfl) (by kernel_rfl) (by kernel_rfl) (fun _ _ _ h => h) (Or.inl ⟨by rfl, ?_⟩) hS ?_
              rotate_left 1
              · (intro w' hw'; (first | rw [hw'] | (have hw2 := HSF.out w' hw'; (try obtain ⟨hw2, hw3⟩ := hw2)) | skip); go_simp; (try with_reducible rfl))
              simp only [Act.put, List.setIfInBounds_toArray, List.set_cons_zero, List.set_cons_succ]
              refine wpAnyX_S (i := 5) (v := ?_) rfl (by kernel_rfl) (by kernel_rfl) (by kernel_rfl) (by kernel_rfl) (fun _ _ _ h => h) (Or.inl ⟨by rfl, ?_⟩) hS ?_
              rotate_left 1
              · (intro w' hw'; (first | rw [hw'] | (have hw2 := HSF.out w' hw'; (try obtain ⟨hw2, hw3⟩ := hw2)) | skip); go_simp; (try with_reducible rfl))
              simp only [Act.put, List.setIfInBounds_toArray, List.set_cons_zero, List.set_cons_succ]
              refine wpAnyX_S (i := 6) (v := mfV dm p8 s8 h8 k8) rfl (by kernel_rfl) (by kernel_rfl) (by kernel_rfl) (by kernel_rfl) (fun _ _ _ h => h) (yieldsIf_loadM (by rfl) 28 (.tmp 14) rfl ⟨g3, 0, none⟩ _ rfl (fun W hW => run_loadP (HGd.out.be hW))) hS ?_
              simp only [Act.put, List.setIfInBounds_toArray, List.set_cons_zero, List.set_cons_succ]
              refine wpAnyX_S (i := 8) (v := mfV dm (hd2 0) (hd2 1) (hd2 2) (hd2 3)) rfl (by kernel_rfl) (by kernel_rfl) (by kernel_rfl) (by kernel_rfl) (fun _ _ _ h => h) (yieldsIf_loadM (by rfl) 25 (.tmp 8) rfl ⟨g2, 0, none⟩ _ rfl (fun W hW => run_loadR (HJd.out.be hW))) hS ?_
              simp only [Act.put, List.setIfInBounds_toArray, List.set_cons_zero, List.set_cons_succ]
              refine wpAnyX_oneGM (k := 7) rfl (by kernel_rfl) (by rfl) ?_
              refine wp_of_callZ (f := 6) (args := #[mfV dm p8 s8 h8 k8]) (by go_simp) (of_any dm p8 s8 h8 k8 v1 (HZd.out.be hS)) (fun e v4 hq => ?_)
              obtain ⟨x4, he, rfl, hL4⟩ := hq
              have hS4 : Below wd.heap.size wd v4 := below_tr hS x4
              refine ⟨_, rfl, fun _ => hS4, ?_⟩
              have hm4 := of_mfr (HZd.out.be hS) hL4
              clear hS hS1 x4
              have hS := hS4
              simp only [Act.put, List.setIfInBounds_toArray, List.set_cons_zero, List.set_cons_succ]
              refine wpAnyX_oneGM (k := 9) rfl (by kernel_rfl) (by rfl) ?_
              refine wp_of_callZ (f := 9) (args := #[mfV dm (he 0) (he 1) (he 2) (he 3), mfV dm (hd2 0) (hd2 1) (hd2 2) (hd2 3)]) (by go_simp) (rsame_any dm dm _ _ _ _ _ _ _ _ v4 hm4 (HNd.out.be hS)) (fun e v5 hq => ?_)
              obtain ⟨rfl, x5⟩ := hq
              rw [decide_eq_true rfl]
              have hS5 : Below wd.heap.size wd v5 := below_tr hS x5
              refine ⟨_, rfl, fun _ => hS5, ?_⟩
              have HBE := Sl.mk (HBd.out.trans (hS5.mono HBd.out.size))
              clear hS hS4 x5 hS5 hm4 hL4
              simp only [Act.put, List.setIfInBounds_toArray, List.set_cons_zero, List.set_cons_succ]
              refine wpAnyX_tailF [10, 11] (by kernel_rfl) (by rfl) (by rfl) (by rfl) ?_
              simp only [List.filterMap_cons, List.filterMap_nil, List.getElem?_cons_succ, List.getElem?_cons_zero]
              go_wp2_with fail
              refine NoPanic.normal ?_
              go_wp2_with fail
              go_ret
              exact ⟨rfl, HBE.out⟩
            · have hlz : ¬ (k2 : Int) < (n : Int) := by omega
              obtain ⟨k3, hk3⟩ : ∃ q : Nat, k2 - n = q := ⟨_, rfl⟩
              have hs3 : (k2 : Int) - (n : Int) = (k3 : Nat) := by omega
              have HKS2 := Sl.mk (show k3 + sumF m (i + 1) = r by
                have h1 := HKS.out
                have e : sumF m (i + 1) = sumF m i + n := by rw [sumF, HLL.out, HN.out]
                rw [e]; omega)
              have hk3b : k3 ≤ 84 := by omega
              clear hk3
              go_wp2_with fail
              go_roundg (4 - (i + 1))
              case measure => omega
              case rel => exact ⟨i + 1, k3, rfl, by omega, by go_num, rfl, rfl, hk3b, HKS2⟩
          · exfalso
            obtain rfl : i = 4 := by omega
            have h1 := HKS.out
            have h2 := HNN.out
            have h3 := HRN.out.2.1
            omega
  · have h0' : (E != 0) = true := by simpa using hE0
    clear hE0
    go_wp2_with (refine wpList_store_fresh rfl 25 (.tmp 8) (.tmp 28) rfl 25 [.string ⟨#[]⟩, .string ⟨#[]⟩, .int .i64 0, .slice none 0 0, .slice none 0 0, .slice none 0 0, .slice none 0 0] (mfC m (hd 0) (hd 1) (hd 2) (hd 3)) _ rfl rfl rfl rfl (by rw [rmSize]; rfl) (mfC_one _ _ _ _ _) ?_; intro w5 hB5 hb5 hs5; have HD5 := Sl.mk hb5; have HJ5 := Sl.mk hB5; have HB5 := Sl.mk (HB4.out.trans (hb5.mono HB4.out.size)); have c53 : w5.cell? ⟨w4.heap.size, 3, none⟩ = some (.slice A0 n0 c0) := (hB5.cell 3).trans (by rw [HQ0.out]; rfl); have c54 : w5.cell? ⟨w4.heap.size, 4, none⟩ = some (.slice A1 n1 c1) := (hB5.cell 4).trans (by rw [HQ1.out]; rfl); have c55 : w5.cell? ⟨w4.heap.size, 5, none⟩ = some (.slice A2 n2 c2) := (hB5.cell 5).trans (by rw [HQ2.out]; rfl); have c56 : w5.cell? ⟨w4.heap.size, 6, none⟩ = some (.slice A3 n3 c3) := (hB5.cell 6).trans (by rw [HQ3.out]; rfl); clear hB5 hb5 hs5)
    refine (HK.out _ HB5.out).mono ?_
    rintro e w6 ⟨rfl, hb6⟩
    have HB6 := Sl.mk (HB5.out.trans (hb6.mono HB5.out.size))
    clear hb6
    go_wp2_with fail
    go_ret
    exact ⟨rfl, HB6.out⟩
set_option maxRecDepth 100000 in
theorem manifestgrows_any {H : Type} {enc : TypeId × Value → H} (W : World) (base : Nat) {v0 v1 : Value} {d0 d1 : DataW H} {p0 p1 : List MemPlace}
    (h0 : DataW.Trod enc Tryd.prog W 0 (fun _ => true) true 25 v0 d0 p0) (h1 : DataW.Trod enc Tryd.prog W 0 (fun _ => true) true 3 v1 d1 p1)
    (o0 : Value.okWide Tryd.prog W .any base 25 v0) (o1 : Value.okWide Tryd.prog W .any base 3 v1) (hT : Tb W) (hsh : W.ShapedOpen Tryd.prog) :
    Calls Tryd.prog 3 #[v0, v1] W fun e w' => e = .returned (.bool true) ∧ Below W.heap.size W w' := by
  obtain ⟨m, p, s, h, k, rfl, hI⟩ := open_mf h0 o0
  obtain ⟨a, rfl, -⟩ := open_int Tryd.underlying3 o1 h1
  exact grows_walk m p s h k a W hI (em_of hT hsh)
end Go.Proofs.YtmgblbkmbiiofaaDoor
