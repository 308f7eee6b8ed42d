/-
  The contract of an entry's bytes.
  The contract of archive.Encode.
  The contracts of take and number.
-/
import Derived.Test.YticcphppnmoogaaGreatDoorBy15
import Derived.Test.YticcphppnmoogaaGreatDoorBy10
import Derived.Lib.SmallJoins

namespace Go.Proofs.YticcphppnmoogaaGreatDoor
open Go.RowKit
attribute [local go_sem ↓] Go.wp_at_zero Go.wp_at_succ

def b8 (z : Int) : Nat := (z % 256).toNat
theorem b8_lt (z : Int) : b8 z < 256 := by unfold b8; omega
theorem b8_wrap (z : Int) : IntKind.u8.wrap z = ((b8 z : Nat) : Int) := by rw [IntKind.wrap_u8]; unfold b8; omega
def headF (e : En) : List Nat := [b8 e.kind, b8 (e.mode / 256), b8 e.mode, b8 (txtF e.path).size]
def sizeF (e : En) : List Nat := [b8 (e.data.length / 256 : Nat), b8 e.data.length]
def ebF (e : En) : List Nat := [headF e, bys (txtF e.path), sizeF e, e.data, sealF e].flatten
theorem rds_row {w : World} {g : Nat} {t : TypeId} {l : List Nat} {S : Nat → Prop} (hB : Blk w g t (u8s l).toArray) (hg : S g) : RdS w S (some ⟨g, 0, none⟩) l := rd_cells hg fun j hj => by
  rw [hB.cell j]; simp [u8s, hj]
theorem rdss_five {w : World} {S : Nat → Prop} {A0 A1 A2 A3 A4 : Option Addr} {c0 c1 c2 c3 c4 : Nat} {l0 l1 l2 l3 l4 : List Nat} {g : Nat} {t : TypeId} (hB : Blk w g t #[.slice A0 l0.length c0, .slice A1 l1.length c1, .slice A2 l2.length c2, .slice A3 l3.length c3, .slice A4 l4.length c4]) (hg : S g)
    (h0 : RdS w S A0 l0) (h1 : RdS w S A1 l1) (h2 : RdS w S A2 l2) (h3 : RdS w S A3 l3) (h4 : RdS w S A4 l4) : RdSS w S (some ⟨g, 0, none⟩) [l0, l1, l2, l3, l4] := fun i hi => by
  match i, hi with
  | 0, _ => exact ⟨_, A0, c0, rfl, hg, by rw [add_zero']; exact hB.cell 0, h0⟩
  | 1, _ => exact ⟨_, A1, c1, rfl, hg, by rw [add_zero']; exact hB.cell 1, h1⟩
  | 2, _ => exact ⟨_, A2, c2, rfl, hg, by rw [add_zero']; exact hB.cell 2, h2⟩
  | 3, _ => exact ⟨_, A3, c3, rfl, hg, by rw [add_zero']; exact hB.cell 3, h3⟩
  | 4, _ => exact ⟨_, A4, c4, rfl, hg, by rw [add_zero']; exact hB.cell 4, h4⟩
theorem sealF_len (e : En) : (sealF e).length = 8 := by unfold sealF; rw [List.length_take, shaF_len]; rfl

/-- What each operation of bytes' web leaves. -/
def EbP (B : Nat) (e : En) (k : Nat) (v : Value) (w : World) : Prop := match k with
  | 13 => ∃ g, v = .slice (some ⟨g, 0, none⟩) 4 4 ∧ RdS w (fun b => b < w.heap.size) (some ⟨g, 0, none⟩) (headF e)
  | 15 => ∃ g c, v = .slice (some ⟨g, 0, none⟩) (txtF e.path).size c ∧ RdS w (fun b => b < w.heap.size) (some ⟨g, 0, none⟩) (bys (txtF e.path))
  | 21 => ∃ g, v = .slice (some ⟨g, 0, none⟩) 2 2 ∧ RdS w (fun b => b < w.heap.size) (some ⟨g, 0, none⟩) (sizeF e)
  | 25 => ∃ g c, v = .slice (some ⟨g, 0, none⟩) 8 c ∧ RdS w (fun b => b < w.heap.size) (some ⟨g, 0, none⟩) (sealF e)
  | 26 => ∃ g, v = .slice (some ⟨g, 0, none⟩) 5 5 ∧ RdSS w (fun b => b < w.heap.size) (some ⟨g, 0, none⟩) [headF e, bys (txtF e.path), sizeF e, e.data, sealF e]
  | 27 => ∃ A n c, v = .slice A n c ∧ w.ownsRow B 5 1 (.slice A n c) n (u8s (ebF e))
  | _ => False

set_option maxRecDepth 100000 in
set_option maxHeartbeats 4000000 in
theorem eb_any (x : Ex) (w : World) (hx : ExOk w w.heap.size x) (hT : Tabs w) :
    Calls Tryz.prog 31 #[.agg (exC x).toArray] w fun e w' => ∃ A n c, e = .returned (.slice A n c) ∧ w'.ownsRow w.heap.size 5 1 (.slice A n c) n (u8s (ebF x.e)) ∧ Below w.heap.size w w' := by
  obtain ⟨⟨p, k, m, d⟩, pa, pc, da, dc⟩ := x
  have HX := Sl.mk hx
  have HT := Sl.mk hT
  show Calls Tryz.prog 31 #[.agg #[.slice pa p.length pc, .int .i64 k, .int .i64 m, .slice da d.length dc]] w fun e w' => ∃ A n c, e = .returned (.slice A n c) ∧ w'.ownsRow w.heap.size 5 1 (.slice A n c) n (u8s (ebF ⟨p, k, m, d⟩)) ∧ Below w.heap.size w w'
  obtain ⟨wB, hwB⟩ : ∃ wB, w.alloc (.cells #[.slice pa p.length pc, .int .i64 k, .int .i64 m, .slice da d.length dc] 40) = wB := ⟨_, rfl⟩
  have hbx : Blk wB w.heap.size 40 #[.slice pa p.length pc, .int .i64 k, .int .i64 m, .slice da d.length dc] := by rw [← hwB]; exact Blk.new _ _ _
  have hEB : Below w.heap.size w wB := by rw [← hwB]; exact below_al (Below.refl _ _) _
  have hxB := hx.be hEB
  have c0 := hbx.cell 0
  have HTX := Sl.mk (text_any pa p.length pc p wB (by have := hxB.plen; simp only at this; omega) hxB.pcap.1 hxB.slen hxB.path)
  have HS := Sl.mk (txt_len hx.plen hx.slen)
  have HBX := Sl.mk hbx
  clear hx hT hxB hbx
  go_enter Tryz.func31, Tryz.ntmps31
  go_wp2_with fail
  refine HTX.out.mono ?_
  rintro e w1 ⟨rfl, hB1⟩
  have hE1 := below_tr hEB hB1
  have hb1 := HBX.out.below hB1 HBX.out.lt
  have c3 := hb1.cell 3
  obtain ⟨T, hT⟩ : ∃ T, txtF p = T := ⟨_, rfl⟩
  have HTT := Sl.mk hT
  have hTs := HS.out
  rw [show txtF (En.path ⟨p, k, m, d⟩) = T from hT] at hTs
  rw [hT]
  clear hwB c0 hT HTX hB1 hEB
  go_wp2_with fail
  obtain ⟨wd, hwd⟩ : ∃ wd, w1.drew = wd := ⟨_, rfl⟩
  have hEd : Below w.heap.size w wd := by rw [← hwd]; exact hE1.drew
  have HBD : Sl (Blk wd w.heap.size 40 #[.slice pa p.length pc, .int .i64 k, .int .i64 m, .slice da d.length dc]) := Sl.mk (by rw [← hwd]; exact hb1)
  have HSF : Sl (∀ W, Below wd.heap.size wd W → W.cell? ⟨w.heap.size, 1, none⟩ = some (.int .i64 k) ∧ W.cell? ⟨w.heap.size, 2, none⟩ = some (.int .i64 m) ∧ W.cell? ⟨w.heap.size, 3, none⟩ = some (.slice da d.length dc)) := Sl.mk (fun W hW =>
    ⟨(HBD.out.below hW HBD.out.lt).cell 1, (HBD.out.below hW HBD.out.lt).cell 2, (HBD.out.below hW HBD.out.lt).cell 3⟩)
  have HLV : Sl (∀ W, Below wd.heap.size wd W → (loadVar 40 ⟨w.heap.size, 0, none⟩).run Tryz.prog W = .ok (.agg #[.slice pa p.length pc, .int .i64 k, .int .i64 m, .slice da d.length dc]) W) := Sl.mk (fun W hW =>
    run_loadVar_at W ⟨w.heap.size, 0, none⟩ 40 [.slice pa p.length pc, .int .i64 k, .int .i64 m, .slice da d.length dc] _ (fun j v hv => by rw [addr_add0, (HBD.out.below hW HBD.out.lt).cell j]; simpa using hv) Tryz.underlying40 rfl enSize)
  clear hb1 c3 hE1
  refine wp_region_X (fun W => Below wd.heap.size wd W) [28] (by kernel_rfl) (by rw [hwd]; exact Below.refl _ _) (fun hS => ?_)
  rw [hwd] at hS ⊢
  clear hwd
  refine wpAnyX_S (i := 0) (v := ?_) rfl (by kernel_rfl) (by kernel_rfl) (by kernel_rfl) (by kernel_rfl) (fun _ _ _ h => h) (Or.inl ⟨by rfl, ?_⟩) hS ?_
  rotate_left 1
  · (intro w' hw'; (first | rw [hw'] | (have hw2 := HSF.out w' hw') | skip); go_simp; (try with_reducible rfl))
  simp only [Act.put, List.setIfInBounds_toArray, List.set_cons_zero, List.set_cons_succ]
  refine wpAnyX_S (i := 1) (v := ?_) rfl (by kernel_rfl) (by kernel_rfl) (by kernel_rfl) (by kernel_rfl) (fun _ _ _ h => h) (Or.inl ⟨by rfl, ?_⟩) hS ?_
  rotate_left 1
  · (intro w' hw'; (first | rw [hw'] | (have hw2 := HSF.out w' hw') | skip); go_simp; (try with_reducible rfl))
  simp only [Act.put, List.setIfInBounds_toArray, List.set_cons_zero, List.set_cons_succ]
  refine wpAnyX_S (i := 2) (v := ?_) rfl (by kernel_rfl) (by kernel_rfl) (by kernel_rfl) (by kernel_rfl) (fun _ _ _ h => h) (Or.inl ⟨by rfl, ?_⟩) hS ?_
  rotate_left 1
  · (intro w' hw'; (first | rw [hw'] | (have hw2 := HSF.out w' hw') | skip); go_simp; (try with_reducible rfl))
  simp only [Act.put, List.setIfInBounds_toArray, List.set_cons_zero, List.set_cons_succ]
  refine wpAnyX_S (i := 3) (v := ?_) rfl (by kernel_rfl) (by kernel_rfl) (by kernel_rfl) (by kernel_rfl) (fun _ _ _ h => h) (Or.inl ⟨by rfl, ?_⟩) hS ?_
  rotate_left 1
  · (intro w' hw'; (first | rw [hw'] | (have hw2 := HSF.out w' hw') | skip); go_simp; (try with_reducible rfl))
  simp only [Act.put, List.setIfInBounds_toArray, List.set_cons_zero, List.set_cons_succ]
  refine wpAnyX_S (i := 4) (v := ?_) rfl (by kernel_rfl) (by kernel_rfl) (by kernel_rfl) (by kernel_rfl) (fun _ _ _ h => h) (Or.inl ⟨by rfl, ?_⟩) hS ?_
  rotate_left 1
  · (intro w' hw'; (first | rw [hw'] | (have hw2 := HSF.out w' hw') | skip); go_simp; (try with_reducible rfl))
  simp only [Act.put, List.setIfInBounds_toArray, List.set_cons_zero, List.set_cons_succ]
  refine wpAnyX_S (i := 5) (v := ?_) rfl (by kernel_rfl) (by kernel_rfl) (by kernel_rfl) (by kernel_rfl) (fun _ _ _ h => h) (Or.inl ⟨by rfl, ?_⟩) hS ?_
  rotate_left 1
  · (intro w' hw'; (first | rw [hw'] | (have hw2 := HSF.out w' hw') | skip); go_simp; (try with_reducible rfl))
  simp only [Act.put, List.setIfInBounds_toArray, List.set_cons_zero, List.set_cons_succ]
  refine wpAnyX_S (i := 6) (v := ?_) rfl (by kernel_rfl) (by kernel_rfl) (by kernel_rfl) (by kernel_rfl) (fun _ _ _ h => h) (Or.inl ⟨by rfl, ?_⟩) hS ?_
  rotate_left 1
  · (intro w' hw'; (first | rw [hw'] | (have hw2 := HSF.out w' hw') | skip); go_simp; (try with_reducible rfl))
  simp only [Act.put, List.setIfInBounds_toArray, List.set_cons_zero, List.set_cons_succ]
  refine wpAnyX_S (i := 7) (v := ?_) rfl (by kernel_rfl) (by kernel_rfl) (by kernel_rfl) (by kernel_rfl) (fun _ _ _ h => h) (Or.inl ⟨by rfl, ?_⟩) hS ?_
  rotate_left 1
  · (intro w' hw'; (first | rw [hw'] | (have hw2 := HSF.out w' hw') | skip); go_simp; (try with_reducible rfl))
  simp only [Act.put, List.setIfInBounds_toArray, List.set_cons_zero, List.set_cons_succ]
  refine wpAnyX_S (i := 8) (v := ?_) rfl (by kernel_rfl) (by kernel_rfl) (by kernel_rfl) (by kernel_rfl) (fun _ _ _ h => h) (Or.inl ⟨by rfl, ?_⟩) hS ?_
  rotate_left 1
  · (intro w' hw'; (first | rw [hw'] | (have hw2 := HSF.out w' hw') | skip); go_simp; (try with_reducible rfl))
  simp only [Act.put, List.setIfInBounds_toArray, List.set_cons_zero, List.set_cons_succ]
  refine wpAnyX_S (i := 9) (v := ?_) rfl (by kernel_rfl) (by kernel_rfl) (by kernel_rfl) (by kernel_rfl) (fun _ _ _ h => h) (Or.inl ⟨by rfl, ?_⟩) hS ?_
  rotate_left 1
  · (intro w' hw'; (first | rw [hw'] | (have hw2 := HSF.out w' hw') | skip); go_simp; (try with_reducible rfl))
  simp only [Act.put, List.setIfInBounds_toArray, List.set_cons_zero, List.set_cons_succ]
  refine wpAnyX_S (i := 10) (v := ?_) rfl (by kernel_rfl) (by kernel_rfl) (by kernel_rfl) (by kernel_rfl) (fun _ _ _ h => h) (Or.inl ⟨by rfl, ?_⟩) hS ?_
  rotate_left 1
  · (intro w' hw'; (first | rw [hw'] | (have hw2 := HSF.out w' hw') | skip); go_simp; (try with_reducible rfl))
  simp only [Act.put, List.setIfInBounds_toArray, List.set_cons_zero, List.set_cons_succ]
  refine wpAnyX_S (i := 11) (v := ?_) rfl (by kernel_rfl) (by kernel_rfl) (by kernel_rfl) (by kernel_rfl) (fun _ _ _ h => h) (Or.inl ⟨by rfl, ?_⟩) hS ?_
  rotate_left 1
  · (intro w' hw'; (first | rw [hw'] | (have hw2 := HSF.out w' hw') | skip); go_simp; (try with_reducible rfl))
  simp only [Act.put, List.setIfInBounds_toArray, List.set_cons_zero, List.set_cons_succ]
  refine wpAnyX_S (i := 12) (v := ?_) rfl (by kernel_rfl) (by kernel_rfl) (by kernel_rfl) (by kernel_rfl) (fun _ _ _ h => h) (Or.inl ⟨by rfl, ?_⟩) hS ?_
  rotate_left 1
  · (intro w' hw'; (first | rw [hw'] | (have hw2 := HSF.out w' hw') | skip); go_simp; (try with_reducible rfl))
  simp only [Act.put, List.setIfInBounds_toArray, List.set_cons_zero, List.set_cons_succ]
  refine wpAnyX_S (i := 14) (v := ?_) rfl (by kernel_rfl) (by kernel_rfl) (by kernel_rfl) (by kernel_rfl) (fun _ _ _ h => h) (Or.inl ⟨by rfl, ?_⟩) hS ?_
  rotate_left 1
  · (intro w' hw'; (first | rw [hw'] | (have hw2 := HSF.out w' hw') | skip); go_simp; (try with_reducible rfl))
  simp only [Act.put, List.setIfInBounds_toArray, List.set_cons_zero, List.set_cons_succ]
  refine wpAnyX_S (i := 16) (v := ?_) rfl (by kernel_rfl) (by kernel_rfl) (by kernel_rfl) (by kernel_rfl) (fun _ _ _ h => h) (Or.inl ⟨by rfl, ?_⟩) hS ?_
  rotate_left 1
  · (intro w' hw'; (first | rw [hw'] | (have hw2 := HSF.out w' hw') | skip); go_simp; (try with_reducible rfl))
  simp only [Act.put, List.setIfInBounds_toArray, List.set_cons_zero, List.set_cons_succ]
  refine wpAnyX_S (i := 17) (v := ?_) rfl (by kernel_rfl) (by kernel_rfl) (by kernel_rfl) (by kernel_rfl) (fun _ _ _ h => h) (Or.inl ⟨by rfl, ?_⟩) hS ?_
  rotate_left 1
  · (intro w' hw'; (first | rw [hw'] | (have hw2 := HSF.out w' hw') | skip); go_simp; (try with_reducible rfl))
  simp only [Act.put, List.setIfInBounds_toArray, List.set_cons_zero, List.set_cons_succ]
  refine wpAnyX_S (i := 18) (v := ?_) rfl (by kernel_rfl) (by kernel_rfl) (by kernel_rfl) (by kernel_rfl) (fun _ _ _ h => h) (Or.inl ⟨by rfl, ?_⟩) hS ?_
  rotate_left 1
  · (intro w' hw'; (first | rw [hw'] | (have hw2 := HSF.out w' hw') | skip); go_simp; (try with_reducible rfl))
  simp only [Act.put, List.setIfInBounds_toArray, List.set_cons_zero, List.set_cons_succ]
  refine wpAnyX_S (i := 19) (v := ?_) rfl (by kernel_rfl) (by kernel_rfl) (by kernel_rfl) (by kernel_rfl) (fun _ _ _ h => h) (Or.inl ⟨by rfl, ?_⟩) hS ?_
  rotate_left 1
  · (intro w' hw'; (first | rw [hw'] | (have hw2 := HSF.out w' hw') | skip); go_simp; (try with_reducible rfl))
  simp only [Act.put, List.setIfInBounds_toArray, List.set_cons_zero, List.set_cons_succ]
  refine wpAnyX_S (i := 20) (v := ?_) rfl (by kernel_rfl) (by kernel_rfl) (by kernel_rfl) (by kernel_rfl) (fun _ _ _ h => h) (Or.inl ⟨by rfl, ?_⟩) hS ?_
  rotate_left 1
  · (intro w' hw'; (first | rw [hw'] | (have hw2 := HSF.out w' hw') | skip); go_simp; (try with_reducible rfl))
  simp only [Act.put, List.setIfInBounds_toArray, List.set_cons_zero, List.set_cons_succ]
  refine wpAnyX_S (i := 22) (v := ?_) rfl (by kernel_rfl) (by kernel_rfl) (by kernel_rfl) (by kernel_rfl) (fun _ _ _ h => h) (Or.inl ⟨by rfl, ?_⟩) hS ?_
  rotate_left 1
  · (intro w' hw'; (first | rw [hw'] | (have hw2 := HSF.out w' hw') | skip); go_simp; (try with_reducible rfl))
  simp only [Act.put, List.setIfInBounds_toArray, List.set_cons_zero, List.set_cons_succ]
  refine wpAnyX_S (i := 23) (v := ?_) rfl (by kernel_rfl) (by kernel_rfl) (by kernel_rfl) (by kernel_rfl) (fun _ _ _ h => h) (Or.inl ⟨by rfl, ?_⟩) hS ?_
  rotate_left 1
  · (intro w' hw'; (first | rw [hw'] | (have hw2 := HSF.out w' hw') | skip); go_simp; (try with_reducible rfl))
  simp only [Act.put, List.setIfInBounds_toArray, List.set_cons_zero, List.set_cons_succ]
  refine wpAnyX_S (i := 24) (v := .agg #[.slice pa p.length pc, .int .i64 k, .int .i64 m, .slice da d.length dc]) rfl (by kernel_rfl) (by kernel_rfl) (by kernel_rfl) (by kernel_rfl) (fun _ _ _ h => h) (yieldsIf_loadA (by rfl) 40 (.tmp 1) rfl ⟨w.heap.size, 0, none⟩ _ rfl (fun w' hw' => HLV.out w' hw')) hS ?_
  simp only [Act.put, List.setIfInBounds_toArray, List.set_cons_zero, List.set_cons_succ]
  refine wpAnyX_web [13, 15, 21, 25, 26, 27] (fun k => k + 11) (fun k => if k = 26 then [13, 15, 21, 25] else if k = 27 then [26] else []) (EbP w.heap.size ⟨p, k, m, d⟩) _ _ 39 1 (by kernel_rfl) (by decide) (by decide) (by kernel_rfl) (by rfl) (by decide) ?_ ?_ ?_ _ hS
  · intro j hj v W W' _ hP hb
    simp only [List.mem_cons, List.not_mem_nil, or_false] at hj
    rcases hj with rfl | rfl | rfl | rfl | rfl | rfl
    · obtain ⟨g, rfl, h⟩ := hP
      exact ⟨g, rfl, rds_lt h hb⟩
    · obtain ⟨g, c, rfl, h⟩ := hP
      exact ⟨g, c, rfl, rds_lt h hb⟩
    · obtain ⟨g, rfl, h⟩ := hP
      exact ⟨g, rfl, rds_lt h hb⟩
    · obtain ⟨g, c, rfl, h⟩ := hP
      exact ⟨g, c, rfl, rds_lt h hb⟩
    · obtain ⟨g, rfl, h⟩ := hP
      exact ⟨g, rfl, rdss_lt h hb⟩
    · obtain ⟨A, n, c, rfl, h⟩ := hP
      exact ⟨A, n, c, rfl, own_below h hb⟩
  · intro j hj a W σ hW hag hdep
    simp only [List.mem_cons, List.not_mem_nil, or_false] at hj
    have hx' := HX.out.be (below_tr hEd hW)
    rcases hj with rfl | rfl | rfl | rfl | rfl | rfl
    all_goals simp only [List.getElem?_cons_succ, List.getElem?_cons_zero, Option.getD_some]
    · have e13 : a.tmps[13]?.getD undef = .int .u8 (IntKind.u8.wrap k) := ev_at ((hag 13 (by decide)).trans rfl)
      have e17 : a.tmps[17]?.getD undef = .int .u8 (IntKind.u8.wrap (m / 256)) := ev_at ((hag 17 (by decide)).trans rfl)
      have e20 : a.tmps[20]?.getD undef = .int .u8 (IntKind.u8.wrap m) := ev_at ((hag 20 (by decide)).trans rfl)
      have e23 : a.tmps[23]?.getD undef = .int .u8 (IntKind.u8.wrap (T.size : Nat)) := ev_at ((hag 23 (by decide)).trans rfl)
      clear hag hdep
      refine wp_of_run (v := .slice (some ⟨W.heap.size, 0, none⟩) 4 4) (w' := W.alloc (.cells (u8s (headF ⟨p, k, m, d⟩)).toArray 5)) ?_ ⟨_, rfl, below_al (Below.refl _ _) _, _, rfl, rds_row (Blk.new _ _ _) (Blk.new W 5 (u8s (headF ⟨p, k, m, d⟩)).toArray).lt⟩
      have hc : (u8s (headF ⟨p, k, m, d⟩)).toArray = #[.int .u8 (IntKind.u8.wrap k), .int .u8 (IntKind.u8.wrap (m / 256)), .int .u8 (IntKind.u8.wrap m), .int .u8 (IntKind.u8.wrap (T.size : Nat))] := by
        rw [b8_wrap, b8_wrap, b8_wrap, b8_wrap, ← HTT.out]; rfl
      rw [hc]
      clear hc
      go_simp
    · have e25 : a.tmps[25]?.getD undef = .string T := ev_at ((hag 25 (by decide)).trans rfl)
      clear hag hdep
      have hcv := conv_bys T W
      have hb := bys_below T W
      have hr := bys_reads T W
      rw [← HTT.out] at hb hr
      refine wp_of_run (v := .slice (some ⟨W.heap.size, 0, none⟩) (txtF p).size (grownCap W (txtF p).size 0 5)) (w' := Lib.bytesWorld W 5 (txtF p)) ?_ ⟨_, rfl, hb, _, _, rfl, hr⟩
      rw [HTT.out]
      go_simp
    · have e29 : a.tmps[29]?.getD undef = .int .u8 (IntKind.u8.wrap ((d.length : Int) / 256)) := ev_at ((hag 29 (by decide)).trans rfl)
      have e31 : a.tmps[31]?.getD undef = .int .u8 (IntKind.u8.wrap (d.length : Nat)) := ev_at ((hag 31 (by decide)).trans rfl)
      clear hag hdep
      refine wp_of_run (v := .slice (some ⟨W.heap.size, 0, none⟩) 2 2) (w' := W.alloc (.cells (u8s (sizeF ⟨p, k, m, d⟩)).toArray 5)) ?_ ⟨_, rfl, below_al (Below.refl _ _) _, _, rfl, rds_row (Blk.new _ _ _) (Blk.new W 5 (u8s (sizeF ⟨p, k, m, d⟩)).toArray).lt⟩
      have hc : (u8s (sizeF ⟨p, k, m, d⟩)).toArray = #[.int .u8 (IntKind.u8.wrap ((d.length : Int) / 256)), .int .u8 (IntKind.u8.wrap (d.length : Nat))] := by
        rw [b8_wrap, b8_wrap]; rfl
      rw [hc]
      clear hc
      go_simp
    · have e35 : a.tmps[35]?.getD undef = .agg #[.slice pa p.length pc, .int .i64 k, .int .i64 m, .slice da d.length dc] := ev_at ((hag 35 (by decide)).trans rfl)
      clear hag hdep
      have hc := seal_any ⟨⟨p, k, m, d⟩, pa, pc, da, dc⟩ W hx' (HT.out.below (below_tr hEd hW) HT.out.1)
      refine wp_of_call (f := 40) (args := #[.agg #[.slice pa p.length pc, .int .i64 k, .int .i64 m, .slice da d.length dc]]) (by go_simp) hc (fun e w1 hq => ?_)
      obtain ⟨g, c, rfl, hr, hB⟩ := hq
      exact ⟨_, rfl, _, rfl, hB, g, c, rfl, hr⟩
    · obtain ⟨e24, g0, h0, r0⟩ := hdep 13 (by decide)
      obtain ⟨e26, g1, c1, h1, r1⟩ := hdep 15 (by decide)
      obtain ⟨e32, g2, h2, r2⟩ := hdep 21 (by decide)
      obtain ⟨e36, g4, c4, h4, r4⟩ := hdep 25 (by decide)
      have e24 := ev_at (e24.trans h0)
      have e26 := ev_at (e26.trans h1)
      have e32 := ev_at (e32.trans h2)
      have e36 := ev_at (e36.trans h4)
      have e34 : a.tmps[34]?.getD undef = .slice da d.length dc := ev_at ((hag 34 (by decide)).trans rfl)
      have hb := below_al (Below.refl W.heap.size W) (.cells #[.slice (some ⟨g0, 0, none⟩) (headF ⟨p, k, m, d⟩).length 4, .slice (some ⟨g1, 0, none⟩) (bys (txtF p)).length c1, .slice (some ⟨g2, 0, none⟩) (sizeF ⟨p, k, m, d⟩).length 2, .slice da d.length dc, .slice (some ⟨g4, 0, none⟩) (sealF ⟨p, k, m, d⟩).length c4] 22)
      have hB := Blk.new W 22 #[.slice (some ⟨g0, 0, none⟩) (headF ⟨p, k, m, d⟩).length 4, .slice (some ⟨g1, 0, none⟩) (bys (txtF p)).length c1, .slice (some ⟨g2, 0, none⟩) (sizeF ⟨p, k, m, d⟩).length 2, .slice da d.length dc, .slice (some ⟨g4, 0, none⟩) (sealF ⟨p, k, m, d⟩).length c4]
      refine wp_of_run (v := .slice (some ⟨W.heap.size, 0, none⟩) 5 5) (w' := W.alloc (.cells #[.slice (some ⟨g0, 0, none⟩) (headF ⟨p, k, m, d⟩).length 4, .slice (some ⟨g1, 0, none⟩) (bys (txtF p)).length c1, .slice (some ⟨g2, 0, none⟩) (sizeF ⟨p, k, m, d⟩).length 2, .slice da d.length dc, .slice (some ⟨g4, 0, none⟩) (sealF ⟨p, k, m, d⟩).length c4] 22)) ?_
        ⟨_, rfl, hb, _, rfl, rdss_five hB hB.lt (rds_lt r0 hb) (rds_lt r1 hb) (rds_lt r2 hb) (rds_lt (rds_of_reads hx'.data) hb) (rds_lt r4 hb)⟩
      have q0 : (headF ⟨p, k, m, d⟩).length = 4 := rfl
      have q2 : (sizeF ⟨p, k, m, d⟩).length = 2 := rfl
      rw [q0, q2, sealF_len, bys_len]
      clear hb hB r0 r1 r2 r4 hx' h0 h1 h2 h4 q0 q2 hag hdep
      go_simp
    · obtain ⟨e37, g, h, hr⟩ := hdep 26 (by decide)
      have e37 := ev_at (e37.trans h)
      refine wp_of_call (f := 48) (args := #[.slice (some ⟨g, 0, none⟩) 5 5]) (by go_simp) (concat_any (some ⟨g, 0, none⟩) 5 [headF ⟨p, k, m, d⟩, bys (txtF p), sizeF ⟨p, k, m, d⟩, d, sealF ⟨p, k, m, d⟩] (fun b => b < W.heap.size) W ?_ (by simp) hr (fun _ h => h)) (fun e w1 hq => ?_)
      · have h1 := hx'.dlen
        have h2 : (txtF p).size ≤ 200000 := HS.out
        have q0 : (headF ⟨p, k, m, d⟩).length = 4 := rfl
        have q2 : (sizeF ⟨p, k, m, d⟩).length = 2 := rfl
        simp only [List.flatten_cons, List.flatten_nil, List.length_append, bys_len, sealF_len, q0, q2, List.length_nil] at *
        omega
      · obtain ⟨A', n', c', rfl, ho, hB⟩ := hq
        exact ⟨_, rfl, _, rfl, hB, A', n', c', rfl, Go.Joins.ownsRow_le ho (below_tr hEd hW).size⟩
  · intro σ W hW hP
    obtain ⟨A, n, c, h27, ho⟩ := hP 27 (by decide)
    have hEW := below_tr hEd hW
    simp only [putL, List.foldl]
    rw [h27]
    simp only [Nat.reduceAdd]
    simp only [Act.put, List.setIfInBounds_toArray, List.set_cons_zero, List.set_cons_succ]
    have HO := Sl.mk ho
    refine wpAnyX_tailF [28] (by kernel_rfl) (by rfl) (by rfl) (by rfl) ?_
    simp only [List.filterMap_cons, List.filterMap_nil, List.getElem?_cons_succ, List.getElem?_cons_zero]
    clear hP h27 ho HSF HLV HBD HBX HX HS HTT HT hEd hW
    go_wp2_with fail
    refine NoPanic.normal ?_
    go_wp2_with fail
    go_ret
    exact ⟨A, n, c, rfl, HO.out, hEW⟩

end Go.Proofs.YticcphppnmoogaaGreatDoor

namespace Go.Proofs.YticcphppnmoogaaGreatDoor
open Go.RowKit
attribute [local go_sem ↓] Go.wp_at_zero Go.wp_at_succ

def encF (l : List Ex) : List Nat := [67, 82, 69, 76, b8 l.length] ++ l.flatMap fun x => ebF x.e
theorem ebF_len {w : World} {x : Ex} (hx : ExOk w w.heap.size x) : (ebF x.e).length ≤ 300100 := by
  have h1 := hx.dlen
  have h2 := txt_len hx.plen hx.slen
  have q0 : (headF x.e).length = 4 := rfl
  have q2 : (sizeF x.e).length = 2 := rfl
  simp only [ebF, List.flatten_cons, List.flatten_nil, List.length_append, bys_len, sealF_len, q0, q2, List.length_nil]
  omega
theorem ebs_len {w : World} : ∀ {l : List Ex}, (∀ x ∈ l, ExOk w w.heap.size x) → (l.flatMap fun x => ebF x.e).length ≤ l.length * 300100
  | [], _ => by simp
  | x :: l, h => by
    have h1 := ebF_len (h x (List.mem_cons_self ..))
    have h2 := ebs_len (fun y hy => h y (List.mem_cons_of_mem _ hy))
    rw [List.flatMap_cons, List.length_append, List.length_cons, Nat.add_mul]
    omega

def EncPost (w : World) (l : List Ex) (e : Ending) (w' : World) : Prop := ∃ (N : Nat) (E : Int), CheckR l N E ∧ Below w.heap.size w w' ∧
  ((E ≠ 0 ∧ e = .returned (.tuple #[.slice none 0 0, .int .i64 E])) ∨ (E = 0 ∧ ∃ A' n' c', e = .returned (.tuple #[.slice A' n' c', .int .i64 0]) ∧ w'.ownsRow w.heap.size 5 1 (.slice A' n' c') n' (u8s (encF l))))
theorem check_len {l : List Ex} {N : Nat} (h : CheckR l N 0) : l.length ≤ 40 ∧ N = l.length ∧ ∀ j x, l[j]? = some x → refusedE x.e (l.take j) = 0 := by
  rcases h with ⟨_, _, h⟩ | ⟨h1, _, h2, h3⟩
  · cases h
  · rcases h3 with ⟨h3, _⟩ | ⟨_, _, _, h4⟩
    · exact ⟨h1, h3, fun j x hx => h2 j x (by rw [h3]; exact (List.getElem?_eq_some_iff.1 hx).1) hx⟩
    · exact absurd rfl h4

set_option maxRecDepth 100000 in
set_option maxHeartbeats 4000000 in
theorem aencode_any (A : Option Addr) (n c : Nat) (l : List Ex) (w : World) (hn : n ≤ 1000000) (hnc : n ≤ c ∧ c ≤ 9223372036854775807) (hL : Exs w A n l) (hM : Mx w) (hT : Tabs w) :
    Calls Tryz.prog 12 #[.slice A n c] w (EncPost w l) := by
  have HC := Sl.mk (acheck_any A n c l w hn hnc hL hM)
  obtain ⟨j0, hj0, hy0, hy1, hy2⟩ := info_parts u8Info
  have kc := fun (w : World) (C : Array Value) (n c : Nat) => Lib.run_convert_bytes_const (P := Tryz.prog) w 22 5 C n c Tryz.underlying22 Tryz.underlying5
  have HE := Sl.mk hL
  have HL := Sl.mk hL.n_
  have HT := Sl.mk hT
  unfold CheckPost at HC
  clear hM hL hT
  go_enter Tryz.func12, Tryz.ntmps12
  go_wp2_with fail
  refine HC.out.mono ?_
  rintro e w1 ⟨N, E, rfl, hR, hB⟩
  clear HC
  by_cases hE : E = 0
  · subst hE
    have HR := Sl.mk hR
    have h40 := (check_len hR).1
    have hln := HL.out
    have hn40 : n ≤ 40 := by omega
    clear hR h40 hln
    have HMC := Sl.mk (mark_cells w1 [.int .u8 67, .int .u8 82, .int .u8 69, .int .u8 76] 5 (4, 5) (.cells #[.int .u8 (n : Nat)] 5))
    have HNC := Sl.mk (new_cells (w1.alloc (.cells #[.int .u8 67, .int .u8 82, .int .u8 69, .int .u8 76] 5 (4, 5))) (.int .u8 (n : Nat)) 5)
    go_wp2_with (at_builtin; refine wpList_append_grows _ rfl (.tmp 18) (.tmp 22) 22 rfl 5 j0 (.int .u8 0) 1 1 Tryz.underlying22 hj0 hy0 hy1 hy2 rfl (by decide) (some ⟨w1.heap.size, 0, none⟩) 4 4 [.int .u8 67, .int .u8 82, .int .u8 69, .int .u8 76] rfl (fun e => by cases e) rfl HMC.out ⟨w1.heap.size + 1, 0, none⟩ 1 1 [.int .u8 (n : Nat)] rfl rfl (by simpa using HNC.out) (by intro u hu; simp at hu; subst hu; rfl) (by omega) (by unfold maxLen; omega) (by omega) ?_)
    intro v2 w2 ho2 hg2
    have hE2 : Below w.heap.size w w2 := (below_al (below_al hB _) _).grown hg2 (by have := hB.size; simp; omega) (fun g hg => by cases hg)
    have hge := hB.size
    have h8 : (n : Int) = ((b8 (n : Nat) : Nat) : Int) := by unfold b8; omega
    have ho5 : w2.ownsRow w.heap.size 5 1 v2 5 (u8s ([67, 82, 69, 76, b8 l.length] ++ (l.take 0).flatMap fun x => ebF x.e)) := by
      rw [HL.out]
      rw [h8] at ho2
      have := Go.Joins.ownsRow_le ho2 (base' := w.heap.size) (by first | omega | (simp; omega))
      simpa [u8s] using this
    clear ho2 hg2 hB h8 HMC HNC
    obtain ⟨A2, c2, rfl⟩ := ownForm ho5
    go_wp2_with fail
    go_loopw [6, 8, 26] (fun v6 _ v26 wr => ∃ (i q : Nat), i ≤ n ∧ v26 = .int .i64 i ∧ q = 5 + ((l.take i).flatMap fun x => ebF x.e).length ∧ wr.ownsRow w.heap.size 5 1 v6 q (u8s ([67, 82, 69, 76, b8 l.length] ++ (l.take i).flatMap fun x => ebF x.e)) ∧ Below w.heap.size w wr) (fun _ _ v26 _ => n - (intOf v26).toNat)
    case atStart => exact ⟨0, 5, Nat.zero_le _, rfl, by simp, ho5, hE2⟩
    case round =>
      clear ho5 hE2 hge
      obtain ⟨i, q, hi, rfl, hq, hown, hB⟩ := hrel
      obtain ⟨A6, c6, rfl⟩ := ownForm hown
      by_cases hil : i < n
      · obtain ⟨x, hx⟩ : ∃ x, l[i]? = some x := ⟨_, List.getElem?_eq_getElem (by rw [HL.out]; exact hil)⟩
        obtain ⟨ad, rfl, hbl, hld, hok⟩ := (HE.out.be hB).at_ hx
        have hfs : (l.take (i + 1)).flatMap (fun x => ebF x.e) = (l.take i).flatMap (fun x => ebF x.e) ++ ebF x.e := by rw [take_snoc' hx]; simp
        have h1 := ebF_len hok
        have h2 := ebs_len (l := l.take i) (fun y hy => HE.out.ok y (List.mem_of_mem_take hy))
        have h3 : (l.take i).length ≤ 40 := by rw [List.length_take]; omega
        have h4 : (l.take i).length * 300100 ≤ 40 * 300100 := Nat.mul_le_mul h3 (Nat.le_refl _)
        have hba : Below wr.heap.size wr (wr.alloc (.cells #[.slice x.pa x.e.path.length x.pc, .int .i64 x.e.kind, .int .i64 x.e.mode, .slice x.da x.e.data.length x.dc] 40)) := (Below.refl _ _).alloc (Nat.le_refl _) _
        have hEa := below_tr hB hba
        have HB := Sl.mk (eb_any x _ (hok.be hba) (HT.out.below hEa HT.out.1))
        have howna := own_below hown hba
        have hq9 : q ≤ 12005000 := by omega
        obtain ⟨eb, heb⟩ : ∃ eb, ebF x.e = eb := ⟨_, rfl⟩
        rw [heb] at hfs h1 HB
        have HFS := Sl.mk hfs
        have HQ := Sl.mk hq
        have HBN := Sl.mk (Blk.new wr 40 #[.slice x.pa x.e.path.length x.pc, .int .i64 x.e.kind, .int .i64 x.e.mode, .slice x.da x.e.data.length x.dc])
        clear hx hok hown hB hba h2 h3 h4 hfs heb hq
        go_wp2_with (first | (refine ld_exl hld rfl (.tmp 28) rfl rfl ?_) | (refine ld_en HBN.out rfl (.tmp 8) rfl rfl rfl ?_))
        refine HB.out.mono ?_
        rintro e w3 ⟨Ab, nb, cb, rfl, hob, hB3⟩
        have hE3 := below_tr hEa hB3
        have hown3 := own_below howna hB3
        have hRb := Reads.of_own hob
        have hnb := bytes_n hRb
        rw [hnb] at h1
        have HRB := Sl.mk hRb
        have HNB := Sl.mk hnb
        have hge := hE3.size
        clear hld HB howna hob hB3 hRb hnb hEa
        go_wp2_with (at_builtin; refine wpList_append_anyG _ rfl (.tmp 30) (.tmp 32) 22 rfl w.heap.size 5 j0 (.int .u8 0) 1 1 Tryz.underlying22 hj0 hy0 hy1 hy2 rfl (by decide) _ q _ rfl hown3 _ _ nb cb (u8s eb) rfl HRB.out (u8s_one eb) (by unfold maxLen; omega) (by omega) (by omega) ?_)
        intro v9 w9 ho9 hg9 hb9
        have hE9 : Below w.heap.size w w9 := hE3.grown hg9 (by omega) (fun g hg => ownGe hown3 hg)
        rw [← u8s_app] at ho9
        obtain ⟨A9, c9, rfl⟩ := ownForm ho9
        have HO9 : Sl (w9.ownsRow w.heap.size 5 1 (.slice A9 (q + nb) c9) (q + nb) (u8s ([67, 82, 69, 76, b8 l.length] ++ (l.take (i + 1)).flatMap fun x => ebF x.e))) := Sl.mk (by rw [HFS.out]; exact ho9)
        clear hown3 hg9 hb9 hE3 ho9
        go_wp2_with fail
        go_roundw
        case rel => exact ⟨i + 1, q + nb, by omega, by go_num, by rw [HFS.out, List.length_append, HNB.out, HQ.out]; omega, HO9.out, hE9⟩
        case measure => simp [intOf]; omega
      · obtain rfl : i = n := by omega
        have ht : l.take i = l := List.take_of_length_le (by rw [HL.out]; omega)
        rw [ht] at hown
        have HO := Sl.mk hown
        clear hown ht hq
        go_wp2_with fail
        go_ret2
        exact ⟨N, 0, HR.out, hB, .inr ⟨rfl, A6, q, c6, rfl, HO.out⟩⟩
  · have hE' : (E != 0) = true := by simpa using hE
    have HR := Sl.mk hR
    have HEE := Sl.mk hE
    clear hR hE
    go_wp2_with fail
    go_ret2
    exact ⟨N, E, HR.out, hB, .inl ⟨HEE.out, rfl⟩⟩

end Go.Proofs.YticcphppnmoogaaGreatDoor

namespace Go.Proofs.YticcphppnmoogaaGreatDoor
open Go.RowKit
attribute [local go_sem ↓] Go.wp_at_zero Go.wp_at_succ

def takeV (n : Nat) (b : List Nat) : List Nat := if b.length < n then List.replicate n 0 else b.take n
def restV (n : Nat) (b : List Nat) : List Nat := if b.length < n then [] else b.drop n
def shortV (n : Nat) (b : List Nat) (s : Bool) : Bool := if b.length < n then true else s

theorem made_u8s (n : Nat) : (madeCells #[Value.int .u8 0] n).toList = u8s (List.replicate n 0) := by
  refine List.ext_getElem (by simp [madeCells, u8s]) (fun i h1 h2 => ?_)
  simp [madeCells, u8s, Nat.mod_one]
theorem grown_wide {w w' : World} (h : w.grownBy w' none) (row : Option Nat) : w.grownBy w' row := ⟨h.os, h.tape, h.output, h.size, fun k hk _ => h.block k hk (by simp)⟩
theorem Reads.anyA {w : World} {B size : Nat} {A : Option Addr} : Reads w B size A 0 [] := ⟨by simp, fun h => absurd h (by omega)⟩
/-- The reader's block, and what is left of its bytes. -/
structure Rdr (w : World) (B R : Nat) (b : List Nat) (s : Bool) (v : Value) : Prop where
  blk : ∃ A c, Blk w R 60 #[.slice A b.length c, .bool s, v] ∧ Reads w B 1 A b.length (u8s b) ∧ b.length ≤ c ∧ c ≤ 9223372036854775807
  le : B ≤ R

def TakePost (w : World) (B R n : Nat) (b : List Nat) (s : Bool) (v : Value) (e : Ending) (w' : World) : Prop :=
  ∃ A' c', e = .returned (.slice A' n c') ∧ w'.ownsRow w.heap.size 5 1 (.slice A' n c') n (u8s (takeV n b)) ∧ Rdr w' B R (restV n b) (shortV n b s) v ∧ w.grownBy w' (some R)

set_option maxRecDepth 100000 in
set_option maxHeartbeats 4000000 in
theorem take_any (B R n : Nat) (b : List Nat) (s : Bool) (v : Value) (w : World) (hn : n ≤ 100000) (h : Rdr w B R b s v) :
    Calls Tryz.prog 20 #[.pointer (some ⟨R, 0, none⟩), .int .i64 n] w (TakePost w B R n b s v) := by
  obtain ⟨⟨A, c, hB, hR, hbc, hc⟩, hBR⟩ := h
  have hlt := hB.lt
  have c0 := hB.cell 0
  have c1 := hB.cell 1
  obtain ⟨j0, hj0, hy0, hy1, hy2⟩ := info_parts u8Info
  obtain ⟨L, hL⟩ : ∃ L, b.length = L := ⟨_, rfl⟩
  rw [hL] at hB hR hbc c0
  have HB := Sl.mk hB
  have HR := Sl.mk hR
  have HL := Sl.mk hL
  by_cases h0 : L < n
  · have hV := Sl.mk (show takeV n b = List.replicate n 0 from if_pos (by omega))
    have hW := Sl.mk (show restV n b = [] from if_pos (by omega))
    have hS := Sl.mk (show shortV n b s = true from if_pos (by omega))
    have hgt : (n : Int) > (L : Int) := by omega
    have hB2 : Blk ((w.setCell ⟨R, 0, none⟩ (.slice none 0 0)).setCell ⟨R, 1, none⟩ (.bool true)) R 60 #[.slice none 0 0, .bool true, v] := (hB.set_ 0 (.slice none 0 0)).set_ 1 (.bool true)
    have hG2 := only_setCell (only_setCell (only_refl w (some R)) 0 (.slice none 0 0)) 1 (.bool true)
    have HB2 := Sl.mk hB2
    have HG2 := Sl.mk hG2
    have fz0 := hB.frozen 0
    have fz1 := hB.frozen 1
    clear hL hB hR hB2 hG2
    go_enter Tryz.func20, Tryz.ntmps20
    go_wp2_with (refine wpList_make_full _ rfl (.tmp 19) (.tmp 19) 22 rfl w.heap.size 5 j0 (.int .u8 0) 1 Tryz.underlying22 hj0 hy0 hy1 .i64 .i64 n n n rfl rfl rfl rfl (by rw [hy2]; omega) (by unfold maxLen; omega) HG2.out.size ?_)
    intro w3 ho3 hg3
    rw [made_u8s] at ho3
    have HO3 := Sl.mk ho3
    have HG3 := Sl.mk hg3
    clear ho3 hg3 c0 c1 hj0 hy0 hy1 hy2
    go_wp2_with fail
    go_ret
    refine ⟨_, _, rfl, by rw [hV.out]; exact HO3.out, ?_, only_trans HG2.out (grown_wide HG3.out (some R))⟩
    rw [hW.out, hS.out]
    exact ⟨⟨none, 0, HB2.out.grown HG3.out (by simp), Reads.none_, Nat.le_refl _, by omega⟩, hBR⟩
  · have hV := Sl.mk (show takeV n b = b.take n from if_neg (by omega))
    have hW := Sl.mk (show restV n b = b.drop n from if_neg (by omega))
    have hS := Sl.mk (show shortV n b s = s from if_neg (by omega))
    have hgt : ¬ (n : Int) > (L : Int) := by omega
    have hnc : n ≤ c := by omega
    have hRt : Reads w w.heap.size 1 A n (u8s (b.take n)) := by
      have := (reads_take hR (k := n) (by omega)).more (show B ≤ w.heap.size by omega)
      simpa [u8s, List.map_take] using this
    have HC := Sl.mk (bclone_any A n c (b.take n) w (by omega) hRt)
    clear hL hB hR hRt
    go_enter Tryz.func20, Tryz.ntmps20
    go_wp2_with fail
    refine HC.out.mono ?_
    rintro e w1 ⟨v1, rfl, ho1, hB1⟩
    obtain ⟨A1, c1', rfl⟩ := ownForm ho1
    have hb1 := HB.out.below hB1 hlt
    have hlt1 := hb1.lt
    have d0 := hb1.cell 0
    have HB1 := Sl.mk hb1
    have HO1 := Sl.mk ho1
    have HG1 := Sl.mk hB1
    have f0 := hb1.frozen 0
    have hdl : (b.drop n).length = L - n := by rw [List.length_drop, HL.out]
    have HDL := Sl.mk hdl
    clear ho1 hb1 hB1 HC c0 c1 hlt hj0 hy0 hy1 hy2 hdl
    by_cases hcn : c = n
    · subst hcn
      have HRc := Sl.mk (HR.out.cut (k := c) (cap := c) (by omega) (by omega))
      go_wp2_with fail
      go_ret
      refine ⟨_, _, rfl, by rw [hV.out]; exact HO1.out.kept (only_setCell (only_refl w1 (some R)) 0 _) (ownNe HO1.out HB.out.lt), ?_, only_setCell (only_below (only_refl w (some R)) HG1.out) 0 _⟩
      rw [hW.out, hS.out]
      have hL0 : L = c := by omega
      have hb0 : b.drop c = [] := List.drop_eq_nil_of_le (by rw [HL.out]; omega)
      rw [hb0]
      exact ⟨⟨A, 0, HB1.out.set_ 0 _, Reads.anyA, Nat.le_refl _, by omega⟩, hBR⟩
    · have HRc := Sl.mk (HR.out.cut (k := n) (cap := c) (by omega) (by omega))
      go_wp2_with fail
      go_ret
      refine ⟨_, _, rfl, by rw [hV.out]; exact HO1.out.kept (only_setCell (only_refl w1 (some R)) 0 _) (ownNe HO1.out HB.out.lt), ?_, only_setCell (only_below (only_refl w (some R)) HG1.out) 0 _⟩
      rw [hW.out, hS.out]
      have hr := HRc.out
      rw [if_neg hcn] at hr
      have hr2 : Reads w B 1 (A.map (·.add n)) (L - n) (u8s (b.drop n)) := by simpa [u8s, List.map_drop] using hr
      refine ⟨⟨A.map (·.add n), c - n, ?_, ?_, ?_, ?_⟩, hBR⟩
      · rw [HDL.out]; exact HB1.out.set_ 0 _
      · rw [HDL.out]
        have hBw : B ≤ w.heap.size := by have := HB.out.lt; omega
        exact ((hr2.grown (row := none) (only_below (only_refl w none) HG1.out) hBw (fun g h => by cases h)).setCell hBR _)
      · rw [HDL.out]; omega
      · omega

theorem or_byte {F x : Nat} (hF : F ≤ 255) (hx : x < 256) : bits .or .i64 ((F : Int) * 256) (x : Int) = ((F * 256 + x : Nat) : Int) := by
  have e : ∀ a : Nat, a < 65536 → (BitVec.ofInt 64 (a : Int)).toNat = a := fun a h => by rw [BitVec.ofInt_natCast, BitVec.toNat_ofNat, Nat.mod_eq_of_lt (by omega)]
  have h1 : ((F : Int) * 256) = ((F * 256 : Nat) : Int) := by omega
  rw [h1]
  show IntKind.i64.wrap ((BitVec.ofInt 64 ((F * 256 : Nat) : Int) ||| BitVec.ofInt 64 (x : Int)).toNat : Int) = _
  rw [BitVec.toNat_or, e _ (by omega), e _ (by omega)]
  have h2 : F * 256 ||| x = F * 256 + x := by
    have := Nat.two_pow_add_eq_or_of_lt (i := 8) (b := x) (by simpa using hx) F
    rw [Nat.mul_comm F 256]; exact this.symm
  rw [h2, IntKind.wrap_i64]; omega
def numF (l : List Nat) : Nat := l.foldl (fun a c => a * 256 + c) 0
theorem takeV_len (n : Nat) (b : List Nat) : (takeV n b).length = n := by
  unfold takeV; split
  · simp
  · rw [List.length_take]; omega
theorem takeV_byte {n : Nat} {b : List Nat} (h : ∀ x ∈ b, x < 256) : ∀ x ∈ takeV n b, x < 256 := by
  unfold takeV; split
  · intro x hx; have := (List.mem_replicate.1 hx).2; omega
  · exact fun x hx => h x (List.mem_of_mem_take hx)

def NumPost (w : World) (B R n : Nat) (b : List Nat) (s : Bool) (v : Value) (e : Ending) (w' : World) : Prop :=
  e = .returned (.int .i64 (numF (takeV n b))) ∧ Rdr w' B R (restV n b) (shortV n b s) v ∧ w.grownBy w' (some R)

set_option maxRecDepth 100000 in
set_option maxHeartbeats 4000000 in
theorem number_any (B R n : Nat) (b : List Nat) (s : Bool) (v : Value) (w : World) (hn : n ≤ 2) (hby : ∀ x ∈ b, x < 256) (h : Rdr w B R b s v) :
    Calls Tryz.prog 21 #[.pointer (some ⟨R, 0, none⟩), .int .i64 n] w (NumPost w B R n b s v) := by
  have HT := Sl.mk (take_any B R n b s v w (by omega) h)
  have HY := Sl.mk (takeV_byte (n := n) hby)
  have HLN := Sl.mk (takeV_len n b)
  unfold TakePost at HT
  clear h hby
  go_enter Tryz.func21, Tryz.ntmps21
  go_wp2_with fail
  refine HT.out.mono ?_
  rintro e w1 ⟨A, c, rfl, ho, hR, hG⟩
  have HP := Sl.mk (And.intro hR hG)
  have HO := Sl.mk (Reads.of_own ho)
  obtain ⟨T, hT⟩ : ∃ T, takeV n b = T := ⟨_, rfl⟩
  have HTT := Sl.mk hT
  rw [hT] at HY HLN HO
  clear ho hR hG hT HT
  go_wp2_with fail
  go_loopw [5, 7, 12] (fun v5 _ v12 wr => ∃ i : Nat, i ≤ n ∧ v12 = .int .i64 i ∧ v5 = .int .i64 (numF (T.take i)) ∧ wr = w1) (fun _ _ v12 _ => n - (intOf v12).toNat)
  case atStart => exact ⟨0, Nat.zero_le _, rfl, rfl, rfl⟩
  case round =>
    obtain ⟨i, hi, rfl, rfl, rfl⟩ := hrel
    by_cases hil : i < n
    · obtain ⟨x, hx⟩ : ∃ x, T[i]? = some x := ⟨_, List.getElem?_eq_getElem (by rw [HLN.out]; exact hil)⟩
      obtain ⟨ad, rfl, hb, hcell⟩ := bytes_at HO.out hx
      have hx256 := HY.out x (List.mem_of_getElem? hx)
      have hF : numF (T.take (i + 1)) = numF (T.take i) * 256 + x := by rw [take_snoc' hx]; simp [numF]
      have hF255 : numF (T.take i) ≤ 255 := by
        have : i = 0 ∨ i = 1 := by omega
        rcases this with rfl | rfl
        · simp [numF]
        · match T, HLN.out, hil with
          | y :: _, _, _ => have := HY.out y (List.mem_cons_self ..); show 0 * 256 + y ≤ 255; omega
      obtain ⟨F, hFF⟩ : ∃ F, numF (T.take i) = F := ⟨_, rfl⟩
      rw [hFF] at hF hF255 ⊢
      have HF := Sl.mk hF
      clear hF hFF hx
      have hor := or_byte hF255 hx256
      go_wp2_with fail
      go_roundw
      case rel => exact ⟨i + 1, by omega, by go_num, by rw [HF.out]; go_num, trivial⟩
      case measure => simp [intOf]; omega
    · obtain rfl : i = n := by omega
      have ht : T.take i = T := List.take_of_length_le (by rw [HLN.out]; omega)
      rw [ht]
      clear ht
      go_wp2_with fail
      go_ret
      exact ⟨by rw [HTT.out]; rfl, HP.out⟩

end Go.Proofs.YticcphppnmoogaaGreatDoor
