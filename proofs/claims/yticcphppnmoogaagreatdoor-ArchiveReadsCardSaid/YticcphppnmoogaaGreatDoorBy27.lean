/-
  The contract of creelref12.seal.
  The contract of creelref06.Refusal: it is the program's.
  The contract of creelref12.Refused.
-/
import Derived.Test.YticcphppnmoogaaGreatDoorBy21
import Derived.Test.YticcphppnmoogaaGreatDoorBy16
import Derived.Test.YticcphppnmoogaaGreatDoorBy26
import Derived.Test.YticcphppnmoogaaGreatDoorBy4
import Derived.Test.YticcphppnmoogaaGreatDoorBy1

namespace Go.Proofs.YticcphppnmoogaaGreatDoor
open Go.RowKit
attribute [local go_sem ↓] Go.wp_at_zero Go.wp_at_succ

theorem refSize : (Tryz.prog.info? 64).map (·.size) = some 4 := by kernel_rfl
theorem bys_lt (s : ByteArray) : ∀ y ∈ bys s, y < 256 := fun y hy => by
  simp only [bys, List.mem_map] at hy
  obtain ⟨c, _, rfl⟩ := hy
  exact c.toNat_lt
theorem frame_lt {L : List (List Nat)} (h : ∀ l ∈ L, ∀ y ∈ l, y < 256) : ∀ y ∈ frameF L, y < 256 := fun y hy => by
  simp only [frameF, List.mem_flatMap, List.mem_append] at hy
  obtain ⟨l, hl, hy | hy⟩ := hy
  · simp only [len4, List.mem_map] at hy
    obtain ⟨i, _, rfl⟩ := hy
    exact Nat.mod_lt _ (by decide)
  · exact h l hl y hy

/-- What each operation of the reference's seal leaves. -/
def RSealP (B : Nat) (t : ByteArray) (d : List Nat) (k : Nat) (v : Value) (w : World) : Prop := match k with
  | 3 => v = .string t
  | 4 => ∃ g c, v = .slice (some ⟨g, 0, none⟩) t.size c ∧ RdS w (fun b => b < w.heap.size) (some ⟨g, 0, none⟩) (bys t)
  | 7 => ∃ g, v = .slice (some ⟨g, 0, none⟩) 2 2 ∧ RdSS w (fun b => b < w.heap.size) (some ⟨g, 0, none⟩) [bys t, d]
  | 8 => ∃ A c, v = .slice A (frameF [bys t, d]).length c ∧ RdS w (fun b => b < w.heap.size) A (frameF [bys t, d])
  | 9 => v = .agg (u8s (shaF (frameF [bys t, d]))).toArray
  | 10 => ∃ g, v = .pointer (some ⟨g, 0, none⟩) ∧ B ≤ g ∧ Blk w g 89 #[.int .u8 0, .int .u8 0, .int .u8 0, .int .u8 0, .int .u8 0, .int .u8 0, .int .u8 0, .int .u8 0, .int .u8 0, .int .u8 0, .int .u8 0, .int .u8 0, .int .u8 0, .int .u8 0, .int .u8 0, .int .u8 0, .int .u8 0, .int .u8 0, .int .u8 0, .int .u8 0, .int .u8 0, .int .u8 0, .int .u8 0, .int .u8 0, .int .u8 0, .int .u8 0, .int .u8 0, .int .u8 0, .int .u8 0, .int .u8 0, .int .u8 0, .int .u8 0]
  | _ => False

set_option maxRecDepth 100000 in
set_option maxHeartbeats 4000000 in
theorem rseal_any (x : Ex) (w : World) (hx : ExOk w w.heap.size x) (ht : (txtF x.e.path).size ≤ 5000) (hd5 : x.e.data.length ≤ 5000) :
    Calls Tryz.prog 25 #[.agg (i64s tabT).toArray, .agg (exC x).toArray] w fun e w' => ∃ g c, e = .returned (.slice (some ⟨g, 0, none⟩) 8 c) ∧ RdS w' (fun b => b < w'.heap.size) (some ⟨g, 0, none⟩) (sealF x.e) ∧ Below w.heap.size w w' := by
  obtain ⟨⟨p, k, m, d⟩, pa, pc, da, dc⟩ := x
  have HX := Sl.mk hx
  have HTS := Sl.mk (show (txtF p).size ≤ 5000 from ht)
  have HDS := Sl.mk (show d.length ≤ 5000 from hd5)
  have HDB := Sl.mk (show ∀ y ∈ d, y < 256 from hx.byte)
  obtain ⟨TT, hTT⟩ : ∃ TT, (i64s tabT).toArray = TT := ⟨_, rfl⟩
  rw [hTT]
  have HTT := Sl.mk hTT
  show Calls Tryz.prog 25 #[.agg TT, .agg #[.slice pa p.length pc, .int .i64 k, .int .i64 m, .slice da d.length dc]] w fun e w' => ∃ g c, e = .returned (.slice (some ⟨g, 0, none⟩) 8 c) ∧ RdS w' (fun b => b < w'.heap.size) (some ⟨g, 0, none⟩) ((shaF (frameF [bys (txtF p), d])).take 8) ∧ Below w.heap.size w w'
  have HE := Sl.mk (below_al (below_al (Below.refl w.heap.size w) (.cells TT 33)) (.cells #[.slice pa p.length pc, .int .i64 k, .int .i64 m, .slice da d.length dc] 64))
  clear hx ht hd5 hTT
  go_enter Tryz.func25, Tryz.ntmps25
  go_wp2_with fail
  obtain ⟨wd, hwd⟩ : ∃ wd, ((w.alloc (.cells TT 33)).alloc (.cells #[.slice pa p.length pc, .int .i64 k, .int .i64 m, .slice da d.length dc] 64)).drew = wd := ⟨_, rfl⟩
  have hEd : Below w.heap.size w wd := by rw [← hwd]; exact HE.out.drew
  have HBT := Sl.mk (show Blk wd w.heap.size 33 TT by rw [← hwd]; exact (Blk.new _ _ _).alloc _)
  have HBX := Sl.mk (show Blk wd (w.heap.size + 1) 64 #[.slice pa p.length pc, .int .i64 k, .int .i64 m, .slice da d.length dc] by rw [← hwd]; exact Blk.new' (by simp))
  have HSF : Sl (∀ W, Below wd.heap.size wd W → W.cell? ⟨w.heap.size + 1, 0, none⟩ = some (.slice pa p.length pc) ∧ W.cell? ⟨w.heap.size + 1, 3, none⟩ = some (.slice da d.length dc)) := Sl.mk (fun W hW =>
    ⟨(HBX.out.below hW HBX.out.lt).cell 0, (HBX.out.below hW HBX.out.lt).cell 3⟩)
  have HLV : Sl (∀ W, Below wd.heap.size wd W → (loadVar 33 ⟨w.heap.size, 0, none⟩).run Tryz.prog W = .ok (.agg TT) W) := Sl.mk (fun W hW => by
    rw [← HTT.out]
    exact run_loadVar_at W ⟨w.heap.size, 0, none⟩ 33 (i64s tabT) _ (fun j v hv => by rw [addr_add0, (HBT.out.below hW HBT.out.lt).cell j, ← HTT.out]; simpa using hv) Tryz.underlying33 rfl info45)
  refine wp_region_X (fun W => Below wd.heap.size wd W) [11] (by kernel_rfl) (by rw [hwd]; exact Below.refl _ _) (fun hS => ?_)
  rw [hwd] at hS ⊢
  clear hwd
  refine wpAnyX_S (i := 0) (v := .agg TT) rfl (by kernel_rfl) (by kernel_rfl) (by kernel_rfl) (by kernel_rfl) (fun _ _ _ h => h) (yieldsIf_loadA (by rfl) 33 (.tmp 2) rfl ⟨w.heap.size, 0, none⟩ _ rfl (fun w' hw' => HLV.out w' hw')) hS ?_
  simp only [Act.put, List.setIfInBounds_toArray, List.set_cons_zero, List.set_cons_succ]
  refine wpAnyX_S (i := 1) (v := ?_) rfl (by kernel_rfl) (by kernel_rfl) (by kernel_rfl) (by kernel_rfl) (fun _ _ _ h => h) (Or.inl ⟨by rfl, ?_⟩) hS ?_
  rotate_left 1
  · (intro w' hw'; (first | rw [hw'] | (have hw2 := HSF.out w' hw') | skip); go_simp; (try with_reducible rfl))
  simp only [Act.put, List.setIfInBounds_toArray, List.set_cons_zero, List.set_cons_succ]
  refine wpAnyX_S (i := 2) (v := ?_) rfl (by kernel_rfl) (by kernel_rfl) (by kernel_rfl) (by kernel_rfl) (fun _ _ _ h => h) (Or.inl ⟨by rfl, ?_⟩) hS ?_
  rotate_left 1
  · (intro w' hw'; (first | rw [hw'] | (have hw2 := HSF.out w' hw') | skip); go_simp; (try with_reducible rfl))
  simp only [Act.put, List.setIfInBounds_toArray, List.set_cons_zero, List.set_cons_succ]
  refine wpAnyX_S (i := 5) (v := ?_) rfl (by kernel_rfl) (by kernel_rfl) (by kernel_rfl) (by kernel_rfl) (fun _ _ _ h => h) (Or.inl ⟨by rfl, ?_⟩) hS ?_
  rotate_left 1
  · (intro w' hw'; (first | rw [hw'] | (have hw2 := HSF.out w' hw') | skip); go_simp; (try with_reducible rfl))
  simp only [Act.put, List.setIfInBounds_toArray, List.set_cons_zero, List.set_cons_succ]
  refine wpAnyX_S (i := 6) (v := ?_) rfl (by kernel_rfl) (by kernel_rfl) (by kernel_rfl) (by kernel_rfl) (fun _ _ _ h => h) (Or.inl ⟨by rfl, ?_⟩) hS ?_
  rotate_left 1
  · (intro w' hw'; (first | rw [hw'] | (have hw2 := HSF.out w' hw') | skip); go_simp; (try with_reducible rfl))
  simp only [Act.put, List.setIfInBounds_toArray, List.set_cons_zero, List.set_cons_succ]
  refine wpAnyX_web [3, 4, 7, 8, 9, 10] (fun k => if k = 10 then 5 else k + 6) (fun k => if k = 4 then [3] else if k = 7 then [4] else if k = 8 then [7] else if k = 9 then [8] else []) (RSealP w.heap.size (txtF p) d) _ _ 17 1 (by kernel_rfl) (by decide) (by decide) (by kernel_rfl) (by rfl) (by decide) ?_ ?_ ?_ _ hS
  · intro k hk v W W' _ hP hb
    simp only [List.mem_cons, List.not_mem_nil, or_false] at hk
    rcases hk with rfl | rfl | rfl | rfl | rfl | rfl
    · exact hP
    · obtain ⟨g, c, rfl, h⟩ := hP
      exact ⟨g, c, rfl, rds_lt h hb⟩
    · obtain ⟨g, rfl, h⟩ := hP
      exact ⟨g, rfl, rdss_lt h hb⟩
    · obtain ⟨A, c, rfl, h⟩ := hP
      exact ⟨A, c, rfl, rds_lt h hb⟩
    · exact hP
    · obtain ⟨g, rfl, hg, h⟩ := hP
      exact ⟨g, rfl, hg, h.below hb h.lt⟩
  · intro k hk a W σ hW hag hdep
    simp only [List.mem_cons, List.not_mem_nil, or_false] at hk
    have hx' := HX.out.be (below_tr hEd hW)
    have e6 : a.tmps[6]?.getD undef = .agg TT := ev_at ((hag 6 (by decide)).trans rfl)
    have e8 : a.tmps[8]?.getD undef = .slice pa p.length pc := ev_at ((hag 8 (by decide)).trans rfl)
    have e12 : a.tmps[12]?.getD undef = .slice da d.length dc := ev_at ((hag 12 (by decide)).trans rfl)
    rcases hk with rfl | rfl | rfl | rfl | rfl | rfl
    all_goals simp only [List.getElem?_cons_succ, List.getElem?_cons_zero, Option.getD_some]
    · refine wp_of_call (f := 34) (args := #[.slice pa p.length pc]) (by go_simp) (rtext_any pa p.length pc p W (by have := hx'.plen; simp only at this; omega) hx'.slen hx'.path) (fun e w1 hq => ?_)
      obtain ⟨rfl, rfl⟩ := hq
      exact ⟨_, rfl, _, rfl, Below.refl _ _, rfl⟩
    · obtain ⟨e9, h9⟩ := hdep 3 (by decide)
      have e9 : a.tmps[9]?.getD undef = .string (txtF p) := ev_at (e9.trans h9)
      have hcv := conv_bys (txtF p) W
      exact wp_of_run (by go_simp; rfl) ⟨_, rfl, bys_below _ _, _, _, rfl, bys_reads _ _⟩
    · obtain ⟨e10, g, c, h10, hr⟩ := hdep 4 (by decide)
      have e10 : a.tmps[10]?.getD undef = .slice (some ⟨g, 0, none⟩) (txtF p).size c := ev_at (e10.trans h10)
      refine wp_of_run (v := .slice (some ⟨W.heap.size, 0, none⟩) 2 2) (w' := W.alloc (.cells #[.slice (some ⟨g, 0, none⟩) (txtF p).size c, .slice da d.length dc] 22)) (by go_simp) ⟨_, rfl, below_al (Below.refl _ _) _, _, rfl, ?_⟩
      have hb := below_al (Below.refl W.heap.size W) (.cells #[.slice (some ⟨g, 0, none⟩) (txtF p).size c, .slice da d.length dc] 22)
      have hB := Blk.new W 22 #[.slice (some ⟨g, 0, none⟩) (txtF p).size c, .slice da d.length dc]
      rw [← bys_len] at hB hb ⊢
      exact rdss_two hB hB.lt (rds_lt hr hb) (rds_lt (rds_of_reads hx'.data) hb)
    · obtain ⟨e13, g, h13, hr⟩ := hdep 7 (by decide)
      have e13 : a.tmps[13]?.getD undef = .slice (some ⟨g, 0, none⟩) 2 2 := ev_at (e13.trans h13)
      refine wp_of_call (f := 44) (args := #[.slice (some ⟨g, 0, none⟩) 2 2]) (by go_simp) (frame_any (some ⟨g, 0, none⟩) 2 [bys (txtF p), d] (fun b => b < W.heap.size) W ?_ (by simp) hr (fun _ h => h)) (fun e w1 hq => ?_)
      · intro l hl
        simp only [List.mem_cons, List.not_mem_nil, or_false] at hl
        rcases hl with rfl | rfl
        · rw [bys_len]; have := HTS.out; omega
        · have := HDS.out; omega
      · obtain ⟨v, rfl, ho, hB⟩ := hq
        obtain ⟨A, c, rfl, -, hr2⟩ := rds_own ho
        exact ⟨_, rfl, _, rfl, hB, A, c, rfl, hr2⟩
    · obtain ⟨e14, A, c, h14, hr⟩ := hdep 8 (by decide)
      have e14 : a.tmps[14]?.getD undef = .slice A (frameF [bys (txtF p), d]).length c := ev_at (e14.trans h14)
      have hcall := rsum_any A c (frameF [bys (txtF p), d]) (fun b => b < W.heap.size) W ?_ ?_ hr (fun _ h => h)
      · rw [HTT.out] at hcall
        refine wp_of_call (f := 43) (args := #[.agg TT, .slice A (frameF [bys (txtF p), d]).length c]) (by go_simp) hcall (fun e w1 hq => ?_)
        obtain ⟨rfl, hB⟩ := hq
        exact ⟨_, rfl, _, rfl, hB, rfl⟩
      · have := HDS.out
        have := HTS.out
        simp only [frameF, len4, List.flatMap_cons, List.flatMap_nil, List.length_append, List.length_map, List.length_range, bys_len, List.length_nil] at *
        omega
      · refine frame_lt fun l hl => ?_
        simp only [List.mem_cons, List.not_mem_nil, or_false] at hl
        rcases hl with rfl | rfl
        · exact bys_lt _
        · exact HDB.out
    · exact wp_of_run (v := .pointer (some ⟨W.heap.size, 0, none⟩)) (w' := W.alloc (.cells #[.int .u8 0, .int .u8 0, .int .u8 0, .int .u8 0, .int .u8 0, .int .u8 0, .int .u8 0, .int .u8 0, .int .u8 0, .int .u8 0, .int .u8 0, .int .u8 0, .int .u8 0, .int .u8 0, .int .u8 0, .int .u8 0, .int .u8 0, .int .u8 0, .int .u8 0, .int .u8 0, .int .u8 0, .int .u8 0, .int .u8 0, .int .u8 0, .int .u8 0, .int .u8 0, .int .u8 0, .int .u8 0, .int .u8 0, .int .u8 0, .int .u8 0, .int .u8 0] 89)) (by go_simp) ⟨_, rfl, below_al (Below.refl _ _) _, _, rfl, (below_tr hEd hW).size, Blk.new _ _ _⟩
  · intro σ W hW hP
    obtain ⟨g, h10, hgw, hB⟩ := hP 10 (by decide)
    have h9 : σ 9 = .agg (u8s (shaF (frameF [bys (txtF p), d]))).toArray := hP 9 (by decide)
    have hEW := below_tr hEd hW
    simp only [putL, List.foldl]
    rw [h9, h10]
    simp only [Nat.reduceEqDiff, if_true, if_false, Nat.reduceAdd]
    simp only [Act.put, List.setIfInBounds_toArray, List.set_cons_zero, List.set_cons_succ]
    have h32 : (u8s (shaF (frameF [bys (txtF p), d]))).length = 32 := by rw [u8s_len, shaF_len]
    obtain ⟨D, hD⟩ : ∃ D, shaF (frameF [bys (txtF p), d]) = D := ⟨_, rfl⟩
    rw [hD] at h32 ⊢
    have hD32 : D.length = 32 := by rw [← hD, shaF_len]
    refine wpAnyX_tailF [11] (by kernel_rfl) (by rfl) (by rfl) (by rfl) ?_
    simp only [List.filterMap_cons, List.filterMap_nil, List.getElem?_cons_succ, List.getElem?_cons_zero]
    refine wpList_store_all rfl 89 (.tmp 5) (.tmp 15) rfl g 89 #[.int .u8 0, .int .u8 0, .int .u8 0, .int .u8 0, .int .u8 0, .int .u8 0, .int .u8 0, .int .u8 0, .int .u8 0, .int .u8 0, .int .u8 0, .int .u8 0, .int .u8 0, .int .u8 0, .int .u8 0, .int .u8 0, .int .u8 0, .int .u8 0, .int .u8 0, .int .u8 0, .int .u8 0, .int .u8 0, .int .u8 0, .int .u8 0, .int .u8 0, .int .u8 0, .int .u8 0, .int .u8 0, .int .u8 0, .int .u8 0, .int .u8 0, .int .u8 0].toList (u8s D) hB rfl rfl (by rw [h32]; rfl) (by rw [h32]; exact digInfoQ) (u8s_one _) ?_
    intro w2 hB2 hG hsz
    have hE2 := hEW.grown hG hEW.size (fun g' h' => by injection h' with h'; omega)
    have HR := Sl.mk (show RdS w2 (fun b => b < w2.heap.size) (some ⟨g, 0, none⟩) (D.take 8) from rd_cells hB2.lt (fun j hj => by
      rw [hB2.cell j]
      rw [List.length_take] at hj
      have : j < D.length := by omega
      simp [u8s, this]
      rw [List.getElem?_take_of_lt (by omega)]
      simp [this]))
    have hlt := hB2.lt
    have HDD := Sl.mk hD
    clear hD hP h9 h10 hB hB2 hG hgw HSF HBX HBT HLV HX HE HTT hEW hW
    go_wp2_with fail
    refine NoPanic.normal ?_
    go_wp2_with fail
    go_ret
    exact ⟨g, _, rfl, by rw [HDD.out]; exact HR.out, hE2⟩

end Go.Proofs.YticcphppnmoogaaGreatDoor

namespace Go.Proofs.YticcphppnmoogaaGreatDoor
open Go.RowKit

theorem refcheck_any (k m o g : Int) (w : World) :
    Calls Tryz.prog 55 #[.agg #[.int .i64 k, .int .i64 m, .int .i64 o, .int .i64 g]] w fun e w' => e = .returned (.int .i64 (chk k m o g)) ∧ Below w.heap.size w w' := by
  go_enter Tryz.func55, Tryz.ntmps55
  go_wp2
  all_goals go_ret
  all_goals exact ⟨ret_int (by unfold chk bel; simp only [decide_eq_false_iff_not]; (repeat' split) <;> omega), below_al (Below.refl _ _) _⟩
theorem chk_m {k m o g : Int} (h : chk k m o g = 0) : 0 ≤ m ∧ m < 4096 := by
  unfold chk at h
  by_cases h1 : bel k 5 = false
  · simp [h1] at h
  by_cases h2 : bel m 4096 = false
  · simp [h1, h2] at h
  simpa [bel] using h2
theorem digit0 (m : Int) (w : World) (h0 : 0 ≤ m) (h1 : m < 4096) :
    Calls Tryz.prog 56 #[.int .i64 m, .int .i64 0] w fun e w' => e = .returned (.int .i64 (m / 512 % 8)) ∧ Below w.heap.size w w' := by
  go_enter Tryz.func56, Tryz.ntmps56
  go_wp2
  go_ret
  exact ⟨rfl, below_al (Below.refl _ _) _⟩
theorem digit2 (m : Int) (w : World) (h0 : 0 ≤ m) (h1 : m < 4096) :
    Calls Tryz.prog 56 #[.int .i64 m, .int .i64 2] w fun e w' => e = .returned (.int .i64 (m / 8 % 8)) ∧ Below w.heap.size w w' := by
  go_enter Tryz.func56, Tryz.ntmps56
  go_wp2
  go_ret
  exact ⟨rfl, below_al (Below.refl _ _) _⟩
theorem digit3 (m : Int) (w : World) (h0 : 0 ≤ m) (h1 : m < 4096) :
    Calls Tryz.prog 56 #[.int .i64 m, .int .i64 3] w fun e w' => e = .returned (.int .i64 (m % 8)) ∧ Below w.heap.size w w' := by
  go_enter Tryz.func56, Tryz.ntmps56
  go_wp2
  go_ret
  exact ⟨ret_int (by simp), below_al (Below.refl _ _) _⟩
def hasP (d x : Int) : Bool := !(x / 4 % 2 == 1 && d / 4 % 2 == 0) && (!(x / 2 % 2 == 1 && d / 2 % 2 == 0) && !(x % 2 == 1 && d % 2 == 0))
set_option maxHeartbeats 1000000 in
theorem has_any (d x : Int) (w : World) (h0 : 0 ≤ d) (h1 : d < 8) (h2 : 0 ≤ x) (h3 : x < 8) :
    Calls Tryz.prog 57 #[.int .i64 d, .int .i64 x] w fun e w' => e = .returned (.bool (hasP d x)) ∧ w = w' := by
  go_enter Tryz.func57, Tryz.ntmps57
  go_wp2
  refine wp_loop_rounds 4 ?_
  rw [rounds_succ]
  go_wp2
  all_goals try (rw [rounds_succ]; go_wp2)
  all_goals try (rw [rounds_succ]; go_wp2)
  all_goals try (rw [rounds_succ]; go_wp2)
  all_goals go_ret
  all_goals exact ⟨ret_bool (by unfold hasP; simp [*]), rfl⟩
theorem bits_plain : ∀ a b : Fin 64, andB ((64 * a.val + b.val : Nat) : Int) 3072 = decide (1 < ((64 * a.val + b.val : Nat) : Int) / 512 % 8) ∧
    andB ((64 * a.val + b.val : Nat) : Int) 18 = (hasP (((64 * a.val + b.val : Nat) : Int) / 8 % 8) 2 || hasP (((64 * a.val + b.val : Nat) : Int) % 8) 2) := by decide +kernel
theorem bits_plain' {m : Int} (h0 : 0 ≤ m) (h1 : m < 4096) : andB m 3072 = decide (1 < m / 512 % 8) ∧ andB m 18 = (hasP (m / 8 % 8) 2 || hasP (m % 8) 2) := by
  obtain ⟨n, rfl⟩ := Int.eq_ofNat_of_zero_le h0
  have h := bits_plain ⟨n / 64, by omega⟩ ⟨n % 64, by omega⟩
  have e2 : 64 * (n / 64) + n % 64 = n := Nat.div_add_mod n 64
  simp only [e2] at h
  exact h
set_option maxHeartbeats 2000000 in
theorem refrefusal_any (k m o g : Int) (w : World) :
    Calls Tryz.prog 41 #[.agg #[.int .i64 k, .int .i64 m, .int .i64 o, .int .i64 g]] w fun e w' => e = .returned (.int .i64 (refu k m o g)) ∧ Below w.heap.size w w' := by
  by_cases h : chk k m o g = 0
  · have hc : (chk k m o g != 0) = false := by simpa using h
    have hk := chk_k h
    obtain ⟨hm0, hm1⟩ := chk_m h
    obtain ⟨q1, q2⟩ := bits_plain' hm0 hm1
    have hr : refu k m o g = if k = 3 then 17 else if k = 4 then 17 else if andB m 3072 || ((k == 0 || k == 1) && andB m 18) then 11 else 0 := if_pos h
    rw [q1, q2] at hr
    have HR := hide hr
    clear h hr q1 q2
    have hk5 : k = 0 ∨ k = 1 ∨ k = 2 ∨ k = 3 ∨ k = 4 := by omega
    clear hk
    rcases hk5 with rfl | rfl | rfl | rfl | rfl
    all_goals
      cases e1 : decide (1 < m / 512 % 8)
      all_goals
        cases e2 : hasP (m / 8 % 8) 2
        all_goals
          cases e3 : hasP (m % 8) 2
          all_goals
            have HE := hide (And.intro e1 (And.intro e2 e3))
            go_enter Tryz.func41, Tryz.ntmps41
            go_wp2_with fail
            refine (refcheck_any _ _ _ _ _).mono ?_
            rintro e w1 ⟨rfl, hb⟩
            have hK := ((Keep.start w).new 87 _).be hb
            clear hb
            obtain ⟨c0, c1, c2, c3⟩ := hK.b0.c4
            go_wp2_with fail
            first
              | (go_ret; exact ⟨ret_int (by rw [HR.out, HE.out.1, HE.out.2.1, HE.out.2.2]; rfl), hK.1⟩)
              | skip
            all_goals
              refine (digit0 _ _ hm0 hm1).mono ?_
              rintro e w2 ⟨rfl, hb⟩
              have hK2 := hK.be hb
              clear hb hK
              obtain ⟨c0, c1, c2, c3⟩ := hK2.b0.c4
              go_wp2_with fail
              first
                | (go_ret; exact ⟨ret_int (by rw [HR.out, HE.out.1, HE.out.2.1, HE.out.2.2]; rfl), hK2.1⟩)
                | skip
              all_goals
                refine (digit2 _ _ hm0 hm1).mono ?_
                rintro e w3 ⟨rfl, hb⟩
                have hK3 := hK2.be hb
                clear hb hK2
                obtain ⟨c0, c1, c2, c3⟩ := hK3.b0.c4
                go_wp2_with fail
                refine (has_any _ _ _ (by omega) (by omega) (by omega) (by omega)).mono ?_
                rintro e w4 ⟨rfl, rfl⟩
                go_wp2_with fail
                first
                  | (go_ret; exact ⟨ret_int (by rw [HR.out, HE.out.1, HE.out.2.1, HE.out.2.2]; rfl), hK3.1⟩)
                  | skip
                all_goals
                  refine (digit3 _ _ hm0 hm1).mono ?_
                  rintro e w5 ⟨rfl, hb⟩
                  have hK4 := hK3.be hb
                  clear hb hK3
                  go_wp2_with fail
                  refine (has_any _ _ _ (by omega) (by omega) (by omega) (by omega)).mono ?_
                  rintro e w6 ⟨rfl, rfl⟩
                  go_wp2_with fail
                  go_ret
                  exact ⟨ret_int (by rw [HR.out, HE.out.1, HE.out.2.1, HE.out.2.2]; rfl), hK4.1⟩
  · have hr : refu k m o g = chk k m o g := if_neg h
    have hc : (chk k m o g != 0) = true := by simpa using h
    have HR := hide hr
    clear h hr
    go_enter Tryz.func41, Tryz.ntmps41
    go_wp2_with (go_at_call 55; refine (refcheck_any _ _ _ _ _).mono ?_; rintro e w1 ⟨rfl, hb⟩)
    go_ret
    exact ⟨ret_int HR.out.symm, below_tr (below_al (Below.refl _ _) _) hb⟩

end Go.Proofs.YticcphppnmoogaaGreatDoor

namespace Go.Proofs.YticcphppnmoogaaGreatDoor
open Go.RowKit
attribute [local go_sem ↓] Go.wp_at_zero Go.wp_at_succ

theorem refu_02 {k m : Int} (hk : k = 0 ∨ k = 1 ∨ k = 2) : refu k m 0 0 = 0 ∨ refu k m 0 0 = 11 := by
  by_cases h : chk k m 0 0 = 0
  · have hr : refu k m 0 0 = if k = 3 then 17 else if k = 4 then 17 else if andB m 3072 || ((k == 0 || k == 1) && andB m 18) then 11 else 0 := if_pos h
    rw [hr, if_neg (by omega), if_neg (by omega)]
    split
    · exact .inr rfl
    · exact .inl rfl
  · have hr : refu k m 0 0 = chk k m 0 0 := if_neg h
    rw [hr]
    have h1 : bel k 5 = true := by rcases hk with rfl | rfl | rfl <;> rfl
    have h2 : bel (0 : Int) 65536 = true := rfl
    unfold chk at h ⊢
    rw [h1, h2] at h ⊢
    simp only [Bool.true_eq_false, if_false] at h ⊢
    split
    · exact .inr rfl
    · exact .inl rfl
theorem lead_nil (fr : List ByteArray) : leadE fr ⟨#[]⟩ ≠ 0 := by
  unfold leadE
  split
  · decide
  · rename_i h1
    have h : leadR fr ⟨#[]⟩ = none := by
      unfold leadR
      rw [if_neg (by rintro (h | h); exact h1 h; revert h; decide)]
      have hq : partsF (cutF ⟨#[]⟩) = [⟨#[]⟩] := by decide +kernel
      rw [hq]
      generalize (if isAbs ⟨#[]⟩ = true then [] else fr) = z
      have hs : stepF z ⟨#[]⟩ = none := by
        have e1 : (⟨#[]⟩ : ByteArray).toList = [] := by decide +kernel
        have e2 : nameB ⟨#[]⟩ = false := by decide +kernel
        unfold stepF
        rw [e1, e2, if_neg (by simp), if_neg (by simp), if_neg (by simp)]
      rw [leadL, hs]
    rw [h]
    split <;> simp
theorem abs_strN {d : List Nat} {b : Nat} (h : d[0]? = some b) (hb : ∀ x ∈ d, x < 256) : isAbs (strN d) = (b == 47) := by
  cases d with
  | nil => cases h
  | cons c d =>
    simp at h
    subst h
    have hc : c < 256 := hb c (List.mem_cons_self ..)
    unfold isAbs Lib.hasPrefix strN
    simp only [List.map_cons, List.isPrefixOf, Bool.and_true]
    rw [Bool.eq_iff_iff]
    simp only [beq_iff_eq]
    constructor
    · intro e
      have := congrArg UInt8.toNat e
      rw [UInt8.toNat_ofNat', Nat.mod_eq_of_lt hc] at this
      exact this.symm
    · intro e; subst e; rfl

set_option maxRecDepth 100000 in
set_option maxHeartbeats 8000000 in
theorem rrefused_any (x : Ex) (A : Option Addr) (n c : Nat) (l : List Ex) (w : World) (hx : ExOk w w.heap.size x) (hn : n ≤ 1000000) (hL : Exs w A n l) :
    Calls Tryz.prog 24 #[.agg (exC x).toArray, .slice A n c] w fun e w' => e = .returned (.int .i64 (refusedE x.e l)) ∧ Below w.heap.size w w' := by
  obtain ⟨⟨p, k, m, d⟩, pa, pc, da, dc⟩ := x
  have hpl : p.length ≤ 100 := hx.plen
  have hpc : p.length ≤ pc ∧ pc ≤ 9223372036854775807 := hx.pcap
  have HPS := Sl.mk (show ∀ s ∈ p, s.size ≤ 1000 from hx.slen)
  have hdl : d.length ≤ 100000 := hx.dlen
  have HBY := Sl.mk (show ∀ b ∈ d, b < 256 from hx.byte)
  have HP := Sl.mk (show Reads w w.heap.size 1 pa p.length (strV p) from hx.path)
  have HD := Sl.mk (show Reads w w.heap.size 1 da d.length (u8s d) from hx.data)
  have HL := Sl.mk hL
  clear hx hL
  show Calls Tryz.prog 24 #[.agg #[.slice pa p.length pc, .int .i64 k, .int .i64 m, .slice da d.length dc], .slice A n c] w fun e w' => e = .returned (.int .i64 (refusedE ⟨p, k, m, d⟩ l)) ∧ Below w.heap.size w w'
  obtain ⟨dl, hdle⟩ : ∃ dl, d.length = dl := ⟨_, rfl⟩
  obtain ⟨pl, hple⟩ : ∃ pl, p.length = pl := ⟨_, rfl⟩
  rw [hple] at HP hpl hpc ⊢
  rw [hdle] at HD hdl ⊢
  have HDL := Sl.mk hdle
  have HPL := Sl.mk hple
  have Hno := Sl.mk (show ∀ j, j < 0 → chkE ⟨p, k, m, d⟩ l j = 0 from fun j hj => absurd hj (by omega))
  obtain ⟨w0, hw0⟩ : ∃ w0, w.alloc (.cells #[.slice pa pl pc, .int .i64 k, .int .i64 m, .slice da dl dc] 64) = w0 := ⟨_, rfl⟩
  have hX : Blk w0 w.heap.size 64 #[.slice pa pl pc, .int .i64 k, .int .i64 m, .slice da dl dc] := by rw [← hw0]; exact Blk.new _ _ _
  have hE : Below w.heap.size w w0 := by rw [← hw0]; exact below_al (Below.refl _ _) _
  have HRT := Sl.mk (rright_any pa pl pc p w0 (by omega) (fun s hs => Nat.le_trans (HPS.out s hs) (by omega)) ((HP.out.below hE).more hE.size))
  clear hdle hple
  have c0 := hX.cell 0
  go_enter Tryz.func24, Tryz.ntmps24
  go_wp2_with fail
  refine HRT.out.mono ?_
  rintro e w1 ⟨rfl, q1, hw1⟩
  have hX1 : Blk w1 w.heap.size 64 #[.slice pa pl pc, .int .i64 k, .int .i64 m, .slice da dl dc] := by rw [hw1]; exact hX.drewN q1
  have hE1 : Below w.heap.size w w1 := by rw [hw1]; exact below_drN hE q1
  clear hw0 hw1 hX hE c0 HRT
  have c0 := hX1.cell 0
  cases eR : rightB p
  · have HF := Sl.mk (ref_bad (e := ⟨p, k, m, d⟩) (l := l) (i := 0) Hno.out (by show ¬ pathsE p = 0; unfold pathsE; rw [if_pos eR]; decide) (by omega))
    have HF2 := Sl.mk (HF.out.trans (show pathsE p = 10 by unfold pathsE; rw [if_pos eR]))
    clear eR
    go_wp2_with fail
    go_ret
    exact ⟨by rw [HF2.out]; rfl, hE1⟩
  by_cases hp0 : pl = 0
  · have HF2 := Sl.mk (show pathsE p = 10 by unfold pathsE; rw [if_neg (by rw [eR]; decide), if_pos (List.eq_nil_of_length_eq_zero (by rw [HPL.out]; exact hp0))])
    have HF := Sl.mk ((ref_bad (e := ⟨p, k, m, d⟩) (l := l) (i := 0) Hno.out (by show ¬ pathsE p = 0; rw [HF2.out]; decide) (by omega)).trans HF2.out)
    have hp0' : ((pl : Int) == 0) = true := by simpa using hp0
    clear eR hp0
    go_wp2_with fail
    go_ret
    exact ⟨by rw [HF.out]; rfl, hE1⟩
  have hp0' : ((pl : Int) == 0) = false := by simpa using hp0
  have HTX := Sl.mk (rtext_any pa pl pc p w1 (by omega) HPS.out ((HP.out.below hE1).more hE1.size))
  have hts := txt_len (p := p) (by rw [HPL.out]; omega) HPS.out
  have HPE : Sl (pathsE p = if 160 < (txtF p).size then 10 else 0) := ⟨by unfold pathsE; rw [if_neg (by rw [eR]; decide), if_neg (fun e => hp0 (by rw [← HPL.out, e]; rfl))]⟩
  obtain ⟨T, hT⟩ : ∃ T, txtF p = T := ⟨_, rfl⟩
  rw [hT] at HTX HPE hts
  clear hT
  by_cases h160 : 160 < T.size
  · have HF2 := Sl.mk (HPE.out.trans (if_pos h160))
    have HF := Sl.mk ((ref_bad (e := ⟨p, k, m, d⟩) (l := l) (i := 0) Hno.out (by show ¬ pathsE p = 0; rw [HF2.out]; decide) (by omega)).trans HF2.out)
    have h160' : (160 : Int) < (T.size : Int) := by omega
    clear eR hp0 h160
    go_wp2_with fail
    refine HTX.out.mono ?_
    rintro e w2 ⟨rfl, rfl⟩
    go_wp2_with fail
    go_ret
    exact ⟨by rw [HF.out]; rfl, hE1⟩
  have H1 := Sl.mk (chk_step Hno.out (show chkE ⟨p, k, m, d⟩ l 0 = 0 from HPE.out.trans (if_neg h160)))
  have h160' : ¬ (160 : Int) < (T.size : Int) := by omega
  have c1 := hX1.cell 1
  have c2 := hX1.cell 2
  have c3 := hX1.cell 3
  clear eR h160 Hno HPE
  by_cases hk : k = 0 ∨ k = 1 ∨ k = 2
  rotate_left 1
  · have HF2 := Sl.mk (show kindE k = 17 by unfold kindE; rw [if_neg (by omega), if_neg (by omega), if_neg (by omega)])
    have HF := Sl.mk ((ref_bad (e := ⟨p, k, m, d⟩) (l := l) (i := 1) H1.out (by show ¬ kindE k = 0; rw [HF2.out]; decide) (by omega)).trans HF2.out)
    clear hp0
    rcases (show k < 0 ∨ 2 < k by omega) with hk0 | hk2
    · clear hk
      go_wp2_with fail
      refine HTX.out.mono ?_
      rintro e w2 ⟨rfl, rfl⟩
      go_wp2_with fail
      go_ret
      exact ⟨by rw [HF.out]; rfl, hE1⟩
    · have hk0 : ¬ k < 0 := by omega
      clear hk
      go_wp2_with fail
      refine HTX.out.mono ?_
      rintro e w2 ⟨rfl, rfl⟩
      go_wp2_with fail
      go_ret
      exact ⟨by rw [HF.out]; rfl, hE1⟩
  have hk0 : 0 ≤ k := by omega
  have hk2 : k ≤ 2 := by omega
  have H2 := Sl.mk (chk_step H1.out (show chkE ⟨p, k, m, d⟩ l 1 = 0 by show kindE k = 0; unfold kindE; rcases hk with rfl | rfl | rfl <;> rfl))
  have HRF := Sl.mk (refrefusal_any k m 0 0 w1)
  have HR02 := Sl.mk (refu_02 (m := m) hk)
  by_cases hz : refu k m 0 0 = 0
  rotate_left 1
  · have HF2 : Sl (refu k m 0 0 = 11) := ⟨HR02.out.resolve_left hz⟩
    have HF := Sl.mk ((ref_bad (e := ⟨p, k, m, d⟩) (l := l) (i := 2) H2.out hz (by omega)).trans HF2.out)
    rw [HF2.out] at HRF
    clear hp0 hk hz
    go_wp2_with fail
    refine HTX.out.mono ?_
    rintro e w2 ⟨rfl, rfl⟩
    go_wp2_with fail
    refine HRF.out.mono ?_
    rintro e w3 ⟨rfl, hB3⟩
    go_wp2_with fail
    go_ret
    exact ⟨by rw [HF.out]; rfl, below_tr hE1 hB3⟩
  have H3 := Sl.mk (chk_step H2.out (show chkE ⟨p, k, m, d⟩ l 2 = 0 from hz))
  rw [hz] at HRF
  have HKK := Sl.mk hk
  clear hz HR02 hk H1 H2
  go_wp2_with fail
  refine HTX.out.mono ?_
  rintro e w2 ⟨rfl, rfl⟩
  go_wp2_with fail
  refine HRF.out.mono ?_
  rintro e w3 ⟨rfl, hB3⟩
  have hX3 := hX1.be hB3
  have hE3 := below_tr hE1 hB3
  clear hX1 hE1 hB3 HTX HRF c0 c1 c2 c3 hp0' hp0
  have c0 := hX3.cell 0
  have c1 := hX3.cell 1
  have c2 := hX3.cell 2
  have c3 := hX3.cell 3
  by_cases h1d : k = 1 ∧ 0 < dl
  · obtain ⟨rfl, hdp⟩ := h1d
    have HF2 := Sl.mk (show sizeE 1 d.length = 3 by unfold sizeE; rw [if_pos ⟨rfl, by rw [HDL.out]; exact hdp⟩])
    have HF := Sl.mk ((ref_bad (e := ⟨p, 1, m, d⟩) (l := l) (i := 3) H3.out (by show ¬ sizeE 1 d.length = 0; rw [HF2.out]; decide) (by omega)).trans HF2.out)
    have hdp' : (0 : Int) < (dl : Int) := by omega
    go_wp2_with fail
    go_ret
    exact ⟨by rw [HF.out]; rfl, hE3⟩
  have HSE : Sl (sizeE k d.length = if 512 < dl then 2 else 0) := ⟨by unfold sizeE; rw [HDL.out, if_neg (fun h => h1d ⟨h.1, h.2⟩)]⟩
  go_upto_region 7 with fail
  go_cut [48] (fun v48 wx => v48 = .bool false ∧ wx = w3)
  case first =>
    by_cases hk1 : k = 1
    · subst hk1
      have hd0 : decide (0 < dl) = false := decide_eq_false fun h => h1d ⟨rfl, h⟩
      clear h1d
      go_wp2_with fail
      go_meet
      first | exact ⟨rfl, rfl⟩ | exact ⟨rfl, trivial⟩ | exact ⟨trivial, rfl⟩ | exact ⟨trivial, trivial⟩
    · have hk1' : (k == 1) = false := by simpa using hk1
      clear h1d hk1
      go_wp2_with fail
      go_meet
      first | exact ⟨rfl, rfl⟩ | exact ⟨rfl, trivial⟩ | exact ⟨trivial, rfl⟩ | exact ⟨trivial, trivial⟩
  case rest =>
    obtain ⟨rfl, rfl⟩ := hcut
    clear h1d
    by_cases h512 : 512 < dl
    · have HF2 := Sl.mk (HSE.out.trans (if_pos h512))
      have HF := Sl.mk ((ref_bad (e := ⟨p, k, m, d⟩) (l := l) (i := 3) H3.out (by show ¬ sizeE k d.length = 0; rw [HF2.out]; decide) (by omega)).trans HF2.out)
      have h512' : (512 : Int) < (dl : Int) := by omega
      clear h512
      go_wp2_with fail
      go_ret
      exact ⟨by rw [HF.out]; rfl, hE3⟩
    have H4 := Sl.mk (chk_step H3.out (show chkE ⟨p, k, m, d⟩ l 3 = 0 from HSE.out.trans (if_neg h512)))
    have h512' : ¬ (512 : Int) < (dl : Int) := by omega
    obtain ⟨q, hq⟩ : ∃ q, pl = q + 1 := ⟨pl - 1, by have := (show pl ≠ 0 from fun e => (paths_ne (p := p) (H3.out 0 (by omega))) (List.eq_nil_of_length_eq_zero (by rw [HPL.out]; exact e))); omega⟩
    subst hq
    clear HSE H3 h512
    go_upto_if 62 with fail
    go_cut [6, 7] (fun _ _ wx => Blk wx w.heap.size 64 #[.slice pa (q + 1) pc, .int .i64 k, .int .i64 m, .slice da dl dc] ∧ Below w.heap.size w wx ∧ Sl (linkE ⟨p, k, m, d⟩ = 0))
    case first =>
      by_cases hk2 : k = 2
      · subst hk2
        obtain ⟨S, hS⟩ : ∃ S, strN d = S := ⟨_, rfl⟩
        have hcv : (convert 22 9 (.slice da dl dc)).run Tryz.prog wc = .ok (.string S) wc := by
          have := conv_str (c := dc) ((HD.out.below hE3).more hE3.size) HBY.out
          rw [hS] at this
          exact this
        have HF := Sl.mk (show linkE ⟨p, 2, m, d⟩ = if leadE p.dropLast S = 0 ∧ isAbs S = false then 0 else 10 by unfold linkE; rw [if_pos rfl]; show (if leadE p.dropLast (strN d) = 0 ∧ isAbs (strN d) = false then (0 : Int) else 10) = _; rw [hS])
        have hss : S.size ≤ 512 := by rw [← hS, strN_size, HDL.out]; omega
        have HLD := Sl.mk (rlead_any pa q pc p.dropLast S wc (by omega) (fun x hx => by have := HPS.out x ((List.dropLast_sublist p).subset hx); omega) (by omega) (reads_drop ((HP.out.below hE3).more hE3.size)))
        unfold RLeadPost at HLD
        have HSS := Sl.mk hS
        clear hS hcv
        by_cases hz : leadE p.dropLast S = 0
        · have hcv : (convert 22 9 (.slice da dl dc)).run Tryz.prog wc = .ok (.string S) wc := by
            have := conv_str (c := dc) ((HD.out.below hE3).more hE3.size) HBY.out
            rw [HSS.out] at this
            exact this
          obtain ⟨b, hb⟩ : ∃ b, d[0]? = some b := by
            cases hd : d with
            | nil =>
              exfalso
              have : S = ⟨#[]⟩ := by rw [← HSS.out, hd]; rfl
              rw [this] at hz
              exact lead_nil _ hz
            | cons b d => exact ⟨b, rfl⟩
          have hbl : b < 256 := HBY.out b (List.mem_of_getElem? hb)
          have hdl0 : 0 < dl := by rw [← HDL.out]; exact (List.getElem?_eq_some_iff.1 hb).1
          have hA : isAbs S = (b == 47) := by rw [← HSS.out]; exact abs_strN hb HBY.out
          obtain ⟨ad, hda, hadb, hadc⟩ := HD.out.2 hdl0
          have hcell := hadc 0 (.int .u8 (b : Nat)) (by simp [u8s, hb])
          subst hda
          have HC := Sl.mk (fun (W : World) (hW : Below w.heap.size w W) => (hW.cell (p := ad.add 0) (by rw [block_of_add]; exact hadb)).trans hcell)
          rw [hz] at HLD
          have HZ := Sl.mk hz
          clear hz hb hcell hadc
          by_cases h47 : b = 47
          · have h47' : ((b : Int) == 47) = true := by subst h47; rfl
            have HA := Sl.mk (show isAbs S = true by rw [hA, h47]; rfl)
            have HF2 := Sl.mk (HF.out.trans (if_neg (fun h => by rw [HA.out] at h; cases h.2)))
            have HFF := Sl.mk ((ref_bad (e := ⟨p, 2, m, d⟩) (l := l) (i := 4) H4.out (by show ¬ linkE _ = 0; rw [HF2.out]; decide) (by omega)).trans HF2.out)
            clear h47 hA
            go_wp2_with fail
            refine HLD.out.mono ?_
            rintro e w4 ⟨A', kk, c', rfl, hB4⟩
            have hE4 := below_tr hE3 hB4
            have c3 := (hX3.be hB4).cell 3
            have cb := HC.out w4 hE4
            rw [addz] at cb
            go_wp2_with fail
            go_ret
            exact ⟨by rw [HFF.out]; rfl, hE4⟩
          · have h47' : ((b : Int) == 47) = false := by simp; omega
            have HA := Sl.mk (show isAbs S = false by rw [hA]; simpa using h47)
            have HF2 := Sl.mk (HF.out.trans (if_pos ⟨HZ.out, HA.out⟩))
            clear h47 hA
            go_wp2_with fail
            refine HLD.out.mono ?_
            rintro e w4 ⟨A', kk, c', rfl, hB4⟩
            have hE4 := below_tr hE3 hB4
            have hX4 := hX3.be hB4
            have c3 := hX4.cell 3
            have cb := HC.out w4 hE4
            rw [addz] at cb
            go_wp2_with fail
            go_meet
            exact ⟨hX4, hE4, HF2⟩
        · have hcv : (convert 22 9 (.slice da dl dc)).run Tryz.prog wc = .ok (.string S) wc := by
            have := conv_str (c := dc) ((HD.out.below hE3).more hE3.size) HBY.out
            rw [HSS.out] at this
            exact this
          have HF2 := Sl.mk (HF.out.trans (if_neg (fun h => hz h.1)))
          have HFF := Sl.mk ((ref_bad (e := ⟨p, 2, m, d⟩) (l := l) (i := 4) H4.out (by show ¬ linkE _ = 0; rw [HF2.out]; decide) (by omega)).trans HF2.out)
          obtain ⟨E, hEE⟩ : ∃ E, leadE p.dropLast S = E := ⟨_, rfl⟩
          rw [hEE] at HLD hz
          have hzz : (E != 0) = true := by simpa using hz
          clear hz hEE
          go_wp2_with fail
          refine HLD.out.mono ?_
          rintro e w4 ⟨A', kk, c', rfl, hB4⟩
          have hE4 := below_tr hE3 hB4
          go_wp2_with fail
          go_ret
          exact ⟨by rw [HFF.out]; rfl, hE4⟩
      · have hk2' : (k == 2) = false := by simpa using hk2
        have HF2 := Sl.mk (show linkE ⟨p, k, m, d⟩ = 0 from if_neg hk2)
        clear hk2
        go_wp2_with fail
        go_meet
        exact ⟨hX3, hE3, HF2⟩
    case rest =>
      obtain ⟨hX5, hE5, HLK⟩ := hcut
      have H5 := Sl.mk (chk_step H4.out (show chkE ⟨p, k, m, d⟩ l 4 = 0 from HLK.out))
      have HF := Sl.mk (show refusedE ⟨p, k, m, d⟩ l = placeE p l from by
        by_cases hz : chkE ⟨p, k, m, d⟩ l 5 = 0
        · rw [ref_good (chk_step H5.out hz)]; exact hz.symm
        · rw [ref_bad H5.out hz (by omega)]; rfl)
      have HLN := Sl.mk hn
      clear c0 c1 c2 c3 hX3 hE3 H4 HLK
      have c0 := hX5.cell 0
      have HFD := Sl.mk (rfind_any pa (q + 1) pc p A n c l wc hn (HL.out.be hE5) (by omega) ((HP.out.below hE5).more hE5.size))
      have HLL := Sl.mk HL.out.n_
      by_cases hi : idxE p l < l.length
      · have hpl8 : placE p l = ((idxE p l : Nat) : Int) := if_pos hi
        have HF8 := Sl.mk (HF.out.trans (show placeE p l = 8 from if_pos hi))
        obtain ⟨j, hj⟩ : ∃ j, idxE p l = j := ⟨_, rfl⟩
        rw [hj] at hpl8
        rw [hpl8] at HFD
        have hge : (j : Int) ≥ 0 := by omega
        clear hi hpl8 hj
        go_wp2_with fail
        refine HFD.out.mono ?_
        rintro e w6 ⟨rfl, q6, rfl⟩
        go_wp2_with fail
        go_ret
        exact ⟨by rw [HF8.out]; rfl, below_drN hE5 q6⟩
      have hplm : placE p l = -1 := if_neg hi
      have HF7 := Sl.mk (HF.out.trans (show placeE p l = if 0 < p.dropLast.length ∧ parK p.dropLast l = false then 7 else 0 from if_neg hi))
      have HDL2 := Sl.mk (show p.dropLast.length = q by rw [List.length_dropLast, HPL.out]; rfl)
      rw [hplm] at HFD
      clear hi hplm HF
      by_cases hq0 : q = 0
      · have HF0 := Sl.mk (HF7.out.trans (if_neg (fun h => by rw [HDL2.out] at h; omega)))
        have hq0' : decide (0 < q) = false := decide_eq_false (by omega)
        have hq0i : ¬ (0 : Int) < (q : Int) := by omega
        clear hq0
        go_wp2_with fail
        refine HFD.out.mono ?_
        rintro e w6 ⟨rfl, q6, rfl⟩
        go_wp2_with fail
        go_ret
        exact ⟨by rw [HF0.out]; rfl, below_drN hE5 q6⟩
      have hq0' : decide (0 < q) = true := decide_eq_true (by omega)
      have hq0i : (0 : Int) < (q : Int) := by omega
      have HQ := Sl.mk (show 0 < p.dropLast.length by rw [HDL2.out]; omega)
      have HRD := Sl.mk (reads_drop ((HP.out.below hE5).more hE5.size))
      have HFE := Sl.mk (fun kk => rfind_any pa q pc p.dropLast A n c l (wc.drewN kk) hn ((HL.out.be hE5).drewN kk) (by omega) (HRD.out.drewN kk))
      have HL5 := Sl.mk (HL.out.be hE5)
      clear hq0 HRD
      by_cases hi : idxE p.dropLast l < l.length
      · have hpl8 : placE p.dropLast l = ((idxE p.dropLast l : Nat) : Int) := if_pos hi
        obtain ⟨y, hy⟩ : ∃ y, l[idxE p.dropLast l]? = some y := ⟨_, List.getElem?_eq_getElem hi⟩
        have hpk : parK p.dropLast l = (y.e.kind == 1) := by unfold parK; rw [hy]
        obtain ⟨j, hj⟩ : ∃ j, idxE p.dropLast l = j := ⟨_, rfl⟩
        rw [hj] at hpl8 hy hi
        rw [hpl8] at HFE
        obtain ⟨ab, ao, rfl, hadb, hadc, -⟩ := HL5.out.lit hy
        have hcell := hadc 1 _ rfl
        have hjn : j < n := by rw [← HLL.out]; exact hi
        have hge : ¬ (j : Int) < 0 := by omega
        clear hi hpl8 hj hy hadc
        by_cases hk1 : y.e.kind = 1
        · have HF0 := Sl.mk (HF7.out.trans (if_neg (fun h => by rw [hpk, hk1] at h; cases h.2)))
          rw [hk1] at hcell
          clear hk1 hpk
          go_wp2_with fail
          refine HFD.out.mono ?_
          rintro e w6 ⟨rfl, q6, rfl⟩
          go_wp2_with fail
          refine (HFE.out q6).mono ?_
          rintro e w7 ⟨rfl, q7, rfl⟩
          go_wp2_with fail
          refine (HFE.out (q6 + q7)).mono ?_
          rintro e w8 ⟨rfl, q8, rfl⟩
          go_wp2_with fail

          go_ret
          exact ⟨by rw [HF0.out]; rfl, below_drN hE5 _⟩
        · have HF0 := Sl.mk (HF7.out.trans (if_pos ⟨HQ.out, by rw [hpk]; simpa using hk1⟩))
          have hk1' : (y.e.kind != 1) = true := by simpa using hk1
          clear hk1 hpk
          go_wp2_with fail
          refine HFD.out.mono ?_
          rintro e w6 ⟨rfl, q6, rfl⟩
          go_wp2_with fail
          refine (HFE.out q6).mono ?_
          rintro e w7 ⟨rfl, q7, rfl⟩
          go_wp2_with fail
          refine (HFE.out (q6 + q7)).mono ?_
          rintro e w8 ⟨rfl, q8, rfl⟩
          go_wp2_with fail
          go_ret
          exact ⟨by rw [HF0.out]; rfl, below_drN hE5 _⟩
      · have hplm : placE p.dropLast l = -1 := if_neg hi
        have HF0 := Sl.mk (HF7.out.trans (if_pos ⟨HQ.out, by unfold parK; rw [List.getElem?_eq_none (by omega)]⟩))
        rw [hplm] at HFE
        clear hi hplm
        go_wp2_with fail
        refine HFD.out.mono ?_
        rintro e w6 ⟨rfl, q6, rfl⟩
        go_wp2_with fail
        refine (HFE.out q6).mono ?_
        rintro e w7 ⟨rfl, q7, rfl⟩
        go_wp2_with fail
        go_ret
        exact ⟨by rw [HF0.out]; rfl, below_drN hE5 _⟩

end Go.Proofs.YticcphppnmoogaaGreatDoor
