/-
  The contracts of the law's Of, archive.Digests, archive.Sizes.
-/
import Derived.Test.YticcphppnmoogaaDoorArcN
import Derived.Test.YticcphppnmoogaaDoorDigSg
import Derived.Test.YticcphppnmoogaaDoorDigEql
namespace Go.Proofs.YticcphppnmoogaaDoor
open Go.RowKit
attribute [local go_sem ↓] Go.wp_at_zero Go.wp_at_succ

def OfPost (w : World) (n : Nat) (l : List Ex) (e : Ending) (w' : World) : Prop := ∃ (A : Option Addr) (c : Nat), e = .returned (.slice A n c) ∧ w'.ownsRow w.heap.size 44 4 (.slice A n c) n (exsC l) ∧ Below w.heap.size w w'

set_option maxRecDepth 100000 in
set_option maxHeartbeats 4000000 in
theorem aof_any (A : Option Addr) (n c : Nat) (l : List Ex) (w : World) (hn : n ≤ 1000000) (hE : Exs w A n l) :
    Calls Tryd.prog 13 #[.slice A n c] w (OfPost w n l) := by
  have HL := Sl.mk hE.n_
  have HE := Sl.mk hE
  obtain ⟨r0, hr0, hw0, hw1, hw2⟩ := info_parts refInfo
  clear hE
  go_enter Tryd.func13, Tryd.ntmps13
  go_wp2_with fail
  go_loopw [3, 4] (fun v3 v4 wr => ∃ i : Nat, i ≤ n ∧ v4 = .int .i64 i ∧ wr.ownsRow w.heap.size 44 4 v3 i (exsC (l.take i)) ∧ Below w.heap.size w wr) (fun _ v4 _ => n - (intOf v4).toNat)
  case atStart => exact ⟨0, Nat.zero_le _, rfl, World.ownsRow_nil _ _ _ _, Below.refl _ _⟩
  case round =>
    obtain ⟨i, hi, rfl, hown, hB⟩ := hrel
    obtain ⟨A3, c3, rfl⟩ := ownForm hown
    by_cases hil : i < n
    · obtain ⟨x, hx⟩ : ∃ x, l[i]? = some x := ⟨_, List.getElem?_eq_getElem (by rw [HL.out]; exact hil)⟩
      obtain ⟨xb, xo, rfl, hxb, hxc, hxok⟩ := HE.out.lit hx
      have HT : Sl (exsC (l.take (i + 1)) = exsC (l.take i) ++ exC x) := ⟨by rw [take_snoc' hx, exsC_app]; simp [exsC]⟩
      go_wp2_with fail
      obtain ⟨wd, hwd⟩ : ∃ wd, wr.drew = wd := ⟨_, rfl⟩
      have hEd : Below w.heap.size w wd := by rw [← hwd]; exact hB.drew
      have hod : wd.ownsRow w.heap.size 44 4 (.slice A3 i c3) i (exsC (l.take i)) := by rw [← hwd]; exact hown
      have HSF : Sl (∀ W, Below wd.heap.size wd W → W.cell? ⟨xb, xo + i * 4, none⟩ = some (.slice x.pa x.e.path.length x.pc) ∧ W.cell? ⟨xb, xo + i * 4 + 1, none⟩ = some (.int .i64 x.e.kind) ∧ W.cell? ⟨xb, xo + i * 4 + 2, none⟩ = some (.int .i64 x.e.mode) ∧ W.cell? ⟨xb, xo + i * 4 + 3, none⟩ = some (.slice x.da x.e.data.length x.dc)) := Sl.mk (fun W hW => by
        have hw := below_tr hEd hW
        exact ⟨(hw.cell (p := ⟨xb, xo + i * 4, none⟩) hxb).trans (hxc 0 _ rfl), (hw.cell (p := ⟨xb, xo + i * 4 + 1, none⟩) hxb).trans (hxc 1 _ rfl), (hw.cell (p := ⟨xb, xo + i * 4 + 2, none⟩) hxb).trans (hxc 2 _ rfl), (hw.cell (p := ⟨xb, xo + i * 4 + 3, none⟩) hxb).trans (hxc 3 _ rfl)⟩)
      clear hx hxc hxok hown hB
      refine wp_region_X (fun W => Below wd.heap.size wd W) [23, 24] (by kernel_rfl) (by rw [hwd]; exact Below.refl _ _) (fun hS => ?_)
      rw [hwd] at hS ⊢
      clear hwd
      refine wpAnyX_S (i := 0) (v := ?_) rfl (by kernel_rfl) (by kernel_rfl) (by kernel_rfl) (by kernel_rfl) (fun _ _ _ h => h) (Or.inl ⟨by rfl, ?_⟩) hS ?_
      rotate_left 1
      · (intro w' hw'; (first | rw [hw'] | (have hw2 := HSF.out w' hw') | skip); go_simp; (try with_reducible rfl))
      simp only [Act.put, List.setIfInBounds_toArray, List.set_cons_zero, List.set_cons_succ]
      refine wpAnyX_S (i := 1) (v := ?_) rfl (by kernel_rfl) (by kernel_rfl) (by kernel_rfl) (by kernel_rfl) (fun _ _ _ h => h) (Or.inl ⟨by rfl, ?_⟩) hS ?_
      rotate_left 1
      · (intro w' hw'; (first | rw [hw'] | (have hw2 := HSF.out w' hw') | skip); go_simp; (try with_reducible rfl))
      simp only [Act.put, List.setIfInBounds_toArray, List.set_cons_zero, List.set_cons_succ]
      refine wpAnyX_S (i := 2) (v := ?_) rfl (by kernel_rfl) (by kernel_rfl) (by kernel_rfl) (by kernel_rfl) (fun _ _ _ h => h) (Or.inl ⟨by rfl, ?_⟩) hS ?_
      rotate_left 1
      · (intro w' hw'; (first | rw [hw'] | (have hw2 := HSF.out w' hw') | skip); go_simp; (try with_reducible rfl))
      simp only [Act.put, List.setIfInBounds_toArray, List.set_cons_zero, List.set_cons_succ]
      refine wpAnyX_S (i := 3) (v := ?_) rfl (by kernel_rfl) (by kernel_rfl) (by kernel_rfl) (by kernel_rfl) (fun _ _ _ h => h) (Or.inl ⟨by rfl, ?_⟩) hS ?_
      rotate_left 1
      · (intro w' hw'; (first | rw [hw'] | (have hw2 := HSF.out w' hw') | skip); go_simp; (try with_reducible rfl))
      simp only [Act.put, List.setIfInBounds_toArray, List.set_cons_zero, List.set_cons_succ]
      refine wpAnyX_S (i := 4) (v := ?_) rfl (by kernel_rfl) (by kernel_rfl) (by kernel_rfl) (by kernel_rfl) (fun _ _ _ h => h) (Or.inl ⟨by rfl, ?_⟩) hS ?_
      rotate_left 1
      · (intro w' hw'; (first | rw [hw'] | (have hw2 := HSF.out w' hw') | skip); go_simp; (try with_reducible rfl))
      simp only [Act.put, List.setIfInBounds_toArray, List.set_cons_zero, List.set_cons_succ]
      refine wpAnyX_S (i := 5) (v := ?_) rfl (by kernel_rfl) (by kernel_rfl) (by kernel_rfl) (by kernel_rfl) (fun _ _ _ h => h) (Or.inl ⟨by rfl, ?_⟩) hS ?_
      rotate_left 1
      · (intro w' hw'; (first | rw [hw'] | (have hw2 := HSF.out w' hw') | skip); go_simp; (try with_reducible rfl))
      simp only [Act.put, List.setIfInBounds_toArray, List.set_cons_zero, List.set_cons_succ]
      refine wpAnyX_S (i := 6) (v := ?_) rfl (by kernel_rfl) (by kernel_rfl) (by kernel_rfl) (by kernel_rfl) (fun _ _ _ h => h) (Or.inl ⟨by rfl, ?_⟩) hS ?_
      rotate_left 1
      · (intro w' hw'; (first | rw [hw'] | (have hw2 := HSF.out w' hw') | skip); go_simp; (try with_reducible rfl))
      simp only [Act.put, List.setIfInBounds_toArray, List.set_cons_zero, List.set_cons_succ]
      refine wpAnyX_S (i := 7) (v := ?_) rfl (by kernel_rfl) (by kernel_rfl) (by kernel_rfl) (by kernel_rfl) (fun _ _ _ h => h) (Or.inl ⟨by rfl, ?_⟩) hS ?_
      rotate_left 1
      · (intro w' hw'; (first | rw [hw'] | (have hw2 := HSF.out w' hw') | skip); go_simp; (try with_reducible rfl))
      simp only [Act.put, List.setIfInBounds_toArray, List.set_cons_zero, List.set_cons_succ]
      refine wpAnyX_S (i := 8) (v := ?_) rfl (by kernel_rfl) (by kernel_rfl) (by kernel_rfl) (by kernel_rfl) (fun _ _ _ h => h) (Or.inl ⟨by rfl, ?_⟩) hS ?_
      rotate_left 1
      · (intro w' hw'; (first | rw [hw'] | (have hw2 := HSF.out w' hw') | skip); go_simp; (try with_reducible rfl))
      simp only [Act.put, List.setIfInBounds_toArray, List.set_cons_zero, List.set_cons_succ]
      refine wpAnyX_S (i := 9) (v := ?_) rfl (by kernel_rfl) (by kernel_rfl) (by kernel_rfl) (by kernel_rfl) (fun _ _ _ h => h) (Or.inl ⟨by rfl, ?_⟩) hS ?_
      rotate_left 1
      · (intro w' hw'; (first | rw [hw'] | (have hw2 := HSF.out w' hw') | skip); go_simp; (try with_reducible rfl))
      simp only [Act.put, List.setIfInBounds_toArray, List.set_cons_zero, List.set_cons_succ]
      refine wpAnyX_S (i := 10) (v := ?_) rfl (by kernel_rfl) (by kernel_rfl) (by kernel_rfl) (by kernel_rfl) (fun _ _ _ h => h) (Or.inl ⟨by rfl, ?_⟩) hS ?_
      rotate_left 1
      · (intro w' hw'; (first | rw [hw'] | (have hw2 := HSF.out w' hw') | skip); go_simp; (try with_reducible rfl))
      simp only [Act.put, List.setIfInBounds_toArray, List.set_cons_zero, List.set_cons_succ]
      refine wpAnyX_S (i := 11) (v := ?_) rfl (by kernel_rfl) (by kernel_rfl) (by kernel_rfl) (by kernel_rfl) (fun _ _ _ h => h) (Or.inl ⟨by rfl, ?_⟩) hS ?_
      rotate_left 1
      · (intro w' hw'; (first | rw [hw'] | (have hw2 := HSF.out w' hw') | skip); go_simp; (try with_reducible rfl))
      simp only [Act.put, List.setIfInBounds_toArray, List.set_cons_zero, List.set_cons_succ]
      refine wpAnyX_S (i := 12) (v := ?_) rfl (by kernel_rfl) (by kernel_rfl) (by kernel_rfl) (by kernel_rfl) (fun _ _ _ h => h) (Or.inl ⟨by rfl, ?_⟩) hS ?_
      rotate_left 1
      · (intro w' hw'; (first | rw [hw'] | (have hw2 := HSF.out w' hw') | skip); go_simp; (try with_reducible rfl))
      simp only [Act.put, List.setIfInBounds_toArray, List.set_cons_zero, List.set_cons_succ]
      refine wpAnyX_S (i := 13) (v := ?_) rfl (by kernel_rfl) (by kernel_rfl) (by kernel_rfl) (by kernel_rfl) (fun _ _ _ h => h) (Or.inl ⟨by rfl, ?_⟩) hS ?_
      rotate_left 1
      · (intro w' hw'; (first | rw [hw'] | (have hw2 := HSF.out w' hw') | skip); go_simp; (try with_reducible rfl))
      simp only [Act.put, List.setIfInBounds_toArray, List.set_cons_zero, List.set_cons_succ]
      refine wpAnyX_S (i := 14) (v := ?_) rfl (by kernel_rfl) (by kernel_rfl) (by kernel_rfl) (by kernel_rfl) (fun _ _ _ h => h) (Or.inl ⟨by rfl, ?_⟩) hS ?_
      rotate_left 1
      · (intro w' hw'; (first | rw [hw'] | (have hw2 := HSF.out w' hw') | skip); go_simp; (try with_reducible rfl))
      simp only [Act.put, List.setIfInBounds_toArray, List.set_cons_zero, List.set_cons_succ]
      refine wpAnyX_S (i := 15) (v := ?_) rfl (by kernel_rfl) (by kernel_rfl) (by kernel_rfl) (by kernel_rfl) (fun _ _ _ h => h) (Or.inl ⟨by rfl, ?_⟩) hS ?_
      rotate_left 1
      · (intro w' hw'; (first | rw [hw'] | (have hw2 := HSF.out w' hw') | skip); go_simp; (try with_reducible rfl))
      simp only [Act.put, List.setIfInBounds_toArray, List.set_cons_zero, List.set_cons_succ]
      refine wpAnyX_S (i := 16) (v := ?_) rfl (by kernel_rfl) (by kernel_rfl) (by kernel_rfl) (by kernel_rfl) (fun _ _ _ h => h) (Or.inl ⟨by rfl, ?_⟩) hS ?_
      rotate_left 1
      · (intro w' hw'; (first | rw [hw'] | (have hw2 := HSF.out w' hw') | skip); go_simp; (try with_reducible rfl))
      simp only [Act.put, List.setIfInBounds_toArray, List.set_cons_zero, List.set_cons_succ]
      refine wpAnyX_S (i := 17) (v := ?_) rfl (by kernel_rfl) (by kernel_rfl) (by kernel_rfl) (by kernel_rfl) (fun _ _ _ h => h) (Or.inl ⟨by rfl, ?_⟩) hS ?_
      rotate_left 1
      · (intro w' hw'; (first | rw [hw'] | (have hw2 := HSF.out w' hw') | skip); go_simp; (try with_reducible rfl))
      simp only [Act.put, List.setIfInBounds_toArray, List.set_cons_zero, List.set_cons_succ]
      refine wpAnyX_S (i := 18) (v := ?_) rfl (by kernel_rfl) (by kernel_rfl) (by kernel_rfl) (by kernel_rfl) (fun _ _ _ h => h) (Or.inl ⟨by rfl, ?_⟩) hS ?_
      rotate_left 1
      · (intro w' hw'; (first | rw [hw'] | (have hw2 := HSF.out w' hw') | skip); go_simp; (try with_reducible rfl))
      simp only [Act.put, List.setIfInBounds_toArray, List.set_cons_zero, List.set_cons_succ]
      refine wpAnyX_S (i := 19) (v := ?_) rfl (by kernel_rfl) (by kernel_rfl) (by kernel_rfl) (by kernel_rfl) (fun _ _ _ h => h) (Or.inl ⟨by rfl, ?_⟩) hS ?_
      rotate_left 1
      · (intro w' hw'; (first | rw [hw'] | (have hw2 := HSF.out w' hw') | skip); go_simp; (try with_reducible rfl))
      simp only [Act.put, List.setIfInBounds_toArray, List.set_cons_zero, List.set_cons_succ]
      refine wpAnyX_S (i := 20) (v := ?_) rfl (by kernel_rfl) (by kernel_rfl) (by kernel_rfl) (by kernel_rfl) (fun _ _ _ h => h) (Or.inl ⟨by rfl, ?_⟩) hS ?_
      rotate_left 1
      · (intro w' hw'; (first | rw [hw'] | (have hw2 := HSF.out w' hw') | skip); go_simp; (try with_reducible rfl))
      simp only [Act.put, List.setIfInBounds_toArray, List.set_cons_zero, List.set_cons_succ]
      refine wpAnyX_S (i := 21) (v := .agg #[.slice x.pa x.e.path.length x.pc, .int .i64 x.e.kind, .int .i64 x.e.mode, .slice x.da x.e.data.length x.dc]) rfl (by kernel_rfl) (by kernel_rfl) (by kernel_rfl) (by kernel_rfl) (fun _ _ _ h => h) (.inl ⟨by rfl, fun w' _ => by go_simp⟩) hS ?_
      simp only [Act.put, List.setIfInBounds_toArray, List.set_cons_zero, List.set_cons_succ]
      refine wpAnyX_oneL (k := 22) rfl (by kernel_rfl) rfl ?_
      refine wp_of_run (v := .slice (some ⟨wd.heap.size, 0, none⟩) 1 1) (w' := wd.alloc (.cells #[.slice x.pa x.e.path.length x.pc, .int .i64 x.e.kind, .int .i64 x.e.mode, .slice x.da x.e.data.length x.dc] 44)) (by go_simp) ⟨fun _ => (Below.refl _ _).alloc (Nat.le_refl _) _, ?_⟩
      simp only [Act.put, List.setIfInBounds_toArray, List.set_cons_zero, List.set_cons_succ]
      refine wpAnyX_tailF [23, 24] (by kernel_rfl) (by rfl) (by rfl) (by rfl) ?_
      simp only [List.filterMap_cons, List.filterMap_nil, List.getElem?_cons_succ, List.getElem?_cons_zero]
      have hge := hEd.size
      refine wpList_append_anyG _ rfl (.tmp 11) (.tmp 33) 22 rfl w.heap.size 44 r0 (.agg #[.slice none 0 0, .int .i64 0, .int .i64 0, .slice none 0 0]) 4 64 Tryd.underlying22 hr0 hw0 hw1 hw2 (by rfl) (by decide) (.slice A3 i c3) i (exsC (l.take i)) rfl (hod.alloc _) (wd.heap.size + 1) (some ⟨wd.heap.size, 0, none⟩) 1 1 [.slice x.pa x.e.path.length x.pc, .int .i64 x.e.kind, .int .i64 x.e.mode, .slice x.da x.e.data.length x.dc] rfl (reads_row4 wd _ _ _ _ _) (four_one _ _ _ _ rfl rfl rfl rfl) (by unfold maxLen; omega) (by omega) (by simp; omega) ?_
      intro v9 w9 ho9 hg9 hb9
      obtain ⟨A9, c9, rfl⟩ := ownForm ho9
      have hE9 : Below w.heap.size w w9 := (below_al hEd _).grown hg9 (by simp; omega) (fun g hg => ownGe hod hg)
      have HO : Sl (w9.ownsRow w.heap.size 44 4 (.slice A9 (i + 1) c9) (i + 1) (exsC (l.take (i + 1)))) := ⟨by rw [HT.out]; exact ho9⟩
      clear ho9 hg9 hb9 hod HSF hEd hge
      go_wp2_with fail
      refine NoPanic.normal ?_
      go_wp2_with fail
      go_roundw
      case rel => exact ⟨i + 1, by omega, by go_num, HO.out, hE9⟩
      case measure => simp [intOf]; omega
    · obtain rfl : i = n := by omega
      have ht : l.take i = l := List.take_of_length_le (by rw [HL.out]; omega)
      rw [ht] at hown
      go_wp2_with fail
      go_ret
      exact ⟨A3, c3, rfl, hown, hB⟩

theorem rds_of_reads {w : World} {B n : Nat} {A : Option Addr} {d : List Nat} (h : Reads w B 1 A n (u8s d)) : RdS w (fun b => b < B) A d := fun j hj => by
  have hl := bytes_n h
  obtain ⟨ad, e, hb, hc⟩ := h.2 (by omega)
  exact ⟨ad, e, hb, hc j _ (by simp [u8s, hj])⟩
theorem of_single_at (g : Nat) (w : World) (A : Option Addr) (c k : Nat) (l : List Nat) (hg : g = w.heap.size) (hk : l.length = k) (hr : RdS w (fun b => b < w.heap.size) A l) (hl : k ≤ 10000000000) (hT : Tabs w) :
    Calls Tryd.prog 15 #[.slice (some ⟨g, 0, none⟩) 1 1] (w.alloc (.cells #[.slice A k c] 32)) fun e w' => e = .returned (.agg (u8s (shaF l)).toArray) ∧ Below w.heap.size w w' := by
  subst hg
  exact of_single w A c k l hk hr hl hT
def digC (l : List Ex) : List Value := l.flatMap fun x => u8s (shaF x.e.data)
theorem reads_rowN (w : World) (L : List Value) (T : TypeId) {k : Nat} (hk : L.length = 1 * k) : Reads (w.alloc (.cells L.toArray T)) (w.heap.size + 1) k (some ⟨w.heap.size, 0, none⟩) 1 L :=
  ⟨hk, fun _ => ⟨_, rfl, Nat.lt_succ_self _, fun j u hj => by
    rw [addr_add0, (Blk.new w T L.toArray).cell j]
    simpa using hj⟩⟩
theorem fold_put : ∀ (l : List Value) (k : Nat) (cs : Array Value), k + l.length = cs.size → (l.zipIdx k).foldl (fun cs x => cs.setIfInBounds x.snd x.fst) cs = (cs.toList.take k ++ l).toArray
  | [], k, cs, h => by
    have hk : cs.toList.take k = cs.toList := List.take_of_length_le (by simp at h; simp; omega)
    simp only [List.zipIdx_nil, List.foldl_nil, List.append_nil]
    rw [hk]
  | v :: l, k, cs, h => by
    have hlen : (v :: l).length = l.length + 1 := rfl
    rw [List.zipIdx_cons, List.foldl_cons, fold_put l (k + 1) _ (by simp; omega)]
    have h1 : (cs.setIfInBounds k v).toList.take (k + 1) = cs.toList.take k ++ [v] := by
      rw [Array.toList_setIfInBounds, List.take_succ_eq_append_getElem (by simp; omega), List.take_set_of_le (Nat.le_refl _)]
      simp
    rw [h1]; simp
theorem fold32 (L : List Value) (hL : L.length = 32) (cs : Array Value) (h : cs.size = 32) : L.zipIdx.foldl (fun cs x => cs.setIfInBounds x.snd x.fst) cs = L.toArray := by
  rw [fold_put L 0 cs (by rw [hL, h])]; simp
theorem digInfo : (Tryd.prog.info? 45).map (fun i => (i.zero, i.size, i.bytes)) = some (some (.agg #[.int .u8 0, .int .u8 0, .int .u8 0, .int .u8 0, .int .u8 0, .int .u8 0, .int .u8 0, .int .u8 0, .int .u8 0, .int .u8 0, .int .u8 0, .int .u8 0, .int .u8 0, .int .u8 0, .int .u8 0, .int .u8 0, .int .u8 0, .int .u8 0, .int .u8 0, .int .u8 0, .int .u8 0, .int .u8 0, .int .u8 0, .int .u8 0, .int .u8 0, .int .u8 0, .int .u8 0, .int .u8 0, .int .u8 0, .int .u8 0, .int .u8 0, .int .u8 0]), 32, 32) := by kernel_rfl

set_option maxRecDepth 100000 in
set_option maxHeartbeats 4000000 in
theorem digests_any (A : Option Addr) (n c : Nat) (l : List Ex) (w : World) (hn : n ≤ 1000) (hE : Exs w A n l) (hT : Tabs w) :
    Calls Tryd.prog 14 #[.slice A n c] w fun e w' => ∃ A' c', e = .returned (.slice A' n c') ∧ w'.ownsRow w.heap.size 45 32 (.slice A' n c') n (digC l) ∧ Below w.heap.size w w' := by
  have HL := Sl.mk hE.n_
  have HE := Sl.mk hE
  have HT := Sl.mk hT
  obtain ⟨r0, hr0, hw0, hw1, hw2⟩ := info_parts digInfo
  clear hE hT
  go_enter Tryd.func14, Tryd.ntmps14
  go_wp2_with fail
  go_loopw [3, 5, 8] (fun v3 _ v8 wr => ∃ i : Nat, i ≤ n ∧ v8 = .int .i64 i ∧ wr.ownsRow w.heap.size 45 32 v3 i (digC (l.take i)) ∧ Below w.heap.size w wr) (fun _ _ v8 _ => n - (intOf v8).toNat)
  case atStart => exact ⟨0, Nat.zero_le _, rfl, World.ownsRow_nil _ _ _ _, Below.refl _ _⟩
  case round =>
    obtain ⟨i, hi, rfl, hown, hB⟩ := hrel
    obtain ⟨A3, c3, rfl⟩ := ownForm hown
    by_cases hil : i < n
    · obtain ⟨x, hx⟩ : ∃ x, l[i]? = some x := ⟨_, List.getElem?_eq_getElem (by rw [HL.out]; exact hil)⟩
      obtain ⟨ad, rfl, hbl, hld, hok⟩ := (HE.out.be hB).at_ hx
      have hd0 : wr.cell? (ad.add (i * 4)) = some (.slice x.pa x.e.path.length x.pc) := by have := hld 0 _ rfl; simpa [Addr.add] using this
      have HX : Sl (digC (l.take (i + 1)) = digC (l.take i) ++ u8s (shaF x.e.data)) := ⟨by rw [take_snoc' hx]; simp [digC]⟩
      have hba : Below wr.heap.size wr (wr.alloc (.cells #[.slice x.pa x.e.path.length x.pc, .int .i64 x.e.kind, .int .i64 x.e.mode, .slice x.da x.e.data.length x.dc] 34)) := (Below.refl _ _).alloc (Nat.le_refl _) _
      have hoka := hok.be hba
      have hdl := hok.dlen
      have HO := Sl.mk (of_single_at (wr.heap.size + 1) _ x.da x.dc x.e.data.length x.e.data (by simp) rfl (rds_of_reads hoka.data) (by omega) (HT.out.below (below_tr hB hba) HT.out.1))
      have HLN := Sl.mk (show (u8s (shaF x.e.data)).length = 32 by rw [u8s_len, shaF_len])
      have hEa := below_tr hB hba
      have howna := own_below hown hba
      clear hx hok hoka hown hB
      go_wp2_with (refine ld_exl hld rfl (.tmp 10) rfl rfl ?_)
      refine HO.out.mono ?_
      rintro e w2 ⟨rfl, hB2⟩
      have hE2 := below_tr hEa hB2
      have hown2 := own_below howna hB2
      obtain ⟨Dg, hDg⟩ : ∃ Dg, u8s (shaF x.e.data) = Dg := ⟨_, rfl⟩
      rw [hDg] at HX HLN ⊢
      have HD1 : Sl (∀ v ∈ Dg, v.oneCell' = true) := ⟨by rw [← hDg]; exact u8s_one _⟩
      clear hDg hld hd0 hba hEa howna hB2 HO
      have h32 := HLN.out
      have hfold := fold32 Dg h32 #[.int .u8 0, .int .u8 0, .int .u8 0, .int .u8 0, .int .u8 0, .int .u8 0, .int .u8 0, .int .u8 0, .int .u8 0, .int .u8 0, .int .u8 0, .int .u8 0, .int .u8 0, .int .u8 0, .int .u8 0, .int .u8 0, .int .u8 0, .int .u8 0, .int .u8 0, .int .u8 0, .int .u8 0, .int .u8 0, .int .u8 0, .int .u8 0, .int .u8 0, .int .u8 0, .int .u8 0, .int .u8 0, .int .u8 0, .int .u8 0, .int .u8 0, .int .u8 0] (by rfl)
      go_wp2_with (at_builtin; refine wpList_append_anyG _ rfl (.tmp 12) (.tmp 17) 42 rfl w.heap.size 45 r0 (.agg #[.int .u8 0, .int .u8 0, .int .u8 0, .int .u8 0, .int .u8 0, .int .u8 0, .int .u8 0, .int .u8 0, .int .u8 0, .int .u8 0, .int .u8 0, .int .u8 0, .int .u8 0, .int .u8 0, .int .u8 0, .int .u8 0, .int .u8 0, .int .u8 0, .int .u8 0, .int .u8 0, .int .u8 0, .int .u8 0, .int .u8 0, .int .u8 0, .int .u8 0, .int .u8 0, .int .u8 0, .int .u8 0, .int .u8 0, .int .u8 0, .int .u8 0, .int .u8 0]) 32 32 Tryd.underlying42 hr0 hw0 hw1 hw2 (by rfl) (by decide) _ i _ rfl (hown2.alloc _) (w2.heap.size + 1) (some ⟨w2.heap.size, 0, none⟩) 1 1 Dg rfl (reads_rowN w2 Dg _ (by rw [HLN.out])) HD1.out (by unfold maxLen; omega) (by omega) (by have := hE2.size; simp; omega) ?_)
      intro v9 w9 ho9 hg9 hb9
      obtain ⟨A9, c9, rfl⟩ := ownForm ho9
      have hE9 : Below w.heap.size w w9 := (below_al hE2 _).grown hg9 (by have := hE2.size; simp; omega) (fun g hg => ownGe hown2 hg)
      have HO9 : Sl (w9.ownsRow w.heap.size 45 32 (.slice A9 (i + 1) c9) (i + 1) (digC (l.take (i + 1)))) := ⟨by rw [HX.out]; exact ho9⟩
      clear ho9 hg9 hb9 hown2 hE2 h32 hfold
      go_wp2_with fail
      go_roundw
      case rel => exact ⟨i + 1, by omega, by go_num, HO9.out, hE9⟩
      case measure => simp [intOf]; omega
    · obtain rfl : i = n := by omega
      have ht : l.take i = l := List.take_of_length_le (by rw [HL.out]; omega)
      rw [ht] at hown
      go_wp2_with fail
      go_ret
      exact ⟨A3, c3, rfl, hown, hB⟩

def filesF (l : List Ex) : Nat := (l.map fun x => if x.e.kind = 0 then 1 else 0).sum
def allF (l : List Ex) : Nat := (l.map fun x => if x.e.kind = 0 then x.e.data.length else 0).sum
theorem files_le (l : List Ex) : filesF l ≤ l.length := by
  induction l with
  | nil => exact Nat.le_refl _
  | cons x l ih => simp only [filesF, List.map_cons, List.sum_cons, List.length_cons] at *; split <;> omega
theorem all_le (l : List Ex) (h : ∀ x ∈ l, x.e.data.length ≤ 100000) : allF l ≤ l.length * 100000 := by
  induction l with
  | nil => exact Nat.le_refl _
  | cons x l ih =>
    have h1 := h x (List.mem_cons_self ..)
    have h2 := ih (fun y hy => h y (List.mem_cons_of_mem _ hy))
    simp only [allF, List.map_cons, List.sum_cons, List.length_cons] at *
    split <;> omega

set_option maxRecDepth 100000 in
set_option maxHeartbeats 4000000 in
theorem sizes_any (A : Option Addr) (n c : Nat) (l : List Ex) (w : World) (hn : n ≤ 1000) (hE : Exs w A n l) :
    Calls Tryd.prog 16 #[.slice A n c] w fun e w' => e = .returned (.tuple #[.int .i64 (filesF l), .int .i64 (allF l)]) ∧ Below w.heap.size w w' := by
  have HL := Sl.mk hE.n_
  have HE := Sl.mk hE
  clear hE
  go_enter Tryd.func16, Tryd.ntmps16
  go_wp2_with fail
  go_loopw [4, 5, 7, 10] (fun v4 v5 _ v10 wr => ∃ i : Nat, i ≤ n ∧ v10 = .int .i64 i ∧ v4 = .int .i64 (filesF (l.take i)) ∧ v5 = .int .i64 (allF (l.take i)) ∧ Below w.heap.size w wr) (fun _ _ _ v10 _ => n - (intOf v10).toNat)
  case atStart => exact ⟨0, Nat.zero_le _, rfl, rfl, rfl, Below.refl _ _⟩
  case round =>
    obtain ⟨i, hi, rfl, rfl, rfl, hB⟩ := hrel
    by_cases hil : i < n
    · obtain ⟨x, hx⟩ : ∃ x, l[i]? = some x := ⟨_, List.getElem?_eq_getElem (by rw [HL.out]; exact hil)⟩
      obtain ⟨ad, rfl, hbl, hld, hok⟩ := (HE.out.be hB).at_ hx
      have hd0 : wr.cell? (ad.add (i * 4)) = some (.slice x.pa x.e.path.length x.pc) := by have := hld 0 _ rfl; simpa [Addr.add] using this
      have hF : filesF (l.take (i + 1)) = filesF (l.take i) + (if x.e.kind = 0 then 1 else 0) := by rw [take_snoc' hx]; simp [filesF]
      have hA : allF (l.take (i + 1)) = allF (l.take i) + (if x.e.kind = 0 then x.e.data.length else 0) := by rw [take_snoc' hx]; simp [allF]
      have h1 := files_le (l.take i)
      have h2 := all_le (l.take i) (fun y hy => ((HE.out.ok y (List.mem_of_mem_take hy)).dlen))
      have h3 : (l.take i).length ≤ 1000 := by rw [List.length_take]; omega
      have h4 := hok.dlen
      have hE2 := below_al hB (.cells #[.slice x.pa x.e.path.length x.pc, .int .i64 x.e.kind, .int .i64 x.e.mode, .slice x.da x.e.data.length x.dc] 34)
      obtain ⟨F, hFF⟩ : ∃ F, filesF (l.take i) = F := ⟨_, rfl⟩
      obtain ⟨G, hGG⟩ : ∃ G, allF (l.take i) = G := ⟨_, rfl⟩
      rw [hFF] at hF h1 ⊢
      rw [hGG] at hA h2 ⊢
      have hF1000 : F ≤ 1000 := by omega
      have hG1000 : G ≤ 100000000 := by omega
      have HF := Sl.mk hF
      have HA := Sl.mk hA
      clear hx hok hF hA h1 h2 h3 hFF hGG hB
      by_cases hk : x.e.kind = 0
      · have HF2 := Sl.mk (HF.out.trans (by rw [if_pos hk]))
        have HA2 := Sl.mk (HA.out.trans (by rw [if_pos hk]))
        have hk' : (x.e.kind == 0) = true := by simpa using hk
        clear hk HF HA
        go_wp2_with (refine ld_exl hld rfl (.tmp 12) rfl rfl ?_)
        go_roundw
        case rel => exact ⟨i + 1, by omega, by go_num, by rw [HF2.out]; go_num, by rw [HA2.out]; go_num, hE2⟩
        case measure => simp [intOf]; omega
      · have HF2 := Sl.mk (HF.out.trans (by rw [if_neg hk]))
        have HA2 := Sl.mk (HA.out.trans (by rw [if_neg hk]))
        have hk' : (x.e.kind == 0) = false := by simpa using hk
        clear hk HF HA
        go_wp2_with (refine ld_exl hld rfl (.tmp 12) rfl rfl ?_)
        go_roundw
        case rel => exact ⟨i + 1, by omega, by go_num, by rw [HF2.out]; rfl, by rw [HA2.out]; rfl, hE2⟩
        case measure => simp [intOf]; omega
    · obtain rfl : i = n := by omega
      have ht : l.take i = l := List.take_of_length_le (by rw [HL.out]; omega)
      rw [ht]
      clear ht
      go_wp2_with fail
      go_ret2
      exact ⟨rfl, hB⟩

end Go.Proofs.YticcphppnmoogaaDoor
