/-
  The contracts of Framed, and of the reference's Frame.
-/
import Derived.Test.YtaffjcenojikjaaDoorDigTexts
namespace Go.Proofs.YtaffjcenojikjaaDoor
open Go.RowKit
attribute [local go_sem ↓] Go.wp_at_zero Go.wp_at_succ

def len4F (n i : Nat) : Nat := n / 2 ^ (8 * (3 - i)) % 256
def len4 (n : Nat) : List Nat := (List.range 4).map (len4F n)
def frameF (L : List (List Nat)) : List Nat := L.flatMap fun l => len4 l.length ++ l
theorem frameF_snoc (L : List (List Nat)) (l : List Nat) : frameF (L ++ [l]) = frameF L ++ (len4 l.length ++ l) := by simp [frameF]
theorem frameF_le (L : List (List Nat)) (i : Nat) : (frameF (L.take i)).length ≤ (frameF L).length := by
  conv => rhs; rw [← List.take_append_drop i L]
  unfold frameF
  rw [List.flatMap_append, List.length_append]; omega
theorem getD_le_frame {L : List (List Nat)} {i : Nat} (h : i < L.length) : (L.getD i []).length ≤ (frameF L).length := by
  have h1 := frameF_le L (i + 1)
  rw [take_succ_getD (d := []) h, frameF_snoc, List.length_append, List.length_append] at h1
  omega
theorem info4 : (Tryd.prog.info? 62).map (·.size) = some 4 := by kernel_rfl

set_option maxRecDepth 100000 in
set_option maxHeartbeats 4000000 in
theorem framed_any (A : Option Addr) (c : Nat) (L : List (List Nat)) (S : Nat → Prop) (w : World) (hn : (frameF L).length ≤ 10000000000) (hLn : L.length ≤ 10000000000) (hT : Tabs w) (hL : RdSS w S A L) (hS : ∀ b, S b → b < w.heap.size) :
    Calls Tryd.prog 17 #[.slice A L.length c] w fun e w' => e = .returned (.agg (u8s (shaF (frameF L))).toArray) ∧ Below w.heap.size w w' := by
  have hz := zero73
  have hT0 := hT.1
  obtain ⟨m, hm⟩ : ∃ m, L.length = m := ⟨_, rfl⟩
  have HM := hide hm
  have HN := Sl.mk hn
  have HL := Sl.mk hL
  have HS := Sl.mk hS
  rw [hm] at hLn ⊢
  clear hm hn hL hS
  go_enter Tryd.func17, Tryd.ntmps17
  go_wp2_with fail
  go_loopw [12] (fun v12 wr => ∃ i : Nat, i ≤ m ∧ v12 = .int .i64 i ∧ St wr (w.heap.size + 1) (feedS zS (frameF (L.take i))) ∧ Tabs wr ∧ Blk wr w.heap.size 37 (z8 32).toArray ∧ Below w.heap.size w wr) (fun v12 _ => m - (intOf v12).toNat)
  case atStart => exact ⟨0, by omega, rfl, Blk.new' (by simp), hT.below (below_al (below_al (Below.refl _ _) _) _) hT.1, Blk.alloc (Blk.new w _ _) _, below_al (below_al (Below.refl _ _) _) _⟩
  case round =>
    obtain ⟨i, hi, rfl, hSi, hTi, hZi, hBi⟩ := hrel
    clear hT
    obtain ⟨wo, hwo⟩ : ∃ wo, wo = wr := ⟨_, rfl⟩
    subst hwo
    by_cases hlt : i < m
    · obtain ⟨ad, Ai, ci, rfl, hSb, hcell0, hrd⟩ := HL.out i (by rw [HM.out]; exact hlt)
      have hcell : wo.cell? (ad.add i) = _ := (hBi.cell (p := ad.add i) (by rw [block_of_add]; exact HS.out _ hSb)).trans hcell0
      obtain ⟨l, hl⟩ : ∃ l, L.getD i [] = l := ⟨_, rfl⟩
      have hfs : frameF (L.take (i + 1)) = frameF (L.take i) ++ (len4 l.length ++ l) := by rw [take_succ_getD (d := []) (by rw [HM.out]; exact hlt), hl, frameF_snoc]
      have hfle := frameF_le L (i + 1)
      rw [hfs, List.length_append, List.length_append] at hfle
      rw [hl] at hcell hrd
      obtain ⟨k, hk⟩ : ∃ k, l.length = k := ⟨_, rfl⟩
      rw [hk] at hcell
      have hk4 : (len4 l.length).length = 4 := by simp [len4]
      have hkm : k ≤ 10000000000 := by have := HN.out; omega
      have HFS := Sl.mk hfs
      have HFL := Sl.mk hfle
      have HK := hide hk
      have HRD := Sl.mk hrd
      have HK4 := Sl.mk hk4
      clear hl hfs hfle hk hrd hcell0 hk4
      go_wp2_with fail
      obtain ⟨wa, hwa⟩ : ∃ wa, wo.alloc (.cells (z8 4).toArray 62) = wa := ⟨_, rfl⟩
      have hNa : Blk wa wo.heap.size 62 (u8s ((List.range 0).map (len4F k)) ++ z8 (4 - 0)).toArray := by rw [← hwa]; exact Blk.new _ _ _
      have hSa : St wa (w.heap.size + 1) (feedS zS (frameF (L.take i))) := by rw [← hwa]; exact Blk.alloc hSi _
      have hZa := Blk.alloc hZi (.cells (z8 4).toArray 62)
      rw [hwa] at hZa
      have hBa : Below w.heap.size w wa := by rw [← hwa]; exact below_al hBi _
      have hTa : Tabs wa := hTi.below (B := wo.heap.size) (by rw [← hwa]; exact below_al (Below.refl _ _) _) hTi.1
      have hla : w.heap.size + 1 < wo.heap.size := Blk.lt hSi
      have hga : wo.heap.size < wa.heap.size := Blk.lt hNa
      have hwa2 : wo.alloc (.cells #[.int .u8 0, .int .u8 0, .int .u8 0, .int .u8 0] 62) = wa := hwa
      rw [hwa2]
      clear hwa hwa2 hSi hZi hBi hTi hcell
      go_loopw [16] (fun v16 wx => ∃ j : Nat, j ≤ 4 ∧ v16 = .int .i64 j ∧ Blk wx wo.heap.size 62 (u8s ((List.range j).map (len4F k)) ++ z8 (4 - j)).toArray ∧ St wx (w.heap.size + 1) (feedS zS (frameF (L.take i))) ∧ Blk wx w.heap.size 37 (z8 32).toArray ∧
        Below w.heap.size w wx ∧ Tabs wx ∧ wo.heap.size < wx.heap.size) (fun v16 _ => 4 - (intOf v16).toNat)
      case atStart => exact ⟨0, by omega, rfl, hNa, hSa, hZa, hBa, hTa, hga⟩
      case round =>
        obtain ⟨j, hj, rfl, hNj, hSj, hZj, hBj, hTj, hgj⟩ := hrel
        clear hNa hSa hZa hBa hTa hga
        by_cases hjl : j < 4
        · have hd := blk_at hNj (range_get hjl)
          have hf := hNj.frozen j
          have hb : (k : Int) / 2 ^ (8 * (3 - j)) % 256 = ((len4F k j : Nat) : Int) := by unfold len4F; simp
          have HB := Sl.mk hb
          clear hb
          go_wp2_with fail
          go_roundw
          case rel =>
            refine ⟨j + 1, by omega, by go_num, ?_, hSj.far (by show w.heap.size + 1 ≠ wo.heap.size; omega) _, hZj.far (by show w.heap.size ≠ wo.heap.size; omega) _, hBj.setCell (by show w.heap.size ≤ wo.heap.size; omega) _, ?_, by simpa [World.setCell] using hgj⟩
            · rw [HB.out]; exact range_set hNj hjl
            · exact hTj.only (only_setCell (only_refl _ _) _ _) (by omega)
          case measure => simp [intOf]; omega
        · obtain rfl : j = 4 := by omega
          have hN4 : Blk wr wo.heap.size 62 (u8s (len4 k)).toArray := by simpa [z8, len4] using hNj
          clear hNj
          go_wp2_with fail
          obtain ⟨wx, hwx⟩ : ∃ wx, wr.alloc (.cells #[.slice (some ⟨wo.heap.size, 0, none⟩) 4 4, .slice Ai k ci] 23) = wx := ⟨_, rfl⟩
          have hX : Blk wx wr.heap.size 23 #[.slice (some ⟨wo.heap.size, 0, none⟩) 4 4, .slice Ai k ci] := by rw [← hwx]; exact Blk.new _ _ _
          have hNx : Blk wx wo.heap.size 62 (u8s (len4 k)).toArray := by rw [← hwx]; exact hN4.alloc _
          have hSx : St wx (w.heap.size + 1) (feedS zS (frameF (L.take i))) := by rw [← hwx]; exact Blk.alloc hSj _
          have hZx : Blk wx w.heap.size 37 (z8 32).toArray := by rw [← hwx]; exact hZj.alloc _
          have hBx : Below w.heap.size w wx := by rw [← hwx]; exact below_al hBj _
          have hsx : wx.heap.size = wr.heap.size + 1 := by rw [← hwx]; simp
          have hTx : Tabs wx := hTj.below (B := wr.heap.size) (by rw [← hwx]; exact below_al (Below.refl _ _) _) hTj.1
          rw [hwx]
          clear hwx hN4 hSj hZj hBj hTj
          have hRL : RdSS wx (fun b => b < wx.heap.size ∧ b ≠ w.heap.size + 1) (some ⟨wr.heap.size, 0, none⟩) [len4 k, l] := fun q hq => by
            match q, hq with
            | 0, _ => exact ⟨_, some ⟨wo.heap.size, 0, none⟩, 4, rfl, ⟨by show wr.heap.size < _; omega, by show wr.heap.size ≠ _; omega⟩, by rw [add_zero']; exact hX.cell 0, rd_cells ⟨by show wo.heap.size < _; omega, by show wo.heap.size ≠ _; omega⟩ (fun j hj => blk_at hNx (by
                have hj2 : j < (len4 k).length := hj
                show (u8s (len4 k))[j]? = some (.int .u8 (((len4 k).getD j 0 : Nat) : Int))
                simp [u8s, hj2]))⟩
            | 1, _ => exact ⟨_, Ai, ci, rfl, ⟨by show wr.heap.size < _; omega, by show wr.heap.size ≠ _; omega⟩, by
                show wx.cell? _ = some (.slice Ai l.length ci)
                rw [add_zero', HK.out]; exact hX.cell 1, rds_mono (HRD.out.keep (fun p hp => hBx.cell (HS.out _ hp))) (fun b hb => by have := HS.out b hb; exact ⟨by have := hBx.size; omega, by omega⟩)⟩
          have hfeed : feedS (feedS zS (frameF (L.take i))) ([len4 k, l] : List (List Nat)).flatten = feedS zS (frameF (L.take (i + 1))) := by
            rw [HFS.out, feedS_app, HK.out]; simp
          have hcall := write_any (w.heap.size + 1) (feedS zS (frameF (L.take i))) (some ⟨wr.heap.size, 0, none⟩) 2 [len4 k, l] (fun b => b < wx.heap.size ∧ b ≠ w.heap.size + 1) wx (feedS_ok zS_ok _)
            (by
              rw [feedS_n]
              have h1 := HFL.out
              have h2 := HN.out
              have h3 : (([len4 k, l] : List (List Nat)).flatten).length = 4 + l.length := by simp [len4]
              rw [h3]
              show 0 + _ + _ ≤ _
              omega) (by simp) (by omega) hTx hSx hRL (fun b hb => hb)
          rw [hfeed] at hcall
          refine hcall.mono ?_
          clear hcall hfeed hRL
          rintro e w5 ⟨rfl, hS5, hG5⟩
          have hZ5 := blk_only hZx hG5 (by omega)
          have hB5 := below_only hBx hG5 hBx.size (by omega)
          have hT5 := hTx.only hG5 (by omega)
          clear hX hNx hSx hZx hBx hTx hG5
          go_wp2_with fail
          go_roundw
          case rel => exact ⟨i + 1, by omega, by go_num, hS5, hT5, hZ5, hB5⟩
          case measure => simp [intOf]; omega
    · obtain rfl : i = m := by omega
      have hfl : frameF (L.take i) = frameF L := by rw [← HM.out, List.take_length]
      rw [hfl] at hSi
      go_wp2_with fail
      refine (sum_any (w.heap.size + 1) _ _ (feedS_ok zS_ok _) (by rw [feedS_n]; have := HN.out; show 0 + _ ≤ _; omega) hTi hSi).mono ?_
      rintro e w5 ⟨rfl, hB5⟩
      have hZ5 := hZi.be hB5
      have hE5 := below_tr hBi hB5
      have hlen : (u8s (shaF (frameF L))).length = 32 := by rw [u8s_len, shaF_len]
      have HLE := Sl.mk hlen
      have hfold : sumF (feedS zS (frameF L)) = shaF (frameF L) := rfl
      rw [hfold]
      clear hlen hB5 hfold hfl hz
      go_wp2_with ((refine wpList_store_blk rfl 37 (.tmp 2) (.tmp 36) rfl w.heap.size 0 37 (z8 32) (u8s (shaF (frameF L))) hZ5 rfl rfl (by rw [HLE.out]; simp [z8]) (by rw [info32, HLE.out]) (u8s_one _) ?_))
      intro w6 hB6 hG6 hs6
      have hB7 : Blk w6 w.heap.size 37 (u8s (shaF (frameF L))).toArray := by
        have e : u8s (shaF (frameF L)) ++ (z8 32).drop (u8s (shaF (frameF L))).length = u8s (shaF (frameF L)) := by rw [HLE.out]; simp [z8]
        first
          | rwa [e] at hB6
          | (rw [HLE.out] at e; rwa [e] at hB6)
      have hE : Below w.heap.size w w6 := below_only hE5 hG6 hE5.size (Nat.le_refl _)
      clear hB6 hG6 hs6
      go_wp2_with fail
      refine bodyPost_ret (v := .agg (u8s (shaF (frameF L))).toArray) (results_cell_row Tryd.results17 _ _ w.heap.size 37 (u8s (shaF (frameF L))).toArray (0, 0) _ rfl hB7 Tryd.underlying37 rfl (by rw [info32]; simp [HLE.out])) rfl ?_
      exact ⟨rfl, hE⟩

theorem len4_eq (k : Nat) (h : k ≤ 10000) : len4 k = [k / 16777216, k / 65536, k / 256, k % 256] := by
  have e : len4 k = [k / 16777216 % 256, k / 65536 % 256, k / 256 % 256, k % 256] := by simp [len4, len4F, List.range_succ]
  rw [e]
  congr 1
  · omega
  congr 1
  · omega
  congr 1
  omega
theorem heads_of {w : World} {base m : Nat} {v : Value} {hs : List Value} {S : Nat → Prop} {T : List (List Nat)} {e : TypeId} (hown : w.ownsRow base e 1 v m hs) (hH : Heads w S hs T) (hS : ∀ b, S b → b < w.heap.size) :
    ∃ A c, v = .slice A T.length c ∧ m = T.length ∧ RdSS w (fun b => b < w.heap.size) A T := by
  have hm : m = T.length := by have := hown.1; have := hH.1; omega
  subst hm
  obtain ⟨A, c, rfl⟩ := ownForm hown
  refine ⟨A, c, rfl, rfl, fun i hi => ?_⟩
  obtain ⟨g, c', hA, -, hg, hcells⟩ := ownCells hown (by omega)
  injection hA with hA _ _
  subst hA
  obtain ⟨Ai, ci, e, hr⟩ := hH.2 i hi
  exact ⟨_, Ai, ci, rfl, hg, by rw [add_zero']; exact hcells i _ e, rds_mono hr hS⟩
theorem rds_own {w : World} {base n : Nat} {v : Value} {l : List Nat} {e : TypeId} (hown : w.ownsRow base e 1 v n (u8s l)) : ∃ A c, v = .slice A l.length c ∧ n = l.length ∧ RdS w (fun b => b < w.heap.size) A l := by
  have hm : n = l.length := by have := hown.1; rw [u8s_len] at this; omega
  subst hm
  obtain ⟨A, c, rfl⟩ := ownForm hown
  refine ⟨A, c, rfl, rfl, fun i hi => ?_⟩
  obtain ⟨g, c', hA, -, hg, hcells⟩ := ownCells hown (by omega)
  injection hA with hA _ _
  subst hA
  exact ⟨_, rfl, hg, by rw [add_zero']; exact hcells i _ (by simp [u8s, hi])⟩

set_option maxRecDepth 100000 in
set_option maxHeartbeats 4000000 in
theorem frame_any (A : Option Addr) (c : Nat) (L : List (List Nat)) (S : Nat → Prop) (w : World) (hl : ∀ l ∈ L, l.length ≤ 10000) (hLn : L.length ≤ 1000) (hL : RdSS w S A L) (hS : ∀ b, S b → b < w.heap.size) :
    Calls Tryd.prog 18 #[.slice A L.length c] w fun e w' => ∃ v, e = .returned v ∧ w'.ownsRow w.heap.size 5 1 v (frameF L).length (u8s (frameF L)) ∧ Below w.heap.size w w' := by
  obtain ⟨j0, hj0, hy0, hy1, hy2⟩ := info_parts infob
  obtain ⟨m, hm⟩ : ∃ m, L.length = m := ⟨_, rfl⟩
  have HM := hide hm
  have HLL := Sl.mk hl
  have HL := Sl.mk hL
  have HS := Sl.mk hS
  rw [hm] at hLn ⊢
  clear hm hl hL hS
  go_enter Tryd.func18, Tryd.ntmps18
  go_wp2_with fail
  go_loopw [3, 4] (fun v3 v4 wr => ∃ (i kf : Nat), Sl ((frameF (L.take i)).length = kf) ∧ kf ≤ i * 10004 ∧ i ≤ m ∧ v4 = .int .i64 i ∧ wr.ownsRow w.heap.size 5 1 v3 kf (u8s (frameF (L.take i))) ∧ Below w.heap.size w wr) (fun _ v4 _ => m - (intOf v4).toNat)
  case atStart => exact ⟨0, 0, ⟨rfl⟩, by omega, by omega, rfl, World.ownsRow_nil _ _ _ _, Below.refl _ _⟩
  case round =>
    obtain ⟨i, kf, HKF, hkf, hi, rfl, hown, hB⟩ := hrel
    obtain ⟨A3, c3, rfl⟩ := ownForm hown
    by_cases hlt : i < m
    · have hiL : i < L.length := by rw [HM.out]; exact hlt
      obtain ⟨ad, Ai, ci, rfl, hSb, hcell0, hrd⟩ := HL.out i hiL
      have hcell : wr.cell? (ad.add i) = _ := (hB.cell (p := ad.add i) (by rw [block_of_add]; exact HS.out _ hSb)).trans hcell0
      have hlm : (L.getD i []).length ≤ 10000 := by
        have : L.getD i [] = L[i] := by simp [hiL]
        rw [this]; exact HLL.out _ (List.getElem_mem hiL)
      obtain ⟨l, hl⟩ : ∃ l, L.getD i [] = l := ⟨_, rfl⟩
      have hfs : frameF (L.take (i + 1)) = frameF (L.take i) ++ (len4 l.length ++ l) := by rw [take_succ_getD (d := []) hiL, hl, frameF_snoc]
      rw [hl] at hcell hrd hlm
      obtain ⟨k, hk⟩ : ∃ k, l.length = k := ⟨_, rfl⟩
      rw [hk] at hcell hlm hfs
      rw [len4_eq k (by omega)] at hfs
      have hRq := reads_rds (hrd.keep (w' := wr) (fun p hp => hB.cell (HS.out _ hp))) HS.out
      rw [hk] at hRq
      have hone := u8s_one l
      have HFS := Sl.mk hfs
      have HK := hide hk
      clear hl hfs hrd hcell0 hk
      have hR4 := reads_newL wr [.int .u8 ((k : Int) / 16777216), .int .u8 ((k : Int) / 65536), .int .u8 ((k : Int) / 256), .int .u8 ((k : Int) % 256)] 5 (Nat.lt_succ_self _)
      have h4 : u8s [k / 16777216, k / 65536, k / 256, k % 256] = [.int .u8 ((k : Int) / 16777216), .int .u8 ((k : Int) / 65536), .int .u8 ((k : Int) / 256), .int .u8 ((k : Int) % 256)] := by simp [u8s]
      have H4 := Sl.mk h4
      clear h4
      go_wp2_with (at_builtin; refine wpList_append_any _ rfl (.tmp 17) (.tmp 29) 23 rfl w.heap.size 5 j0 (.int .u8 0) 1 1 Tryd.underlying23 hj0 hy0 hy1 hy2 rfl (by decide) _ _ _ rfl (hown.alloc _) (wr.heap.size + 1) (some ⟨wr.heap.size, 0, none⟩) 4 4 [.int .u8 ((k : Int) / 16777216), .int .u8 ((k : Int) / 65536), .int .u8 ((k : Int) / 256), .int .u8 ((k : Int) % 256)] rfl hR4 (by intro u hu; simp at hu; rcases hu with rfl | rfl | rfl | rfl <;> rfl) (by unfold maxLen; omega) (by omega) (by have := hB.size; simp; omega) ?_)
      intro v6 w6 hown6 hg6 _
      have hB6 : Below w.heap.size w w6 := (below_al hB _).grown hg6 (by have := hB.size; simp; omega) (fun q hq => ownGe hown hq)
      have hR6 := hRq.keep (w' := w6) (fun p hp => by rw [hB6.cell hp, hB.cell hp])
      have hcell6 : w6.cell? (ad.add i) = some (.slice Ai k ci) := (hB6.cell (p := ad.add i) (by rw [block_of_add]; exact HS.out _ hSb)).trans ((hB.cell (p := ad.add i) (by rw [block_of_add]; exact HS.out _ hSb)).symm.trans hcell)
      obtain ⟨A6, c6, rfl⟩ := ownForm hown6
      clear hown hg6 hRq hR4 hcell hB
      go_wp2_with (at_builtin; refine wpList_append_any _ rfl (.tmp 31) (.tmp 35) 23 rfl w.heap.size 5 j0 (.int .u8 0) 1 1 Tryd.underlying23 hj0 hy0 hy1 hy2 rfl (by decide) _ _ _ rfl hown6 w.heap.size Ai k ci (u8s l) rfl hR6 hone (by unfold maxLen; omega) (by omega) hB6.size ?_)
      intro v7 w7 hown7 hg7 _
      have hB7 := hB6.grown hg7 hB6.size (fun q hq => ownGe hown6 hq)
      obtain ⟨A7, c7, rfl⟩ := ownForm hown7
      have hown8 : w7.ownsRow w.heap.size 5 1 (.slice A7 (kf + 4 + k) c7) (kf + 4 + k) (u8s (frameF (L.take (i + 1)))) := by
        rw [HFS.out]
        have : u8s (frameF (L.take i) ++ ([k / 16777216, k / 65536, k / 256, k % 256] ++ l)) = u8s (frameF (L.take i)) ++ u8s [k / 16777216, k / 65536, k / 256, k % 256] ++ u8s l := by simp [u8s]
        rw [this, H4.out, List.append_assoc]; exact hown7
      clear hown6 hown7 hg7 hR6 hB6 hcell6
      go_wp2_with fail
      go_roundw
      case rel => exact ⟨i + 1, kf + 4 + k, ⟨by rw [HFS.out, List.length_append, List.length_append, HKF.out, HK.out]; simp; omega⟩, by omega, by omega, by go_num, hown8, hB7⟩
      case measure => simp [intOf]; omega
    · obtain rfl : i = m := by omega
      have hfl : frameF (L.take i) = frameF L := by rw [← HM.out, List.take_length]
      rw [hfl] at hown HKF
      go_wp2_with fail
      go_ret
      exact ⟨_, rfl, by rw [HKF.out]; exact hown, hB⟩

end Go.Proofs.YtaffjcenojikjaaDoor
