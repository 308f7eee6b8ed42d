/-
  The contracts of bytes and one.
-/
import Derived.Test.YticcphppnmoogaaDoorDigMix
namespace Go.Proofs.YticcphppnmoogaaDoor
open Go.RowKit
attribute [local go_sem ↓] Go.wp_at_zero Go.wp_at_succ

def bytF (H : List Nat) (i : Nat) : Nat := H.getD (i / 4) 0 / 2 ^ (24 - i % 4 * 8) % 256
def bytesF (H : List Nat) : List Nat := (List.range 32).map (bytF H)
def z8 (n : Nat) : List Value := List.replicate n (.int .u8 0)
theorem info32 : (Tryd.prog.info? 45).map (·.size) = some 32 := by kernel_rfl
theorem range_get {f : Nat → Nat} {i n : Nat} (h : i < n) : (u8s ((List.range i).map f) ++ z8 (n - i))[i]? = some (.int .u8 0) := by
  rw [List.getElem?_append_right (by simp [u8s]), show (u8s ((List.range i).map f)).length = i by simp [u8s], Nat.sub_self]
  rw [z8, List.getElem?_replicate, if_pos (by omega)]
theorem range_set {w : World} {g : Nat} {t : TypeId} {f : Nat → Nat} {i n : Nat} (hB : Blk w g t (u8s ((List.range i).map f) ++ z8 (n - i)).toArray) (h : i < n) :
    Blk (w.setCell ⟨g, i, none⟩ (.int .u8 ((f i : Nat) : Int))) g t (u8s ((List.range (i + 1)).map f) ++ z8 (n - (i + 1))).toArray := by
  refine blk_set _ _ _ _ i _ _ hB ?_
  obtain ⟨m, hm⟩ : ∃ m, n - i = m + 1 := ⟨n - i - 1, by omega⟩
  have hl : (u8s ((List.range i).map f)).length = i := by simp [u8s]
  rw [List.setIfInBounds_toArray, hm, show n - (i + 1) = m from by omega, List.set_append, if_neg (by rw [hl]; omega), hl, Nat.sub_self]
  simp [z8, List.replicate_succ, u8s, List.range_succ]

set_option maxRecDepth 100000 in
set_option maxHeartbeats 4000000 in
theorem bytes_any (g n : Nat) (H R : List Nat) (w : World) (hH : H.length = 8) (hS : Blk w g 69 (strC H R n).toArray) :
    Calls Tryd.prog 42 #[.pointer (some ⟨g, 0, none⟩)] w fun e w' => e = .returned (.agg (u8s (bytesF H)).toArray) ∧ Below w.heap.size w w' := by
  have HH := hide hH
  clear hH
  go_enter Tryd.func42, Tryd.ntmps42
  go_wp2_with fail
  go_loopw [5] (fun v5 wr => ∃ i : Nat, i ≤ 32 ∧ v5 = .int .i64 i ∧ Blk wr w.heap.size 45 (z8 32).toArray ∧ Blk wr (w.heap.size + 1) 45 (u8s ((List.range i).map (bytF H)) ++ z8 (32 - i)).toArray ∧ Below w.heap.size w wr) (fun v5 _ => 32 - (intOf v5).toNat)
  case atStart => exact ⟨0, by omega, rfl, Blk.alloc (Blk.new w _ _) _, Blk.new' (by simp), below_al (below_al (Below.refl _ _) _) _⟩
  case round =>
    obtain ⟨i, hi, rfl, hZ, hW, hB⟩ := hrel
    by_cases hlt : i < 32
    · have hx : (strC H R n)[i / 4]? = some (.int .u32 ((H.getD (i / 4) 0 : Nat) : Int)) := by unfold strC; exact get_u32 (by rw [HH.out]; omega)
      have c0 := (hB.cell (p := ⟨g, i / 4, none⟩) hS.lt).trans (blk_at hS hx)
      have d0 := blk_at hW (range_get hlt)
      have f0 := hW.frozen i
      obtain ⟨x, ex⟩ : ∃ x, H.getD (i / 4) 0 = x := ⟨_, rfl⟩
      rw [ex] at c0
      have hb : bytF H i = x / 2 ^ (24 - i % 4 * 8) % 256 := by unfold bytF; rw [ex]
      have HB := hide hb
      clear hx ex hb
      go_wp2_with fail
      go_roundw
      case rel =>
        refine ⟨i + 1, by omega, by go_num, hZ.far (by simp) _, ?_, hB.setCell (by simp) _⟩
        have e : (x : Int) / 2 ^ (24 - i % 4 * 8) % 256 = ((bytF H i : Nat) : Int) := by rw [HB.out]; simp
        rw [e]
        exact range_set hW hlt
      case measure => simp [intOf]; omega
    · obtain rfl : i = 32 := by omega
      have hW2 : Blk wr (w.heap.size + 1) 45 (u8s (bytesF H)).toArray := by simpa [z8, bytesF] using hW
      have hlen : (u8s (bytesF H)).length = 32 := by simp [u8s, bytesF]
      have HL := Sl.mk hlen
      clear hlen hW
      go_wp2_with (first
        | (refine wpList_load_row rfl 45 (.tmp 3) rfl (w.heap.size + 1) rfl 45 (u8s (bytesF H)).toArray (0, 0) _ hW2 Tryd.underlying45 rfl (by rw [info32]; simp [HL.out]) ?_)
        | (refine wpList_store_blk rfl 45 (.tmp 2) (.tmp 23) rfl w.heap.size 0 45 (z8 32) (u8s (bytesF H)) hZ rfl rfl (by rw [HL.out]; simp [z8]) (by rw [info32, HL.out]) (u8s_one _) ?_))
      intro w2 hB2 hG2 hs2
      have hB3 : Blk w2 w.heap.size 45 (u8s (bytesF H)).toArray := by
        have e : u8s (bytesF H) ++ (z8 32).drop (u8s (bytesF H)).length = u8s (bytesF H) := by rw [HL.out]; simp [z8]
        first
          | rwa [e] at hB2
          | (rw [HL.out] at e; rwa [e] at hB2)
      have hE : Below w.heap.size w w2 := below_only hB hG2 hB.size (Nat.le_refl _)
      clear hB2 hG2 hs2
      go_wp2_with fail
      refine bodyPost_ret (v := .agg (u8s (bytesF H)).toArray) (results_cell_row Tryd.results42 _ _ w.heap.size 45 (u8s (bytesF H)).toArray (0, 0) _ rfl hB3 Tryd.underlying45 rfl (by rw [info32]; simp [HL.out])) rfl ?_
      exact ⟨rfl, hE⟩

/-- What one byte more does to a stream: its words, its rest, how many bytes. -/
abbrev StT := List Nat × List Nat × Nat
def oneS (s : StT) (c : Nat) : StT :=
  if (s.2.2 + 1) % 64 = 0 then (mixF (if s.2.2 = 0 then FT else s.1) (s.2.1.set (s.2.2 % 64) c), s.2.1.set (s.2.2 % 64) c, s.2.2 + 1)
  else (if s.2.2 = 0 then FT else s.1, s.2.1.set (s.2.2 % 64) c, s.2.2 + 1)
def okS (s : StT) : Prop := s.1.length = 8 ∧ s.2.1.length = 64
theorem mixF_len {H R : List Nat} (h : H.length = 8) : (mixF H R).length = 8 := by unfold mixF; rw [List.length_zipWith, mixV_len, h]; rfl
theorem oneS_ok {s : StT} {c : Nat} (h : okS s) : okS (oneS s c) := by
  unfold oneS
  have h1 : (if s.2.2 = 0 then FT else s.1).length = 8 := by
    split
    · rfl
    · exact h.1
  split
  · exact ⟨mixF_len h1, by simp [h.2]⟩
  · exact ⟨h1, by simp [h.2]⟩
theorem oneS_n (s : StT) (c : Nat) : (oneS s c).2.2 = s.2.2 + 1 := by unfold oneS; split <;> rfl
/-- A stream lies in block g. -/
def St (w : World) (g : Nat) (s : StT) : Prop := Blk w g 69 (strC s.1 s.2.1 s.2.2).toArray

theorem strC_n {H R : List Nat} {n : Nat} (hH : H.length = 8) (hR : R.length = 64) : (strC H R n)[72]? = some (.int .i64 (n : Int)) := by
  unfold strC
  rw [List.getElem?_append_right (by rw [u32s_len]; omega), u32s_len, hH, List.getElem?_append_right (by rw [u8s_len]; omega), u8s_len, hR]; rfl
theorem strC_r {H R : List Nat} {n k : Nat} (hH : H.length = 8) (hR : R.length = 64) (hk : k < 64) : (strC H R n)[8 + k]? = some (.int .u8 ((R.getD k 0 : Nat) : Int)) := by
  unfold strC
  rw [List.getElem?_append_right (by rw [u32s_len]; omega), u32s_len, hH, Nat.add_sub_cancel_left, List.getElem?_append_left (by rw [u8s_len]; omega)]
  simp [u8s, hR, hk]
theorem str_setr {w : World} {g : Nat} {t : TypeId} {H R : List Nat} {n k : Nat} (h : Blk w g t (strC H R n).toArray) (hH : H.length = 8) (hR : R.length = 64) (hk : k < 64) (c : Nat) :
    Blk (w.setCell ⟨g, 8 + k, none⟩ (.int .u8 (c : Int))) g t (strC H (R.set k c) n).toArray := by
  refine blk_set _ _ _ _ (8 + k) _ _ h ?_
  unfold strC
  rw [List.setIfInBounds_toArray, List.set_append_right _ _ (by rw [u32s_len]; omega), u32s_len, hH, Nat.add_sub_cancel_left, List.set_append_left _ _ (by rw [u8s_len]; omega)]
  simp [u8s]
theorem str_setn {w : World} {g : Nat} {t : TypeId} {H R : List Nat} {n : Nat} (h : Blk w g t (strC H R n).toArray) (hH : H.length = 8) (hR : R.length = 64) (m : Nat) :
    Blk (w.setCell ⟨g, 72, none⟩ (.int .i64 (m : Int))) g t (strC H R m).toArray := by
  refine blk_set _ _ _ _ 72 _ _ h ?_
  unfold strC
  rw [List.setIfInBounds_toArray, List.set_append_right _ _ (by rw [u32s_len]; omega), u32s_len, hH, List.set_append_right _ _ (by rw [u8s_len]; omega), u8s_len, hR]
  rfl
theorem Tabs.range {w : World} (h : Tabs w) : w.rangeAt 0 0 (u32s FT) := fun j v hv => by
  have hj : j < 8 := by
    have := (List.getElem?_eq_some_iff.1 hv).1
    simpa [u32s, FT] using this
  rw [Nat.zero_add]
  refine (h.2.2 j hj).trans ?_
  rw [← hv]
  have := get_u32 (l := FT) (r := []) (i := j) hj
  rw [List.append_nil] at this
  exact this.symm

set_option maxRecDepth 100000 in
set_option maxHeartbeats 4000000 in
theorem one_any (g : Nat) (s : StT) (c : Nat) (w : World) (hs : okS s) (hn : s.2.2 ≤ 1000000000000) (hg : 1 < g) (hT : Tabs w) (hS : St w g s) :
    Calls Tryd.prog 40 #[.pointer (some ⟨g, 0, none⟩), .int .u8 c] w fun e w' => e = .returned (.tuple #[]) ∧ St w' g (oneS s c) ∧ w.grownBy w' (some g) := by
  obtain ⟨H, R, n⟩ := s
  obtain ⟨hH, hR⟩ := hs
  simp only at hH hR hn
  have hS : Blk w g 69 (strC H R n).toArray := hS
  have hgl := hS.lt
  obtain ⟨H0, hH0⟩ : ∃ H0, (if n = 0 then FT else H) = H0 := ⟨_, rfl⟩
  have hH0l : H0.length = 8 := by
    rw [← hH0]
    split
    · rfl
    · exact hH
  have HH0 := Sl.mk hH0
  have HH := hide hH
  have HR := hide hR
  have hcn := blk_at hS (strC_n (n := n) hH hR)
  clear hH hR hH0
  go_enter Tryd.func40, Tryd.ntmps40
  go_upto_if 8 with fail
  go_cut [] (fun wx => Blk wx g 69 (strC H0 R n).toArray ∧ w.grownBy wx (some g))
  case first =>
    by_cases h0 : n = 0
    · have hn0 : ((n : Int) == 0) = true := by simp [h0]
      have hz : FT = H0 := by rw [← HH0.out, if_pos h0]
      have HZ := Sl.mk hz
      clear h0 hz hH0l
      go_wp2_with (first
        | (refine wpList_load_mid rfl 66 (.global 0) rfl 0 0 rfl (u32s FT) _ hT.range Tryd.underlying66 rfl info8 ?_)
        | (refine wpList_store_blk rfl 66 (.tmp 12) (.tmp 10) rfl g 0 69 (strC H R n) (u32s FT) hS rfl rfl (by simp [strC, u32s, u8s, FT, HH.out, HR.out]) info8 (u32s_one _) ?_))
      intro w2 hB2 hG2 hs2
      have e : (strC H R n).take 0 ++ u32s FT ++ (strC H R n).drop (0 + (u32s FT).length) = strC H0 R n := by
        unfold strC
        rw [List.take_zero, List.nil_append, Nat.zero_add, List.drop_append_of_le_length (by rw [u32s_len, u32s_len, HH.out]; decide), HZ.out]
        rw [List.drop_of_length_le (by rw [u32s_len, u32s_len, HH.out, ← HZ.out]; decide), List.nil_append]
      have hB3 : Blk w2 g 69 (strC H0 R n).toArray := by
        have h2 := hB2
        simp only [List.take_zero, List.nil_append, Nat.zero_add] at e h2
        rwa [e] at h2
      clear hB2 hs2 e
      go_wp2_with fail
      go_meet
      exact ⟨hB3, hG2⟩
    · have hn0 : ((n : Int) == 0) = false := by simp; omega
      have hz : H = H0 := by rw [← HH0.out, if_neg h0]
      go_wp2_with fail
      go_meet
      exact ⟨by rw [← hz]; exact hS, only_refl _ _⟩
  case rest =>
    obtain ⟨hS1, hG1⟩ := hcut
    have hcn1 := blk_at hS1 (strC_n (n := n) hH0l HR.out)
    have hk : n % 64 < 64 := Nat.mod_lt _ (by decide)
    have hd := blk_at hS1 (strC_r (n := n) hH0l HR.out hk)
    have hf := hS1.frozen (8 + n % 64)
    have hf2 := hS1.frozen 72
    have HH0l := hide hH0l
    clear hS hcn hH0l
    go_wp2_with fail
    refine wp_region_quiet_tail 10 (by kernel_rfl) (by kernel_rfl) ?_
    simp only [List.take_succ_cons, List.take_zero, List.drop_succ_cons, List.drop_zero]
    repeat (any_goals (first | go_big_quiet_step (fail) | quiet_step (fail)))
    refine wpQuiet_nil ?_
    intro _ hw'
    obtain ⟨nq, hw''⟩ := hw'
    subst hw''
    have hS2 := str_setr (hS1.drewN nq) HH0l.out HR.out hk c
    obtain ⟨w2, hw2⟩ : ∃ w2, (wc.drewN nq).setCell ⟨g, 8 + n % 64, none⟩ (.int .u8 (c : Int)) = w2 := ⟨_, rfl⟩
    have hG2 : w.grownBy w2 (some g) := by rw [← hw2]; exact only_setCell (only_drewN hG1 _) _ _
    rw [hw2] at hS2
    have hR2 : (R.set (n % 64) c).length = 64 := by rw [List.length_set, HR.out]
    have hcn2 := blk_at hS2 (strC_n (n := n) HH0l.out hR2)
    have hf3 := hS2.frozen 72
    have hS3 := str_setn hS2 HH0l.out hR2 (n + 1)
    have hG3 : w.grownBy (w2.setCell ⟨g, 72, none⟩ (.int .i64 ((n + 1 : Nat) : Int))) (some g) := only_setCell hG2 _ _
    obtain ⟨w3, hw3⟩ : ∃ w3, w2.setCell ⟨g, 72, none⟩ (.int .i64 ((n + 1 : Nat) : Int)) = w3 := ⟨_, rfl⟩
    rw [hw3] at hS3 hG3
    have hw4 : w2.setCell ⟨g, 72, none⟩ (.int .i64 ((n : Int) + 1)) = w3 := by rw [← hw3]; rfl
    have hcn3 : w3.cell? ⟨g, 72, none⟩ = some (.int .i64 ((n : Int) + 1)) := blk_at hS3 (strC_n (n := n + 1) HH0l.out hR2)
    have HR2 := hide hR2
    have hT3 := hT.only hG3 hg
    clear hS1 hG1 hT hcn1 hw3 hS2 hR2 hG2
    by_cases h64 : (n + 1) % 64 = 0
    · have ht : (((n : Int) + 1) % 64 == 0) = true := by simp; omega
      have hfin : oneS (H, R, n) c = (mixF H0 (R.set (n % 64) c), R.set (n % 64) c, n + 1) := by
        unfold oneS
        simp only
        rw [if_pos h64, HH0.out]
      have HF := Sl.mk hfin
      clear hfin h64
      go_wp2_with fail
      refine wp_region_quiet_tail 7 (by kernel_rfl) (by kernel_rfl) ?_
      simp only [List.take_succ_cons, List.take_zero, List.drop_succ_cons, List.drop_zero]
      repeat (any_goals (first | go_big_quiet_step (fail) | quiet_step (fail)))
      refine wpQuiet_nil ?_
      intro _ hw'
      obtain ⟨nq, hw''⟩ := hw'
      subst hw''
      go_wp2_with fail
      refine (mix_any g (n + 1) H0 (R.set (n % 64) c) (w3.drewN nq) HH0l.out HR2.out hg (by exact hT3) (hS3.drewN nq)).mono ?_
      rintro e w4 ⟨rfl, hS4, hG4⟩
      go_wp2_with fail
      go_end0
      refine ⟨rfl, ?_, only_trans (only_drewN hG3 _) hG4⟩
      rw [HF.out]
      exact hS4
    · have ht : (((n : Int) + 1) % 64 == 0) = false := by simp; omega
      have hfin : oneS (H, R, n) c = (H0, R.set (n % 64) c, n + 1) := by
        unfold oneS
        simp only
        rw [if_neg h64, HH0.out]
      have HF := Sl.mk hfin
      clear hfin h64
      go_wp2_with fail
      go_end0
      refine ⟨rfl, ?_, hG3⟩
      rw [HF.out]
      exact hS3

end Go.Proofs.YticcphppnmoogaaDoor
