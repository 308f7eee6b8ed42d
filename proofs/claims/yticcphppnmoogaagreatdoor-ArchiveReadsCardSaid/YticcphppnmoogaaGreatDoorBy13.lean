/-
  The contracts of bytes and one.
  The contracts of Write, Len and Fork.
  The contracts of Sum and Of.
  Byte slices that read: small words.
-/
import Derived.Test.YticcphppnmoogaaGreatDoorBy12

namespace Go.Proofs.YticcphppnmoogaaGreatDoor
open Go.RowKit
attribute [local go_sem ↓] Go.wp_at_zero Go.wp_at_succ

def bytF (H : List Nat) (i : Nat) : Nat := H.getD (i / 4) 0 / 2 ^ (24 - i % 4 * 8) % 256
def bytesF (H : List Nat) : List Nat := (List.range 32).map (bytF H)
def z8 (n : Nat) : List Value := List.replicate n (.int .u8 0)
theorem info32 : (Tryz.prog.info? 89).map (·.size) = some 32 := by kernel_rfl
theorem range_get {f : Nat → Nat} {i n : Nat} (h : i < n) : (u8s ((List.range i).map f) ++ z8 (n - i))[i]? = some (.int .u8 0) := by
  rw [List.getElem?_append_right (by simp [u8s]), show (u8s ((List.range i).map f)).length = i by simp [u8s], Nat.sub_self]
  rw [z8, List.getElem?_replicate, if_pos (by omega)]
theorem range_set {w : World} {g : Nat} {t : TypeId} {f : Nat → Nat} {i n : Nat} (hB : Blk w g t (u8s ((List.range i).map f) ++ z8 (n - i)).toArray) (h : i < n) :
    Blk (w.setCell ⟨g, i, none⟩ (.int .u8 ((f i : Nat) : Int))) g t (u8s ((List.range (i + 1)).map f) ++ z8 (n - (i + 1))).toArray := by
  refine blk_set _ _ _ _ i _ _ hB ?_
  obtain ⟨m, hm⟩ : ∃ m, n - i = m + 1 := ⟨n - i - 1, by omega⟩
  have hl : (u8s ((List.range i).map f)).length = i := by simp [u8s]
  rw [List.setIfInBounds_toArray, hm, show n - (i + 1) = m from by omega, List.set_append, if_neg (by rw [hl]; omega), hl, Nat.sub_self]
  simp [z8, List.replicate_succ, u8s, List.range_succ]

set_option maxRecDepth 100000 in
set_option maxHeartbeats 4000000 in
theorem bytes_any (g n : Nat) (H R : List Nat) (w : World) (hH : H.length = 8) (hS : Blk w g 121 (strC H R n).toArray) :
    Calls Tryz.prog 91 #[.pointer (some ⟨g, 0, none⟩)] w fun e w' => e = .returned (.agg (u8s (bytesF H)).toArray) ∧ Below w.heap.size w w' := by
  have HH := hide hH
  clear hH
  go_enter Tryz.func91, Tryz.ntmps91
  go_wp2_with fail
  go_loopw [5] (fun v5 wr => ∃ i : Nat, i ≤ 32 ∧ v5 = .int .i64 i ∧ Blk wr w.heap.size 89 (z8 32).toArray ∧ Blk wr (w.heap.size + 1) 89 (u8s ((List.range i).map (bytF H)) ++ z8 (32 - i)).toArray ∧ Below w.heap.size w wr) (fun v5 _ => 32 - (intOf v5).toNat)
  case atStart => exact ⟨0, by omega, rfl, Blk.alloc (Blk.new w _ _) _, Blk.new' (by simp), below_al (below_al (Below.refl _ _) _) _⟩
  case round =>
    obtain ⟨i, hi, rfl, hZ, hW, hB⟩ := hrel
    by_cases hlt : i < 32
    · have hx : (strC H R n)[i / 4]? = some (.int .u32 ((H.getD (i / 4) 0 : Nat) : Int)) := by unfold strC; exact get_u32 (by rw [HH.out]; omega)
      have c0 := (hB.cell (p := ⟨g, i / 4, none⟩) hS.lt).trans (blk_at hS hx)
      have d0 := blk_at hW (range_get hlt)
      have f0 := hW.frozen i
      obtain ⟨x, ex⟩ : ∃ x, H.getD (i / 4) 0 = x := ⟨_, rfl⟩
      rw [ex] at c0
      have hb : bytF H i = x / 2 ^ (24 - i % 4 * 8) % 256 := by unfold bytF; rw [ex]
      have HB := hide hb
      clear hx ex hb
      go_wp2_with fail
      go_roundw
      case rel =>
        refine ⟨i + 1, by omega, by go_num, hZ.far (by simp) _, ?_, hB.setCell (by simp) _⟩
        have e : (x : Int) / 2 ^ (24 - i % 4 * 8) % 256 = ((bytF H i : Nat) : Int) := by rw [HB.out]; simp
        rw [e]
        exact range_set hW hlt
      case measure => simp [intOf]; omega
    · obtain rfl : i = 32 := by omega
      have hW2 : Blk wr (w.heap.size + 1) 89 (u8s (bytesF H)).toArray := by simpa [z8, bytesF] using hW
      have hlen : (u8s (bytesF H)).length = 32 := by simp [u8s, bytesF]
      have HL := Sl.mk hlen
      clear hlen hW
      go_wp2_with (first
        | (refine wpList_load_row rfl 89 (.tmp 3) rfl (w.heap.size + 1) rfl 89 (u8s (bytesF H)).toArray (0, 0) _ hW2 Tryz.underlying89 rfl (by rw [info32]; simp [HL.out]) ?_)
        | (refine wpList_store_blk rfl 89 (.tmp 2) (.tmp 23) rfl w.heap.size 0 89 (z8 32) (u8s (bytesF H)) hZ rfl rfl (by rw [HL.out]; simp [z8]) (by rw [info32, HL.out]) (u8s_one _) ?_))
      intro w2 hB2 hG2 hs2
      have hB3 : Blk w2 w.heap.size 89 (u8s (bytesF H)).toArray := by
        have e : u8s (bytesF H) ++ (z8 32).drop (u8s (bytesF H)).length = u8s (bytesF H) := by rw [HL.out]; simp [z8]
        first
          | rwa [e] at hB2
          | (rw [HL.out] at e; rwa [e] at hB2)
      have hE : Below w.heap.size w w2 := below_only hB hG2 hB.size (Nat.le_refl _)
      clear hB2 hG2 hs2
      go_wp2_with fail
      refine bodyPost_ret (v := .agg (u8s (bytesF H)).toArray) (results_cell_row Tryz.results91 _ _ w.heap.size 89 (u8s (bytesF H)).toArray (0, 0) _ rfl hB3 Tryz.underlying89 rfl (by rw [info32]; simp [HL.out])) rfl ?_
      exact ⟨rfl, hE⟩

/-- What one byte more does to a stream: its words, its rest, how many bytes. -/
abbrev StT := List Nat × List Nat × Nat
def oneS (s : StT) (c : Nat) : StT :=
  if (s.2.2 + 1) % 64 = 0 then (mixF (if s.2.2 = 0 then FT else s.1) (s.2.1.set (s.2.2 % 64) c), s.2.1.set (s.2.2 % 64) c, s.2.2 + 1)
  else (if s.2.2 = 0 then FT else s.1, s.2.1.set (s.2.2 % 64) c, s.2.2 + 1)
def okS (s : StT) : Prop := s.1.length = 8 ∧ s.2.1.length = 64
theorem mixF_len {H R : List Nat} (h : H.length = 8) : (mixF H R).length = 8 := by unfold mixF; rw [List.length_zipWith, mixV_len, h]; rfl
theorem oneS_ok {s : StT} {c : Nat} (h : okS s) : okS (oneS s c) := by
  unfold oneS
  have h1 : (if s.2.2 = 0 then FT else s.1).length = 8 := by
    split
    · rfl
    · exact h.1
  split
  · exact ⟨mixF_len h1, by simp [h.2]⟩
  · exact ⟨h1, by simp [h.2]⟩
theorem oneS_n (s : StT) (c : Nat) : (oneS s c).2.2 = s.2.2 + 1 := by unfold oneS; split <;> rfl
/-- A stream lies in block g. -/
def St (w : World) (g : Nat) (s : StT) : Prop := Blk w g 121 (strC s.1 s.2.1 s.2.2).toArray

theorem strC_n {H R : List Nat} {n : Nat} (hH : H.length = 8) (hR : R.length = 64) : (strC H R n)[72]? = some (.int .i64 (n : Int)) := by
  unfold strC
  rw [List.getElem?_append_right (by rw [u32s_len]; omega), u32s_len, hH, List.getElem?_append_right (by rw [u8s_len]; omega), u8s_len, hR]; rfl
theorem strC_r {H R : List Nat} {n k : Nat} (hH : H.length = 8) (hR : R.length = 64) (hk : k < 64) : (strC H R n)[8 + k]? = some (.int .u8 ((R.getD k 0 : Nat) : Int)) := by
  unfold strC
  rw [List.getElem?_append_right (by rw [u32s_len]; omega), u32s_len, hH, Nat.add_sub_cancel_left, List.getElem?_append_left (by rw [u8s_len]; omega)]
  simp [u8s, hR, hk]
theorem str_setr {w : World} {g : Nat} {t : TypeId} {H R : List Nat} {n k : Nat} (h : Blk w g t (strC H R n).toArray) (hH : H.length = 8) (hR : R.length = 64) (hk : k < 64) (c : Nat) :
    Blk (w.setCell ⟨g, 8 + k, none⟩ (.int .u8 (c : Int))) g t (strC H (R.set k c) n).toArray := by
  refine blk_set _ _ _ _ (8 + k) _ _ h ?_
  unfold strC
  rw [List.setIfInBounds_toArray, List.set_append_right _ _ (by rw [u32s_len]; omega), u32s_len, hH, Nat.add_sub_cancel_left, List.set_append_left _ _ (by rw [u8s_len]; omega)]
  simp [u8s]
theorem str_setn {w : World} {g : Nat} {t : TypeId} {H R : List Nat} {n : Nat} (h : Blk w g t (strC H R n).toArray) (hH : H.length = 8) (hR : R.length = 64) (m : Nat) :
    Blk (w.setCell ⟨g, 72, none⟩ (.int .i64 (m : Int))) g t (strC H R m).toArray := by
  refine blk_set _ _ _ _ 72 _ _ h ?_
  unfold strC
  rw [List.setIfInBounds_toArray, List.set_append_right _ _ (by rw [u32s_len]; omega), u32s_len, hH, List.set_append_right _ _ (by rw [u8s_len]; omega), u8s_len, hR]
  rfl
theorem Tabs.range {w : World} (h : Tabs w) : w.rangeAt 0 0 (u32s FT) := fun j v hv => by
  have hj : j < 8 := by
    have := (List.getElem?_eq_some_iff.1 hv).1
    simpa [u32s, FT] using this
  rw [Nat.zero_add]
  refine (h.2.2 j hj).trans ?_
  rw [← hv]
  have := get_u32 (l := FT) (r := []) (i := j) hj
  rw [List.append_nil] at this
  exact this.symm

set_option maxRecDepth 100000 in
set_option maxHeartbeats 4000000 in
theorem one_any (g : Nat) (s : StT) (c : Nat) (w : World) (hs : okS s) (hn : s.2.2 ≤ 1000000000000) (hg : 2 < g) (hT : Tabs w) (hS : St w g s) :
    Calls Tryz.prog 89 #[.pointer (some ⟨g, 0, none⟩), .int .u8 c] w fun e w' => e = .returned (.tuple #[]) ∧ St w' g (oneS s c) ∧ w.grownBy w' (some g) := by
  obtain ⟨H, R, n⟩ := s
  obtain ⟨hH, hR⟩ := hs
  simp only at hH hR hn
  have hS : Blk w g 121 (strC H R n).toArray := hS
  have hgl := hS.lt
  obtain ⟨H0, hH0⟩ : ∃ H0, (if n = 0 then FT else H) = H0 := ⟨_, rfl⟩
  have hH0l : H0.length = 8 := by
    rw [← hH0]
    split
    · rfl
    · exact hH
  have HH0 := Sl.mk hH0
  have HH := hide hH
  have HR := hide hR
  have hcn := blk_at hS (strC_n (n := n) hH hR)
  clear hH hR hH0
  go_enter Tryz.func89, Tryz.ntmps89
  go_upto_if 8 with fail
  go_cut [] (fun wx => Blk wx g 121 (strC H0 R n).toArray ∧ w.grownBy wx (some g))
  case first =>
    by_cases h0 : n = 0
    · have hn0 : ((n : Int) == 0) = true := by simp [h0]
      have hz : FT = H0 := by rw [← HH0.out, if_pos h0]
      have HZ := Sl.mk hz
      clear h0 hz hH0l
      go_wp2_with (first
        | (refine wpList_load_mid rfl 118 (.global 0) rfl 0 0 rfl (u32s FT) _ hT.range Tryz.underlying118 rfl info8 ?_)
        | (refine wpList_store_blk rfl 118 (.tmp 12) (.tmp 10) rfl g 0 121 (strC H R n) (u32s FT) hS rfl rfl (by simp [strC, u32s, u8s, FT, HH.out, HR.out]) info8 (u32s_one _) ?_))
      intro w2 hB2 hG2 hs2
      have e : (strC H R n).take 0 ++ u32s FT ++ (strC H R n).drop (0 + (u32s FT).length) = strC H0 R n := by
        unfold strC
        rw [List.take_zero, List.nil_append, Nat.zero_add, List.drop_append_of_le_length (by rw [u32s_len, u32s_len, HH.out]; decide), HZ.out]
        rw [List.drop_of_length_le (by rw [u32s_len, u32s_len, HH.out, ← HZ.out]; decide), List.nil_append]
      have hB3 : Blk w2 g 121 (strC H0 R n).toArray := by
        have h2 := hB2
        simp only [List.take_zero, List.nil_append, Nat.zero_add] at e h2
        rwa [e] at h2
      clear hB2 hs2 e
      go_wp2_with fail
      go_meet
      exact ⟨hB3, hG2⟩
    · have hn0 : ((n : Int) == 0) = false := by simp; omega
      have hz : H = H0 := by rw [← HH0.out, if_neg h0]
      go_wp2_with fail
      go_meet
      exact ⟨by rw [← hz]; exact hS, only_refl _ _⟩
  case rest =>
    obtain ⟨hS1, hG1⟩ := hcut
    have hcn1 := blk_at hS1 (strC_n (n := n) hH0l HR.out)
    have hk : n % 64 < 64 := Nat.mod_lt _ (by decide)
    have hd := blk_at hS1 (strC_r (n := n) hH0l HR.out hk)
    have hf := hS1.frozen (8 + n % 64)
    have hf2 := hS1.frozen 72
    have HH0l := hide hH0l
    clear hS hcn hH0l
    go_wp2_with fail
    refine wp_region_quiet_tail 10 (by kernel_rfl) (by kernel_rfl) ?_
    simp only [List.take_succ_cons, List.take_zero, List.drop_succ_cons, List.drop_zero]
    repeat (any_goals (first | go_big_quiet_step (fail) | quiet_step (fail)))
    refine wpQuiet_nil ?_
    intro _ hw'
    obtain ⟨nq, hw''⟩ := hw'
    subst hw''
    have hS2 := str_setr (hS1.drewN nq) HH0l.out HR.out hk c
    obtain ⟨w2, hw2⟩ : ∃ w2, (wc.drewN nq).setCell ⟨g, 8 + n % 64, none⟩ (.int .u8 (c : Int)) = w2 := ⟨_, rfl⟩
    have hG2 : w.grownBy w2 (some g) := by rw [← hw2]; exact only_setCell (only_drewN hG1 _) _ _
    rw [hw2] at hS2
    have hR2 : (R.set (n % 64) c).length = 64 := by rw [List.length_set, HR.out]
    have hcn2 := blk_at hS2 (strC_n (n := n) HH0l.out hR2)
    have hf3 := hS2.frozen 72
    have hS3 := str_setn hS2 HH0l.out hR2 (n + 1)
    have hG3 : w.grownBy (w2.setCell ⟨g, 72, none⟩ (.int .i64 ((n + 1 : Nat) : Int))) (some g) := only_setCell hG2 _ _
    obtain ⟨w3, hw3⟩ : ∃ w3, w2.setCell ⟨g, 72, none⟩ (.int .i64 ((n + 1 : Nat) : Int)) = w3 := ⟨_, rfl⟩
    rw [hw3] at hS3 hG3
    have hw4 : w2.setCell ⟨g, 72, none⟩ (.int .i64 ((n : Int) + 1)) = w3 := by rw [← hw3]; rfl
    have hcn3 : w3.cell? ⟨g, 72, none⟩ = some (.int .i64 ((n : Int) + 1)) := blk_at hS3 (strC_n (n := n + 1) HH0l.out hR2)
    have HR2 := hide hR2
    have hT3 := hT.only hG3 hg
    clear hS1 hG1 hT hcn1 hw3 hS2 hR2 hG2
    by_cases h64 : (n + 1) % 64 = 0
    · have ht : (((n : Int) + 1) % 64 == 0) = true := by simp; omega
      have hfin : oneS (H, R, n) c = (mixF H0 (R.set (n % 64) c), R.set (n % 64) c, n + 1) := by
        unfold oneS
        simp only
        rw [if_pos h64, HH0.out]
      have HF := Sl.mk hfin
      clear hfin h64
      go_wp2_with fail
      refine wp_region_quiet_tail 7 (by kernel_rfl) (by kernel_rfl) ?_
      simp only [List.take_succ_cons, List.take_zero, List.drop_succ_cons, List.drop_zero]
      repeat (any_goals (first | go_big_quiet_step (fail) | quiet_step (fail)))
      refine wpQuiet_nil ?_
      intro _ hw'
      obtain ⟨nq, hw''⟩ := hw'
      subst hw''
      go_wp2_with fail
      refine (mix_any g (n + 1) H0 (R.set (n % 64) c) (w3.drewN nq) HH0l.out HR2.out hg (by exact hT3) (hS3.drewN nq)).mono ?_
      rintro e w4 ⟨rfl, hS4, hG4⟩
      go_wp2_with fail
      go_end0
      refine ⟨rfl, ?_, only_trans (only_drewN hG3 _) hG4⟩
      rw [HF.out]
      exact hS4
    · have ht : (((n : Int) + 1) % 64 == 0) = false := by simp; omega
      have hfin : oneS (H, R, n) c = (H0, R.set (n % 64) c, n + 1) := by
        unfold oneS
        simp only
        rw [if_neg h64, HH0.out]
      have HF := Sl.mk hfin
      clear hfin h64
      go_wp2_with fail
      go_end0
      refine ⟨rfl, ?_, hG3⟩
      rw [HF.out]
      exact hS3

end Go.Proofs.YticcphppnmoogaaGreatDoor

namespace Go.Proofs.YticcphppnmoogaaGreatDoor
open Go.RowKit
attribute [local go_sem ↓] Go.wp_at_zero Go.wp_at_succ

def feedS (s : StT) (cs : List Nat) : StT := cs.foldl oneS s
theorem feedS_nil (s : StT) : feedS s [] = s := rfl
theorem feedS_app (s : StT) (a b : List Nat) : feedS s (a ++ b) = feedS (feedS s a) b := List.foldl_append ..
theorem feedS_snoc (s : StT) (a : List Nat) (c : Nat) : feedS s (a ++ [c]) = oneS (feedS s a) c := by rw [feedS_app]; rfl
theorem feedS_ok {s : StT} (h : okS s) : ∀ cs : List Nat, okS (feedS s cs) := by
  intro cs
  induction cs generalizing s with
  | nil => exact h
  | cons c cs ih => exact ih (oneS_ok h)
theorem feedS_n (s : StT) (cs : List Nat) : (feedS s cs).2.2 = s.2.2 + cs.length := by
  induction cs generalizing s with
  | nil => rfl
  | cons c cs ih =>
    have := ih (s := oneS s c)
    rw [oneS_n] at this
    show (feedS (oneS s c) cs).2.2 = _
    rw [this, List.length_cons]; omega

/-- Bytes that lie in blocks of a kind. -/
def RdS (w : World) (S : Nat → Prop) (A : Option Addr) (l : List Nat) : Prop := ∀ j, j < l.length → ∃ ad, A = some ad ∧ S ad.block ∧ w.cell? (ad.add j) = some (.int .u8 ((l.getD j 0 : Nat) : Int))
/-- Texts that lie in blocks of a kind. -/
def RdSS (w : World) (S : Nat → Prop) (A : Option Addr) (L : List (List Nat)) : Prop :=
  ∀ i, i < L.length → ∃ ad Ai ci, A = some ad ∧ S ad.block ∧ w.cell? (ad.add i) = some (.slice Ai (L.getD i []).length ci) ∧ RdS w S Ai (L.getD i [])
theorem RdS.keep {w w' : World} {S : Nat → Prop} {A : Option Addr} {l : List Nat} (h : RdS w S A l) (hk : ∀ p : Addr, S p.block → w'.cell? p = w.cell? p) : RdS w' S A l := fun j hj => by
  obtain ⟨ad, e, hS, hc⟩ := h j hj
  exact ⟨ad, e, hS, (hk _ (by rw [block_of_add]; exact hS)).trans hc⟩
theorem RdSS.keep {w w' : World} {S : Nat → Prop} {A : Option Addr} {L : List (List Nat)} (h : RdSS w S A L) (hk : ∀ p : Addr, S p.block → w'.cell? p = w.cell? p) : RdSS w' S A L := fun i hi => by
  obtain ⟨ad, Ai, ci, e, hS, hc, hr⟩ := h i hi
  exact ⟨ad, Ai, ci, e, hS, (hk _ (by rw [block_of_add]; exact hS)).trans hc, hr.keep hk⟩
theorem RdS.only {w w' : World} {S : Nat → Prop} {A : Option Addr} {l : List Nat} {g : Nat} (h : RdS w S A l) (hg : w.grownBy w' (some g)) (hS : ∀ b, S b → b < w.heap.size ∧ b ≠ g) : RdS w' S A l :=
  h.keep fun p hp => World.cell?_of_block (hg.block p.block (hS _ hp).1 (fun e => (hS _ hp).2 (by injection e)))
theorem RdSS.only {w w' : World} {S : Nat → Prop} {A : Option Addr} {L : List (List Nat)} {g : Nat} (h : RdSS w S A L) (hg : w.grownBy w' (some g)) (hS : ∀ b, S b → b < w.heap.size ∧ b ≠ g) : RdSS w' S A L :=
  h.keep fun p hp => World.cell?_of_block (hg.block p.block (hS _ hp).1 (fun e => (hS _ hp).2 (by injection e)))
theorem cell_only {w w' : World} {S : Nat → Prop} {g : Nat} (hg : w.grownBy w' (some g)) (hS : ∀ b, S b → b < w.heap.size ∧ b ≠ g) {ad : Addr} (hb : S ad.block) {j : Nat} {v : Value} (h : w.cell? (ad.add j) = some v) : w'.cell? (ad.add j) = some v :=
  (World.cell?_of_block (hg.block _ (by rw [block_of_add]; exact (hS _ hb).1) (fun e => (hS _ hb).2 (by rw [block_of_add] at e; injection e)))).trans h
theorem take_succ_getD {α : Type} {l : List α} {d : α} {i : Nat} (h : i < l.length) : l.take (i + 1) = l.take i ++ [l.getD i d] := by
  rw [List.take_succ_eq_append_getElem h]; simp [h]

theorem write_nil (x : Value) (w : World) : Calls Tryz.prog 73 #[.pointer none, x] w fun e w' => e = .returned (.pointer none) ∧ w = w' := by
  go_enter Tryz.func73, Tryz.ntmps73
  go_wp2_with fail
  go_ret
  exact ⟨rfl, rfl⟩

set_option maxRecDepth 100000 in
set_option maxHeartbeats 4000000 in
theorem write_any (g : Nat) (s : StT) (A : Option Addr) (c : Nat) (L : List (List Nat)) (S : Nat → Prop) (w : World) (hs : okS s) (hn : s.2.2 + L.flatten.length ≤ 1000000000000) (hLn : L.length ≤ 1000000000000) (hg : 2 < g) (hT : Tabs w) (hSt : St w g s)
    (hL : RdSS w S A L) (hS : ∀ b, S b → b < w.heap.size ∧ b ≠ g) :
    Calls Tryz.prog 73 #[.pointer (some ⟨g, 0, none⟩), .slice A L.length c] w fun e w' => e = .returned (.pointer (some ⟨g, 0, none⟩)) ∧ St w' g (feedS s L.flatten) ∧ w.grownBy w' (some g) := by
  obtain ⟨m, hm⟩ : ∃ m, L.length = m := ⟨_, rfl⟩
  have HM := hide hm
  rw [hm] at hLn ⊢
  have HN := Sl.mk hn
  have HS := Sl.mk hS
  have HL := Sl.mk hL
  clear hm hn hS hL
  go_enter Tryz.func73, Tryz.ntmps73
  go_wp2_with fail
  go_loopw [13] (fun v13 wr => ∃ i : Nat, i ≤ m ∧ v13 = .int .i64 i ∧ St wr g (feedS s (L.take i).flatten) ∧ Tabs wr ∧ w.grownBy wr (some g)) (fun v13 _ => m - (intOf v13).toNat)
  case atStart => exact ⟨0, by omega, rfl, hSt, hT, only_refl _ _⟩
  case round =>
    obtain ⟨i, hi, rfl, hSi, hTi, hGi⟩ := hrel
    clear hSt hT
    by_cases hlt : i < m
    · obtain ⟨ad, Ai, ci, rfl, hSb, hcell0, hrd⟩ := HL.out i (by rw [HM.out]; exact hlt)
      have hcell := cell_only hGi HS.out hSb hcell0
      clear hcell0
      obtain ⟨l, hl⟩ : ∃ l, L.getD i [] = l := ⟨_, rfl⟩
      rw [hl] at hcell hrd
      obtain ⟨k, hk⟩ : ∃ k, l.length = k := ⟨_, rfl⟩
      rw [hk] at hcell
      have htk : (L.take (i + 1)).flatten = (L.take i).flatten ++ l := by rw [take_succ_getD (d := []) (by rw [HM.out]; exact hlt), hl]; simp
      have hle : (L.take i).flatten.length + l.length ≤ L.flatten.length := by
        rw [← List.length_append, ← htk]
        conv => rhs; rw [← List.take_append_drop (i + 1) L, List.flatten_append, List.length_append]
        omega
      have hkm : k ≤ 1000000000000 := by have := HN.out; omega
      have HTK := Sl.mk htk
      have HLE := Sl.mk hle
      have HK := hide hk
      have HRD := Sl.mk hrd
      clear htk hle hk hl hrd
      go_wp2_with fail
      obtain ⟨wo, hwo⟩ : ∃ wo, wo = wr := ⟨_, rfl⟩
      subst hwo
      go_loopw [19] (fun v19 wr => ∃ j : Nat, j ≤ k ∧ v19 = .int .i64 j ∧ St wr g (feedS s ((L.take i).flatten ++ l.take j)) ∧ Tabs wr ∧ w.grownBy wr (some g)) (fun v19 _ => k - (intOf v19).toNat)
      case atStart => exact ⟨0, by omega, rfl, by rw [List.take_zero, List.append_nil]; exact hSi, hTi, hGi⟩
      case round =>
        obtain ⟨j, hj, rfl, hSj, hTj, hGj⟩ := hrel
        clear hSi hTi hGi
        by_cases hjl : j < k
        · obtain ⟨ad2, rfl, hS2, hc2⟩ := HRD.out j (by rw [HK.out]; exact hjl)
          have hc3 := cell_only hGj HS.out hS2 hc2
          have hsn : feedS s ((L.take i).flatten ++ l.take (j + 1)) = oneS (feedS s ((L.take i).flatten ++ l.take j)) (l.getD j 0) := by
            rw [take_succ_getD (d := 0) (by rw [HK.out]; exact hjl), ← List.append_assoc, feedS_snoc]
          have hnn : (feedS s ((L.take i).flatten ++ l.take j)).2.2 ≤ 1000000000000 := by
            rw [feedS_n, List.length_append, List.length_take]
            have := HN.out
            have := HLE.out
            omega
          have hok := feedS_ok hs ((L.take i).flatten ++ l.take j)
          obtain ⟨x, hx⟩ : ∃ x, l.getD j 0 = x := ⟨_, rfl⟩
          rw [hx] at hc3 hsn
          have HSN := Sl.mk hsn
          clear hsn hx hc2 hSb hcell
          go_wp2_with fail
          refine (one_any g _ x _ hok hnn hg hTj hSj).mono ?_
          rintro e w2 ⟨rfl, hS3, hG3⟩
          go_wp2_with fail
          go_roundw
          case rel => exact ⟨j + 1, by omega, by go_num, by rw [HSN.out]; exact hS3, hTj.only hG3 hg, only_trans hGj hG3⟩
          case measure => simp [intOf]; omega
        · obtain rfl : j = k := by omega
          have hfl : (L.take i).flatten ++ l.take j = (L.take (i + 1)).flatten := by rw [HTK.out, ← HK.out, List.take_length]
          go_wp2_with fail
          go_roundw
          case rel => exact ⟨i + 1, by omega, by go_num, by rw [← hfl]; exact hSj, hTj, hGj⟩
          case measure => simp [intOf]; omega
    · obtain rfl : i = m := by omega
      have hfl : (L.take i).flatten = L.flatten := by rw [← HM.out, List.take_length]
      rw [hfl] at hSi
      go_wp2_with fail
      go_ret
      exact ⟨rfl, hSi, hGi⟩

/-- A stream that was told nothing. -/
def zS : StT := (List.replicate 8 0, List.replicate 64 0, 0)
theorem zS_ok : okS zS := ⟨rfl, rfl⟩
theorem info73 : (Tryz.prog.info? 121).map (·.size) = some 73 := by kernel_rfl
theorem strC_one (H R : List Nat) (n : Nat) : ∀ v ∈ strC H R n, v.oneCell' = true := by
  intro v hv
  simp only [strC, List.mem_append, List.mem_singleton] at hv
  rcases hv with hv | hv | rfl
  · exact u32s_one _ v hv
  · exact u8s_one _ v hv
  · rfl
theorem strC_len {H R : List Nat} {n : Nat} (hH : H.length = 8) (hR : R.length = 64) : (strC H R n).length = 73 := by simp [strC, u32s, u8s, hH, hR]

theorem zero73 (w : World) : (zeroValue 121).run Tryz.prog w = .ok (.agg (strC zS.1 zS.2.1 zS.2.2).toArray) w := by kernel_rfl
theorem fork_nil (w : World) : Calls Tryz.prog 90 #[.pointer none] w fun e w' => e = .returned (.pointer (some ⟨w.heap.size, 0, none⟩)) ∧ St w' w.heap.size zS ∧ Below w.heap.size w w' := by
  have hz := zero73
  go_enter Tryz.func90, Tryz.ntmps90
  go_wp2_with fail
  go_ret
  exact ⟨rfl, Blk.new' rfl, below_al (Below.refl _ _) _⟩
set_option maxRecDepth 100000 in
theorem fork_any (g : Nat) (s : StT) (w : World) (hs : okS s) (hS : St w g s) :
    Calls Tryz.prog 90 #[.pointer (some ⟨g, 0, none⟩)] w fun e w' => e = .returned (.pointer (some ⟨w.heap.size, 0, none⟩)) ∧ St w' w.heap.size s ∧ Below w.heap.size w w' := by
  have hlen := strC_len (n := s.2.2) hs.1 hs.2
  have HL := Sl.mk hlen
  have hall : ((strC s.1 s.2.1 s.2.2).drop 0).take 73 = strC s.1 s.2.1 s.2.2 := by rw [List.drop_zero, List.take_of_length_le (by rw [hlen]; omega)]
  have HA := Sl.mk hall
  clear hlen hall
  have hz := zero73
  go_enter Tryz.func90, Tryz.ntmps90
  go_wp2_with (first
    | (refine wpList_load_vs rfl 121 (.tmp 10) rfl g 0 73 121 (strC s.1 s.2.1 s.2.2) (strC s.1 s.2.1 s.2.2) _ (Blk.alloc hS _) rfl HA.out HL.out Tryz.underlying121 rfl info73 ?_)
    | (refine wpList_store_fresh rfl 121 (.tmp 12) (.tmp 11) rfl 121 (strC zS.1 zS.2.1 zS.2.2) (strC s.1 s.2.1 s.2.2) _ rfl rfl rfl (by rw [HL.out]; rfl) (by rw [info73, HL.out]) (strC_one _ _ _) ?_))
  intro w2 hB2 hE2 hs2
  go_wp2_with fail
  go_ret
  exact ⟨rfl, hB2, hE2⟩

end Go.Proofs.YticcphppnmoogaaGreatDoor

namespace Go.Proofs.YticcphppnmoogaaGreatDoor
open Go.RowKit
attribute [local go_sem ↓] Go.wp_at_zero Go.wp_at_succ

def padK (n : Nat) : Nat := (119 - n % 64) % 64
def lenF (n i : Nat) : Nat := n * 8 / 2 ^ (8 * (7 - i)) % 256
def lenB (n : Nat) : List Nat := (List.range 8).map (lenF n)
def sumF (s : StT) : List Nat := bytesF (feedS s (128 :: List.replicate (padK s.2.2) 0 ++ lenB s.2.2)).1
def totOf (w : World) (g : Nat) : Nat := match w.cell? ⟨g, 72, none⟩ with
  | some (.int _ n) => n.toNat
  | _ => 0
theorem tot_of {w : World} {g : Nat} {s : StT} (hs : okS s) (h : St w g s) : totOf w g = s.2.2 := by
  unfold totOf
  rw [blk_at h (strC_n hs.1 hs.2)]
  simp

set_option maxRecDepth 100000 in
set_option maxHeartbeats 4000000 in
theorem sum_of (p : Value) (s : StT) (w : World) (hs : okS s) (hn : s.2.2 ≤ 100000000000) (hT : Tabs w)
    (hF : ∀ w1, Below w.heap.size w w1 → Calls Tryz.prog 90 #[p] w1 fun e w' => e = .returned (.pointer (some ⟨w1.heap.size, 0, none⟩)) ∧ St w' w1.heap.size s ∧ Below w1.heap.size w1 w') :
    Calls Tryz.prog 74 #[p] w fun e w' => e = .returned (.agg (u8s (sumF s)).toArray) ∧ Below w.heap.size w w' := by
  have HF := Sl.mk hF
  have hT0 := hT.1
  clear hF
  obtain ⟨n, hnn⟩ : ∃ n, s.2.2 = n := ⟨_, rfl⟩
  have HNN := hide hnn
  rw [hnn] at hn
  clear hnn
  go_enter Tryz.func74, Tryz.ntmps74
  go_wp2_with fail
  obtain ⟨wa, hwa⟩ : ∃ wa, w.alloc (.cells (z8 32).toArray 89) = wa := ⟨_, rfl⟩
  have hZ : Blk wa w.heap.size 89 (z8 32).toArray := by rw [← hwa]; exact Blk.new _ _ _
  have hBa : Below w.heap.size w wa := by rw [← hwa]; exact below_al (Below.refl _ _) _
  have hsa : wa.heap.size = w.heap.size + 1 := by rw [← hwa]; simp
  have hcall : Calls Tryz.prog 90 #[p] (w.alloc (.cells (z8 32).toArray 89)) fun e w' => e = .returned (.pointer (some ⟨wa.heap.size, 0, none⟩)) ∧ St w' wa.heap.size s ∧ Below wa.heap.size wa w' := by
    rw [hwa]; exact HF.out wa hBa
  refine hcall.mono ?_
  clear hcall
  rintro e w1 ⟨rfl, hS1, hB1⟩
  have hZ1 := hZ.be hB1
  obtain ⟨g, hg⟩ : ∃ g, wa.heap.size = g := ⟨_, rfl⟩
  rw [hg] at hS1 hB1 hsa ⊢
  have hB2 : Below w.heap.size w w1 := hBa.trans (hB1.mono (by omega))
  have hT1 := hT.below hB2 hT.1
  have hgw : w.heap.size < g := by omega
  have hcn := blk_at hS1 (strC_n hs.1 hs.2)
  rw [HNN.out] at hcn
  clear hwa hBa hsa hZ hg hB1 hT
  go_wp2_with fail
  refine (one_any g s 128 _ hs (by rw [HNN.out]; omega) (by omega) hT1 hS1).mono ?_
  rintro e w2 ⟨rfl, hS2, hG2⟩
  have hZ2 := blk_only hZ1 hG2 (by omega)
  have hB3 := below_only hB2 hG2 hB2.size (by omega)
  have hT2 := hT1.only hG2 (by omega)
  clear hS1 hG2 hZ1 hB2 hT1 hcn
  go_wp2_with fail
  go_loopw [14] (fun _ wr => ∃ j : Nat, j ≤ padK n ∧ St wr g (feedS s (128 :: List.replicate j 0)) ∧ Blk wr w.heap.size 89 (z8 32).toArray ∧ Below w.heap.size w wr ∧ Tabs wr) (fun _ wr => n + 65 - totOf wr g)
  case atStart => exact ⟨0, by omega, hS2, hZ2, hB3, hT2⟩
  case round =>
    obtain ⟨j, hj, hSj, hZj, hBj, hTj⟩ := hrel
    clear hS2 hZ2 hB3 hT2
    have hok := feedS_ok hs (128 :: List.replicate j 0)
    have hfn : (feedS s (128 :: List.replicate j 0)).2.2 = n + 1 + j := by rw [feedS_n, HNN.out]; simp; omega
    have hcn := blk_at hSj (strC_n hok.1 hok.2)
    rw [hfn] at hcn
    have htot := tot_of hok hSj
    rw [hfn] at htot
    have HTOT := Sl.mk htot
    have HFN := Sl.mk hfn
    have hpk : padK n ≤ 63 := by unfold padK; omega
    clear htot hfn
    by_cases hjl : j < padK n
    · have ht : (((n + 1 + j : Nat) : Int) % 64 != 56) = true := by
        have : (n + 1 + j) % 64 ≠ 56 := by unfold padK at hjl; omega
        simp; omega
      have ht2 : (((n : Int) + 1 + (j : Int)) % 64 != 56) = true := by rw [← ht]; simp
      have hsn : feedS s (128 :: List.replicate (j + 1) 0) = oneS (feedS s (128 :: List.replicate j 0)) 0 := by
        rw [← feedS_snoc, List.replicate_succ']; rfl
      have HSN := Sl.mk hsn
      clear hsn
      go_wp2_with fail
      refine (one_any g _ 0 _ hok (by rw [HFN.out]; omega) (by omega) hTj hSj).mono ?_
      rintro e w3 ⟨rfl, hS3, hG3⟩
      go_wp2_with fail
      go_roundw
      case rel => exact ⟨j + 1, by omega, by rw [HSN.out]; exact hS3, blk_only hZj hG3 (by omega), below_only hBj hG3 hBj.size (by omega), hTj.only hG3 (by omega)⟩
      case measure =>
        have e1 := tot_of (oneS_ok hok) hS3
        rw [oneS_n, HFN.out] at e1
        rw [e1, HTOT.out]; omega
    · obtain rfl : j = padK n := by omega
      have ht : (((n + 1 + padK n : Nat) : Int) % 64 != 56) = false := by
        have : (n + 1 + padK n) % 64 = 56 := by unfold padK; omega
        simp; omega
      have ht2 : (((n : Int) + 1 + (padK n : Int)) % 64 != 56) = false := by rw [← ht]; simp
      clear hjl hj
      go_wp2_with fail
      obtain ⟨wo, hwo⟩ : ∃ wo, wo = wr := ⟨_, rfl⟩
      subst hwo
      obtain ⟨C, hC⟩ : ∃ C, 128 :: List.replicate (padK n) 0 = C := ⟨_, rfl⟩
      have hCl : C.length ≤ 64 := by rw [← hC]; simp; omega
      have HC := Sl.mk hC
      rw [hC] at hSj
      have hS0 : St wo g (feedS s (C ++ (List.range 0).map (lenF n))) := by simpa using hSj
      clear hcn ht ht2 hok HTOT HFN hC hSj
      go_loopw [22] (fun v22 wr => ∃ i : Nat, i ≤ 8 ∧ v22 = .int .i64 i ∧ St wr g (feedS s (C ++ (List.range i).map (lenF n))) ∧ Blk wr w.heap.size 89 (z8 32).toArray ∧ Below w.heap.size w wr ∧ Tabs wr) (fun v22 _ => 8 - (intOf v22).toNat)
      case atStart => exact ⟨0, by omega, rfl, hS0, hZj, hBj, hTj⟩
      case round =>
        obtain ⟨i, hi, rfl, hSi, hZi, hBi, hTi⟩ := hrel
        clear hS0 hZj hBj hTj
        have hok := feedS_ok hs (C ++ (List.range i).map (lenF n))
        by_cases hlt : i < 8
        · have hsn : feedS s (C ++ (List.range (i + 1)).map (lenF n)) = oneS (feedS s (C ++ (List.range i).map (lenF n))) (lenF n i) := by
            rw [← feedS_snoc, List.range_succ, List.map_append, List.append_assoc]; rfl
          have HSN := Sl.mk hsn
          have hb : (n : Int) * 8 / 2 ^ (8 * (7 - i)) % 256 = ((lenF n i : Nat) : Int) := by unfold lenF; simp
          have HB := Sl.mk hb
          have hnn : (feedS s (C ++ (List.range i).map (lenF n))).2.2 ≤ 1000000000000 := by
            rw [feedS_n, HNN.out]; simp; omega
          clear hsn hb
          go_wp2_with fail
          rw [HB.out]
          refine (one_any g _ (lenF n i) _ hok hnn (by omega) hTi hSi).mono ?_
          rintro e w3 ⟨rfl, hS3, hG3⟩
          go_wp2_with fail
          go_roundw
          case rel => exact ⟨i + 1, by omega, by go_num, by rw [HSN.out]; exact hS3, blk_only hZi hG3 (by omega), below_only hBi hG3 hBi.size (by omega), hTi.only hG3 (by omega)⟩
          case measure => simp [intOf]; omega
        · obtain rfl : i = 8 := by omega
          have hfin : bytesF (feedS s (C ++ (List.range 8).map (lenF n))).1 = sumF s := by
            unfold sumF lenB
            rw [HNN.out, ← HC.out]
          have HFIN := Sl.mk hfin
          clear hfin
          go_wp2_with fail
          refine (bytes_any g _ _ _ _ hok.1 hSi).mono ?_
          rintro e w5 ⟨rfl, hB5⟩
          rw [HFIN.out]
          have hZ5 := hZi.be hB5
          have hE5 := below_tr hBi hB5
          have hlen : (u8s (sumF s)).length = 32 := by simp [u8s, sumF, bytesF]
          have HL := Sl.mk hlen
          clear hlen hB5
          go_wp2_with ((refine wpList_store_blk rfl 89 (.tmp 2) (.tmp 39) rfl w.heap.size 0 89 (z8 32) (u8s (sumF s)) hZ5 rfl rfl (by rw [HL.out]; simp [z8]) (by rw [info32, HL.out]) (u8s_one _) ?_))
          intro w6 hB6 hG6 hs6
          have hB7 : Blk w6 w.heap.size 89 (u8s (sumF s)).toArray := by
            have e : u8s (sumF s) ++ (z8 32).drop (u8s (sumF s)).length = u8s (sumF s) := by rw [HL.out]; simp [z8]
            first
              | rwa [e] at hB6
              | (rw [HL.out] at e; rwa [e] at hB6)
          have hE : Below w.heap.size w w6 := below_only hE5 hG6 hE5.size (Nat.le_refl _)
          clear hB6 hG6 hs6
          go_wp2_with fail
          refine bodyPost_ret (v := .agg (u8s (sumF s)).toArray) (results_cell_row Tryz.results74 _ _ w.heap.size 89 (u8s (sumF s)).toArray (0, 0) _ rfl hB7 Tryz.underlying89 rfl (by rw [info32]; simp [HL.out])) rfl ?_
          exact ⟨rfl, hE⟩

theorem sum_nil (w : World) (hT : Tabs w) : Calls Tryz.prog 74 #[.pointer none] w fun e w' => e = .returned (.agg (u8s (sumF zS)).toArray) ∧ Below w.heap.size w w' :=
  sum_of _ zS w zS_ok (by decide) hT fun w1 _ => fork_nil w1
theorem sum_any (g : Nat) (s : StT) (w : World) (hs : okS s) (hn : s.2.2 ≤ 100000000000) (hT : Tabs w) (hS : St w g s) :
    Calls Tryz.prog 74 #[.pointer (some ⟨g, 0, none⟩)] w fun e w' => e = .returned (.agg (u8s (sumF s)).toArray) ∧ Below w.heap.size w w' :=
  sum_of _ s w hs hn hT fun w1 hb => fork_any g s w1 hs (hS.be hb)

/-- The digest of bytes. -/
def shaF (cs : List Nat) : List Nat := sumF (feedS zS cs)
theorem shaF_len (cs : List Nat) : (shaF cs).length = 32 := by simp [shaF, sumF, bytesF]


end Go.Proofs.YticcphppnmoogaaGreatDoor

namespace Go.Proofs.YticcphppnmoogaaGreatDoor
open Go.RowKit

theorem add_zero' (g j : Nat) : (⟨g, 0, none⟩ : Addr).add j = ⟨g, j, none⟩ := by unfold Addr.add; split <;> simp_all
theorem rd_cells {w : World} {S : Nat → Prop} {g : Nat} {l : List Nat} (hS : S g) (h : ∀ j, j < l.length → w.cell? ⟨g, j, none⟩ = some (.int .u8 ((l.getD j 0 : Nat) : Int))) : RdS w S (some ⟨g, 0, none⟩) l := fun j hj =>
  ⟨_, rfl, hS, by rw [add_zero']; exact h j hj⟩
theorem rds_mono {w : World} {S S' : Nat → Prop} {A : Option Addr} {l : List Nat} (h : RdS w S A l) (hS : ∀ b, S b → S' b) : RdS w S' A l := fun j hj => by
  obtain ⟨ad, e, hb, hc⟩ := h j hj
  exact ⟨ad, e, hS _ hb, hc⟩

end Go.Proofs.YticcphppnmoogaaGreatDoor
