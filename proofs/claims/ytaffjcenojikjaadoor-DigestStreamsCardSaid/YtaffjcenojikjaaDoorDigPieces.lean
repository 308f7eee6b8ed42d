/-
  The walk of the law DigestPieces.
-/
import Derived.Test.YtaffjcenojikjaaDoorDigFrame
namespace Go.Proofs.YtaffjcenojikjaaDoor
open Go.RowKit
attribute [local go_sem ↓] Go.wp_at_zero Go.wp_at_succ

theorem rdss_one {w : World} {S : Nat → Prop} {A : Option Addr} {c : Nat} {l : List Nat} {g : Nat} {t : TypeId} (hB : Blk w g t #[.slice A l.length c]) (hg : S g) (hr : RdS w S A l) : RdSS w S (some ⟨g, 0, none⟩) [l] := fun i hi => by
  match i, hi with
  | 0, _ => exact ⟨_, A, c, rfl, hg, by rw [add_zero']; exact hB.cell 0, hr⟩
theorem rds_lt {w w' : World} {A : Option Addr} {l : List Nat} (h : RdS w (fun b => b < w.heap.size) A l) (hb : Below w.heap.size w w') : RdS w' (fun b => b < w'.heap.size) A l :=
  rds_mono (h.keep (fun _ hp => hb.cell hp)) (fun _ hb' => Nat.lt_of_lt_of_le hb' hb.size)
theorem rdss_lt {w w' : World} {A : Option Addr} {L : List (List Nat)} (h : RdSS w (fun b => b < w.heap.size) A L) (hb : Below w.heap.size w w') : RdSS w' (fun b => b < w'.heap.size) A L := fun i hi => by
  obtain ⟨ad, Ai, ci, e, hS, hc, hr⟩ := h i hi
  exact ⟨ad, Ai, ci, e, Nat.lt_of_lt_of_le hS hb.size, (hb.cell (p := ad.add i) (by rw [block_of_add]; exact hS)).trans hc, rds_lt hr hb⟩

theorem of_single (w : World) (A : Option Addr) (c k : Nat) (l : List Nat) (hk : l.length = k) (hr : RdS w (fun b => b < w.heap.size) A l) (hl : k ≤ 10000000000) (hT : Tabs w) :
    Calls Tryd.prog 13 #[.slice (some ⟨w.heap.size, 0, none⟩) 1 1] (w.alloc (.cells #[.slice A k c] 23)) fun e w' => e = .returned (.agg (u8s (shaF l)).toArray) ∧ Below w.heap.size w w' := by
  subst hk
  have hb : Below w.heap.size w (w.alloc (.cells #[.slice A l.length c] 23)) := below_al (Below.refl _ _) _
  have hs : (w.alloc (.cells #[.slice A l.length c] 23)).heap.size = w.heap.size + 1 := by simp
  have h := of_any (some ⟨w.heap.size, 0, none⟩) 1 [l] (fun b => b < (w.alloc (.cells #[.slice A l.length c] 23)).heap.size) _ (by simpa using hl) (by simp) (hT.below hb hT.1)
    (rdss_one (Blk.new w 23 #[.slice A l.length c]) (by rw [hs]; omega) (rds_lt hr hb)) (fun _ h => h)
  have hf : ([l] : List (List Nat)).flatten = l := by simp
  rw [hf] at h
  exact h.mono fun _ _ ⟨h1, h2⟩ => ⟨h1, below_tr hb h2⟩

set_option maxRecDepth 100000 in
set_option maxHeartbeats 4000000 in
theorem pieces_walk (A : Option Addr) (n c : Nat) (AA : Nat → Option Addr) (L C : Nat → Nat) (Z : Nat → List Nat) (w : World) (hn : n ≤ 9223372036854775807) (hI : RowsIn w A n AA L C Z) (hT : Tabs w) :
    Calls Tryd.prog 5 #[.slice A n c] w fun e w' => e = .returned (.bool true) ∧ Below w.heap.size w w' := by
  obtain ⟨i0, hi0, hz0, hz1, hz2⟩ := info_parts info_sl
  go_enter Tryd.func5, Tryd.ntmps5
  go_wp2_with fail
  refine (texts_any A n c AA L C Z _ hn hI).mono ?_
  rintro e w1 ⟨v1, v2, m, hs, rfl, hB1, hm12, -, hown, hH, hall⟩
  obtain ⟨T, hTT⟩ : ∃ T, cutT Z m = T := ⟨_, rfl⟩
  have hTl : T.length = m := by rw [← hTT, cutT_len]
  have hTf : T.flatten.length ≤ 3600 := by rw [← hTT]; have := cutT_flat Z m; omega
  have hTe : ∀ l ∈ T, l.length ≤ 300 := by
    rw [← hTT]
    intro l hl
    simp only [cutT, List.mem_map] at hl
    obtain ⟨r, -, rfl⟩ := hl
    rw [List.length_take]; omega
  rw [hTT] at hH hall
  obtain ⟨A1, c1, rfl, hm1, hR1⟩ := heads_of hown hH (fun b hb => Nat.lt_of_lt_of_le hb hB1.size)
  obtain ⟨A2, c2, rfl, hm2, hR2⟩ := rds_own hall
  clear hTT hI hall hm1 hm2
  have hT1 := hT.below hB1 hT.1
  have HTL := hide hTl
  have hone := hH.one
  subst hTl
  have HH := Sl.mk hH
  have HTF := Sl.mk hTf
  have HTE := Sl.mk hTe
  obtain ⟨mm, hmm⟩ : ∃ mm, T.length = mm := ⟨_, rfl⟩
  obtain ⟨kk, hkk⟩ : ∃ kk, T.flatten.length = kk := ⟨_, rfl⟩
  have hkk2 : kk ≤ 3600 := by rw [← hkk]; exact hTf
  have HMM := Sl.mk hmm
  have HKK := Sl.mk hkk
  have HR1 := Sl.mk hR1
  have HR2 := Sl.mk hR2
  rw [hmm] at hown hm12 ⊢
  rw [hkk]
  clear hH hTf hTe hmm hkk hR1 hR2 HTL
  have hRo := (Reads.of_own hown)
  go_wp2_with (at_builtin; refine wpList_append_any _ rfl (.tmp 11) (.tmp 12) 22 rfl w1.heap.size 23 i0 (.slice none 0 0) 1 24 Tryd.underlying22 hi0 hz0 hz1 hz2 rfl (by decide) _ _ _ rfl (own_empty w1 _ 1) w1.heap.size A1 mm c1 hs rfl (hRo.alloc (Nat.le_refl _) _) hone (by unfold maxLen; omega) (by omega) (by simp) ?_)
  intro v2 w2 own2 g2 _
  have hB2 : Below w1.heap.size w1 w2 := (below_al (Below.refl w1.heap.size w1) _).grown g2 (by simp) (fun q hq => by simp [Value.ownBlock] at hq; omega)
  clear hown g2 hRo
  go_wp2_with (at_builtin; refine wpList_append_any _ rfl (.tmp 13) (.tmp 14) 22 rfl w1.heap.size 23 i0 (.slice none 0 0) 1 24 Tryd.underlying22 hi0 hz0 hz1 hz2 rfl (by decide) _ _ _ rfl (own2.alloc _) (w2.heap.size + 1) (some ⟨w2.heap.size, 0, none⟩) 1 1 [.slice none 0 0] rfl (reads_new1 _ _ _ (Nat.lt_succ_self _)) (by intro u hu; simp at hu; subst hu; rfl) (by unfold maxLen; omega) (by omega) (by have := hB2.size; simp; omega) ?_)
  intro v3 w3 own3 g3 _
  have hB3 : Below w1.heap.size w1 w3 := (below_al hB2 _).grown g3 (by have := hB2.size; simp; omega) (fun q hq => ownGe own2 hq)
  have hH3 : Heads w3 (fun b => b < w.heap.size) (hs ++ [.slice none 0 0]) (T ++ [[]]) :=
    (HH.out.keep (fun p hp => hB3.cell (Nat.lt_of_lt_of_le hp hB1.size))).snoc (A := none) (c := 0) (l := []) (fun j hj => by simp at hj)
  obtain ⟨A3, c3, rfl, hm3, hR3⟩ := heads_of own3 hH3 (fun b hb => by have := hB1.size; have := hB3.size; omega)
  have HR3 := Sl.mk hR3
  have hE3 := below_tr hB1 hB3
  have hT3 := hT.below hE3 hT.1
  obtain ⟨F, hF⟩ : ∃ F, T.flatten = F := ⟨_, rfl⟩
  obtain ⟨Y, hY⟩ : ∃ Y, T ++ [[]] = Y := ⟨_, rfl⟩
  have hYl : Y.length = mm + 1 := by rw [← hY, List.length_append, HMM.out]; rfl
  have hYf : Y.flatten = F := by rw [← hY, ← hF]; simp
  have hYe : ∀ l ∈ Y, l.length ≤ 300 := by
    rw [← hY]
    intro l hl
    rw [List.mem_append] at hl
    rcases hl with hl | hl
    · exact HTE.out l hl
    · simp at hl; subst hl; simp
  have hFl : F.length = kk := by rw [← hF, HKK.out]
  have hYb : (frameF Y).length ≤ 10000 := by
    have h1 : ∀ (Q : List (List Nat)), (∀ l ∈ Q, l.length ≤ 300) → (frameF Q).length ≤ Q.length * 304 := by
      intro Q
      induction Q with
      | nil => intro _; simp [frameF]
      | cons q Q ih =>
        intro hq
        have := ih (fun l hl => hq l (List.mem_cons_of_mem _ hl))
        have h2 := hq q (List.mem_cons_self ..)
        have e : (frameF (q :: Q)).length = 4 + q.length + (frameF Q).length := by simp [frameF, len4]; omega
        rw [e, List.length_cons]; omega
    have := h1 Y hYe
    omega
  rw [hY] at HR3 hm3
  rw [hF] at HR2
  have HYL := Sl.mk hYl
  have HYF := Sl.mk hYf
  have HYE := Sl.mk hYe
  have HYB := Sl.mk hYb
  have HFL := Sl.mk hFl
  have HF := Sl.mk hF
  have heq : ∀ (D : List Nat), D.length = 32 → ∀ w', (binOp .eql 37 (.agg (u8s D).toArray) (.agg (u8s D).toArray)).run Tryd.prog w' = .ok (.bool true) w' := fun D hD w' => by
    rw [eql_dig _ _ hD hD]; simp
  have hq1 := heq (shaF F) (shaF_len _)
  have hq2 := heq (shaF (frameF Y)) (shaF_len _)
  rw [hY, hYl]
  clear own2 own3 g3 hH3 hB2 hR3 hY hYl hYf hYe hYb hFl hF heq hm3
  go_wp2_with fail
  refine (known_any _ hT3).mono ?_
  rintro e w4 ⟨rfl, hB4⟩
  have hE4 := below_tr hE3 hB4
  have hB14 := below_tr hB3 hB4
  go_wp2_with fail
  have hcall := of_any A1 c1 T (fun b => b < w4.heap.size) w4 (by rw [HF.out, HFL.out]; omega) (by rw [HMM.out]; omega) (hT.below hE4 hT.1) (rdss_lt HR1.out hB14) (fun _ h => h)
  rw [HMM.out, HF.out] at hcall
  refine hcall.mono ?_
  clear hcall
  rintro e w5 ⟨rfl, hB5⟩
  have hE5 := below_tr hE4 hB5
  have hB15 := below_tr hB14 hB5
  go_wp2_with fail
  refine (of_single w5 A2 c2 kk F HFL.out (rds_lt HR2.out hB15) (by omega) (hT.below hE5 hT.1)).mono ?_
  rintro e w6 ⟨rfl, hB6⟩
  have hE6 := below_tr hE5 hB6
  have hB16 := below_tr hB15 hB6
  go_wp2_with fail
  have hB36 := below_tr (below_tr hB4 hB5) hB6
  have hcall := of_any A3 c3 Y (fun b => b < w6.heap.size) w6 (by rw [HYF.out, HFL.out]; omega) (by rw [HYL.out]; omega) (hT.below hE6 hT.1) (rdss_lt HR3.out hB36) (fun _ h => h)
  rw [HYL.out, HYF.out] at hcall
  refine hcall.mono ?_
  clear hcall
  rintro e w7 ⟨rfl, hB7⟩
  have hE7 := below_tr hE6 hB7
  have hB17 := below_tr hB16 hB7
  have hB37 := below_tr hB36 hB7
  go_wp2_with fail
  refine (of_single w7 A2 c2 kk F HFL.out (rds_lt HR2.out hB17) (by omega) (hT.below hE7 hT.1)).mono ?_
  rintro e w8 ⟨rfl, hB8⟩
  have hE8 := below_tr hE7 hB8
  have hB38 := below_tr hB37 hB8
  go_wp2_with fail
  have hcall := framed_any A3 c3 Y (fun b => b < w8.heap.size) w8 (by have := HYB.out; omega) (by rw [HYL.out]; omega) (hT.below hE8 hT.1) (rdss_lt HR3.out hB38) (fun _ h => h)
  rw [HYL.out] at hcall
  refine hcall.mono ?_
  clear hcall
  rintro e w9 ⟨rfl, hB9⟩
  have hE9 := below_tr hE8 hB9
  have hB39 := below_tr hB38 hB9
  go_wp2_with fail
  have hcall := frame_any A3 c3 Y (fun b => b < w9.heap.size) w9 (fun l hl => by have := HYE.out l hl; omega) (by rw [HYL.out]; omega) (rdss_lt HR3.out hB39) (fun _ h => h)
  rw [HYL.out] at hcall
  refine hcall.mono ?_
  clear hcall
  rintro e w10 ⟨v10, rfl, hown10, hB10⟩
  have hE10 := below_tr hE9 hB10
  obtain ⟨A4, c4, rfl, -, hR4⟩ := rds_own hown10
  obtain ⟨fk, hfk⟩ : ∃ fk, (frameF Y).length = fk := ⟨_, rfl⟩
  have hfk2 : fk ≤ 10000 := by rw [← hfk]; exact HYB.out
  have HFK := Sl.mk hfk
  have HR4 := Sl.mk hR4
  rw [hfk]
  clear hown10 hfk hR4
  go_wp2_with fail
  refine (of_single w10 A4 c4 fk (frameF Y) HFK.out HR4.out (by omega) (hT.below hE10 hT.1)).mono ?_
  rintro e w11 ⟨rfl, hB11⟩
  go_wp2_with fail
  go_ret
  exact ⟨rfl, below_tr hE10 hB11⟩

end Go.Proofs.YtaffjcenojikjaaDoor
