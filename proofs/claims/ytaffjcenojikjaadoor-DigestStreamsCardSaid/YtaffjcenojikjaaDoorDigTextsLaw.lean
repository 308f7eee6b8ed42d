/-
  The walk of the law DigestTexts.
-/
import Derived.Test.YtaffjcenojikjaaDoorDigPieces
import Derived.Test.YtaffjcenojikjaaDoorDigShort
import Derived.Test.YtaffjcenojikjaaDoorDigRSum
import Derived.Test.YtaffjcenojikjaaDoorWordsU
import Derived.Lib.QuietBelow
namespace Go.Proofs.YtaffjcenojikjaaDoor
open Go.RowKit Go.Sort
attribute [local go_sem ↓] Go.wp_at_zero Go.wp_at_succ

theorem exec_load {P : Program} {o : Oper} {a : Act} {w : World} {ty : TypeId} {x : Operand} {g : Nat} {cs : Array Value} (ho : o.op = .load ty x) (hx : a.eval x = .pointer (some ⟨g, 0, none⟩))
    (hL : (loadVar ty ⟨g, 0, none⟩).run P w = .ok (.agg cs) w) : (execOp a.eval o).run P w = .ok (.value (.agg cs)) w := by
  unfold execOp
  simp only [ho, hx, Instr.loadAt, Instr.sureAddr, Sem.run_bind, Sem.run_pure, Result.andThen_ok, hL]
/-- What an own row reads as, as a contract says it. -/
theorem frame_rds (A : Option Addr) (c m : Nat) (L : List (List Nat)) (w : World) (hm : L.length = m) (hl : ∀ l ∈ L, l.length ≤ 10000) (hLn : m ≤ 1000) (hL : RdSS w (fun b => b < w.heap.size) A L) :
    Calls Tryd.prog 18 #[.slice A m c] w fun e w' => ∃ A' c', e = .returned (.slice A' (frameF L).length c') ∧ RdS w' (fun b => b < w'.heap.size) A' (frameF L) ∧ Below w.heap.size w w' := by
  subst hm
  refine (frame_any A c L _ w hl hLn hL (fun _ h => h)).mono ?_
  rintro e w' ⟨v, rfl, hown, hB⟩
  obtain ⟨A', c', rfl, -, hr⟩ := rds_own hown
  exact ⟨A', c', rfl, hr, hB⟩

set_option maxRecDepth 100000 in
set_option maxHeartbeats 8000000 in
theorem textsl_walk (A : Option Addr) (n c : Nat) (AA : Nat → Option Addr) (L C : Nat → Nat) (Z : Nat → List Nat) (w : World) (hn : n ≤ 9223372036854775807) (hI : RowsIn w A n AA L C Z) (hT : Tabs w) :
    Calls Tryd.prog 6 #[.slice A n c] w fun e w' => e = .returned (.bool true) ∧ Below w.heap.size w w' := by
  have hz37 := zero37
  have hz45 := zero45
  go_enter Tryd.func6, Tryd.ntmps6
  go_wp2_with fail
  refine (texts_any A n c AA L C Z _ hn hI).mono ?_
  rintro e w1 ⟨v1, v2, m, hs, rfl, hB1, hm12, hmn, hown, hH, hall⟩
  obtain ⟨T, hTT⟩ : ∃ T, cutT Z m = T := ⟨_, rfl⟩
  have hTl : T.length = m := by rw [← hTT, cutT_len]
  have hTf : T.flatten.length ≤ 3600 := by rw [← hTT]; have := cutT_flat Z m; omega
  have hTe : ∀ l ∈ T, l.length ≤ 300 ∧ ∀ y ∈ l, y < 256 := by
    rw [← hTT]
    intro l hl
    simp only [cutT, List.mem_map, List.mem_range] at hl
    obtain ⟨r, hr, rfl⟩ := hl
    exact ⟨by rw [List.length_take]; omega, fun y hy => hI.byte r (by omega) y (List.mem_of_mem_take hy)⟩
  rw [hTT] at hH hall
  obtain ⟨A1, c1, rfl, hm1, hR1⟩ := heads_of hown hH (fun b hb => Nat.lt_of_lt_of_le hb hB1.size)
  obtain ⟨A2, c2, rfl, hm2, hR2⟩ := rds_own hall
  clear hTT hI hall hm1 hm2 hmn
  have hT1 := hT.below hB1 hT.1
  subst hTl
  have HTF := Sl.mk hTf
  have HTE := Sl.mk hTe
  obtain ⟨mm, hmm⟩ : ∃ mm, T.length = mm := ⟨_, rfl⟩
  obtain ⟨F, hF⟩ : ∃ F, T.flatten = F := ⟨_, rfl⟩
  rw [hF] at hR2 hTf ⊢
  obtain ⟨kk, hkk⟩ : ∃ kk, F.length = kk := ⟨_, rfl⟩
  have hkk2 : kk ≤ 3600 := by rw [← hkk]; exact hTf
  have hFb : ∀ y ∈ F, y < 256 := by
    rw [← hF]
    intro y hy
    obtain ⟨l, hl, hy⟩ := List.mem_flatten.1 hy
    exact (hTe l hl).2 y hy
  have hYb : (frameF T).length ≤ 4000 ∧ ∀ y ∈ frameF T, y < 256 := by
    have h1 : ∀ (Q : List (List Nat)), (∀ l ∈ Q, l.length ≤ 300 ∧ ∀ y ∈ l, y < 256) → (frameF Q).length ≤ Q.length * 304 ∧ ∀ y ∈ frameF Q, y < 256 := by
      intro Q
      induction Q with
      | nil => intro _; simp [frameF]
      | cons q Q ih =>
        intro hq
        obtain ⟨i1, i2⟩ := ih (fun l hl => hq l (List.mem_cons_of_mem _ hl))
        obtain ⟨h2, h3⟩ := hq q (List.mem_cons_self ..)
        have e0 : frameF (q :: Q) = (len4 q.length ++ q) ++ frameF Q := by simp [frameF]
        refine ⟨?_, fun y hy => ?_⟩
        · rw [e0, List.length_append, List.length_append, List.length_cons]
          have : (len4 q.length).length = 4 := by simp [len4]
          omega
        · rw [e0, List.mem_append, List.mem_append] at hy
          rcases hy with (hy | hy) | hy
          · simp only [len4, List.mem_map] at hy
            obtain ⟨i, -, rfl⟩ := hy
            unfold len4F; omega
          · exact h3 y hy
          · exact i2 y hy
    have := h1 T hTe
    exact ⟨by omega, this.2⟩
  have HMM := Sl.mk hmm
  have HKK := Sl.mk hkk
  have HF := Sl.mk hF
  have HFB0 := Sl.mk hFb
  have HYB := Sl.mk hYb
  have HR1 := Sl.mk hR1
  have HR2 := Sl.mk hR2
  rw [hmm] at hm12 ⊢
  rw [hkk]
  clear hown hH hTf hTe hmm hkk hR1 hR2 hF hFb hYb
  obtain ⟨TT, hTT⟩ : ∃ TT, i64s tabT = TT := ⟨_, rfl⟩
  have hTTl : TT.length = 72 := by rw [← hTT]; rfl
  have h1t : ∀ v ∈ TT, v.oneCell' = true := by rw [← hTT]; exact i64s_one tabT
  have HTT := Sl.mk hTT
  have HTTL := Sl.mk hTTl
  clear hTT hTTl
  go_wp2_with fail
  refine (make_any _).mono ?_
  rintro e w2 ⟨rfl, hB2⟩
  rw [HTT.out]
  have hE2 := below_tr hB1 hB2
  go_wp2_with (refine wpList_store_fresh rfl 45 (.tmp 5) (.tmp 14) rfl 45 (i64s (List.replicate 72 0)) TT _ rfl rfl rfl (by rw [HTTL.out]; rfl) (by rw [info45, HTTL.out]) h1t ?_)
  intro w3 hX3 hB3 hs3
  have hE3 := below_tr hE2 hB3
  have hB13 := below_tr hB2 hB3
  have hT3 := hT.below hE3 hT.1
  clear hB2 hB3 hs3
  go_upto_region 3 with fail
  obtain ⟨G, hG⟩ : ∃ G, frameF T = G := ⟨_, rfl⟩
  obtain ⟨fk, hfk⟩ : ∃ fk, G.length = fk := ⟨_, rfl⟩
  have hGb := HYB.out
  rw [hG] at hGb
  have hfk4 : fk ≤ 4000 := by rw [← hfk]; exact hGb.1
  have cF : ∀ W, Below w3.heap.size w3 W → Calls Tryd.prog 18 #[.slice A1 mm c1] W fun e w' => ∃ A' c', e = .returned (.slice A' fk c') ∧ RdS w' (fun b => b < w'.heap.size) A' G ∧ Below W.heap.size W w' := fun W hW => by
    have h := frame_rds A1 c1 mm T W HMM.out (fun l hl => by have := (HTE.out l hl).1; omega) (by omega) (rdss_lt HR1.out (below_tr hB13 hW))
    rw [hG, hfk] at h
    exact h
  have cS : ∀ W A' c' (l : List Nat) k, l.length = k → k ≤ 4000 → (∀ y ∈ l, y < 256) → RdS W (fun b => b < W.heap.size) A' l → Calls Tryd.prog 15 #[.agg TT.toArray, .slice A' k c'] W fun e w' => e = .returned (.agg (u8s (shaF l)).toArray) ∧ Below W.heap.size W w' := fun W A' c' l k hk hk4 hb hr => by
    subst hk
    have h := rsum_any A' c' l _ W (by omega) hb hr (fun _ h => h)
    rw [HTT.out] at h
    exact h
  obtain ⟨FF, hFF⟩ : ∃ FF, shaF G = FF := ⟨_, rfl⟩
  have hFl : FF.length = 32 := by rw [← hFF, shaF_len]
  have hone := u8s_one FF
  have HFL := Sl.mk hFl
  have HFF := Sl.mk hFF
  have HG := Sl.mk hG
  have HGB := Sl.mk hGb
  have HFK := Sl.mk hfk
  clear hG hfk hGb hFF hFl
  go_cut [6] (fun v6 wx => ∃ gf, v6 = .pointer (some ⟨gf, 0, none⟩) ∧ w3.heap.size ≤ gf ∧ Blk wx gf 37 (u8s FF).toArray ∧ Below w3.heap.size w3 wx)
  case first =>
    refine wp_region_noPanic ?_
    refine wp_region_takes (n := 2) (Below w3.heap.size w3) (by kernel_rfl) (by kernel_rfl) (fun _ _ _ _ _ h => h) (Below.refl _ w3).drew ?_
    have hzd : w3.heap.size ≤ w3.heap.size := Nat.le_refl _
    have hL0 : ∀ w', Below w3.heap.size w3 w' → (loadVar 45 ⟨w2.heap.size, 0, none⟩).run Tryd.prog w' = .ok (.agg TT.toArray) w' := fun w' hw' =>
      run_loadVar_row w' w2.heap.size 45 45 TT.toArray (0, 0) _ (hX3.below hw' hX3.lt) Tryd.underlying45 rfl (by rw [info45, List.size_toArray, HTTL.out])
    refine wpTake_step (.agg TT.toArray) (by rfl) (fun w' hw' => exec_load rfl rfl (hL0 w' hw')) ?_
    refine wpTake_step (.slice A1 mm c1) (by rfl) (fun w' _ => by go_simp) ?_
    simp only [Act.put, List.setIfInBounds_toArray, List.set_cons_zero, List.set_cons_succ]
    have hW0 : Below w3.heap.size w3 { w3 with drawn := w3.drawn + 1 } := (Below.refl _ w3).drew
    obtain ⟨wd, hwd⟩ : ∃ wd, ({ w3 with drawn := w3.drawn + 1 } : World) = wd := ⟨_, rfl⟩
    rw [hwd] at hW0 ⊢
    clear hwd hL0
    have hzw := hW0.size
    refine wpAnyH_twoL (i := 2) (j := 4) rfl rfl (by kernel_rfl) rfl rfl ?_ ?_
    · go_simp
      refine (cF _ hW0).mono ?_
      rintro e w4 ⟨A', c', rfl, hr4, hB4⟩
      have hC4 := below_tr hW0 hB4
      have hz4 := hC4.size
      refine ⟨hC4, ?_⟩
      refine wpAnyH_twoL (i := 3) (j := 4) rfl rfl (by kernel_rfl) rfl rfl ?_ ?_
      · go_simp
        refine (cS _ A' c' G fk HFK.out hfk4 HGB.out.2 hr4).mono ?_
        rintro e w5 ⟨rfl, hB5⟩
        have hC5 := below_tr hC4 hB5
        have hz5 := hC5.size
        refine ⟨hC5, ?_⟩
        rw [HFF.out]
        refine wpAnyH_oneL (k := 4) rfl (by kernel_rfl) rfl ?_
        refine wp_of_run (v := .pointer (some ⟨w5.heap.size, 0, none⟩)) (w' := w5.alloc (.cells (z8 32).toArray 37)) (by first | (go_simp; done) | (go_simp; rfl)) ⟨below_al hC5 _, ?_⟩
        simp only [Act.put, List.setIfInBounds_toArray, List.set_cons_zero, List.set_cons_succ]
        have hZ6 := Blk.new w5 37 (z8 32).toArray
        have hC6 := below_al hC5 (.cells (z8 32).toArray 37)
        refine wpAnyH_store (k := 5) (g := 0) (by kernel_rfl) rfl (by rfl) 37 (.tmp 6) (.tmp 18) rfl rfl w5.heap.size 37 (z8 32) (u8s FF) hZ6 rfl rfl (by rw [u8s_len, HFL.out]; simp [z8]) (by rw [info32, u8s_len, HFL.out]) hone (fun w9 hX9 hG9 => ⟨below_only hC6 hG9 hC6.size (by omega), ?_⟩)
        have hB9 := below_only hC6 hG9 hC6.size (show w3.heap.size ≤ w5.heap.size by omega)
        clear hG9
        refine wpAnyH_done (by kernel_rfl) ?_ _
        refine NoPanic.normal ?_
        (try go_wp2_with fail)
        go_meet
        exact ⟨_, rfl, by omega, hX9, hB9⟩
      · refine wp_of_run (v := .pointer (some ⟨w4.heap.size, 0, none⟩)) (w' := w4.alloc (.cells (z8 32).toArray 37)) (by first | (go_simp; done) | (go_simp; rfl)) ⟨below_al hC4 _, ?_⟩
        simp only [Act.put, List.setIfInBounds_toArray, List.set_cons_zero, List.set_cons_succ]
        have hZ5 := Blk.new w4 37 (z8 32).toArray
        have hC6 := below_al hC4 (.cells (z8 32).toArray 37)
        have hr5 := rds_lt hr4 (below_al (Below.refl _ w4) (.cells (z8 32).toArray 37))
        refine wpAnyH_oneL (k := 3) rfl (by kernel_rfl) rfl ?_
        go_simp
        refine (cS _ A' c' G fk HFK.out hfk4 HGB.out.2 hr5).mono ?_
        rintro e w5 ⟨rfl, hB5⟩
        have hC5 := below_tr hC6 hB5
        have hz5 := hC5.size
        refine ⟨hC5, ?_⟩
        rw [HFF.out]
        have hZ6 := hZ5.be hB5
        refine wpAnyH_store (k := 5) (g := 0) (by kernel_rfl) rfl (by rfl) 37 (.tmp 6) (.tmp 18) rfl rfl w4.heap.size 37 (z8 32) (u8s FF) hZ6 rfl rfl (by rw [u8s_len, HFL.out]; simp [z8]) (by rw [info32, u8s_len, HFL.out]) hone (fun w9 hX9 hG9 => ⟨below_only hC5 hG9 hC5.size (by omega), ?_⟩)
        have hB9 := below_only hC5 hG9 hC5.size (show w3.heap.size ≤ w4.heap.size by omega)
        clear hG9
        refine wpAnyH_done (by kernel_rfl) ?_ _
        refine NoPanic.normal ?_
        (try go_wp2_with fail)
        go_meet
        exact ⟨_, rfl, by omega, hX9, hB9⟩
    · refine wp_of_run (v := .pointer (some ⟨wd.heap.size, 0, none⟩)) (w' := wd.alloc (.cells (z8 32).toArray 37)) (by first | (go_simp; done) | (go_simp; rfl)) ⟨below_al hW0 _, ?_⟩
      simp only [Act.put, List.setIfInBounds_toArray, List.set_cons_zero, List.set_cons_succ]
      have hZ4 := Blk.new wd 37 (z8 32).toArray
      have hC3 := below_al hW0 (.cells (z8 32).toArray 37)
      refine wpAnyH_oneL (k := 2) rfl (by kernel_rfl) rfl ?_
      go_simp
      refine (cF _ hC3).mono ?_
      rintro e w4 ⟨A', c', rfl, hr4, hB4⟩
      have hC4 := below_tr hC3 hB4
      have hz4 := hC4.size
      refine ⟨hC4, ?_⟩
      have hZ5 := hZ4.be hB4
      refine wpAnyH_oneL (k := 3) rfl (by kernel_rfl) rfl ?_
      go_simp
      refine (cS _ A' c' G fk HFK.out hfk4 HGB.out.2 hr4).mono ?_
      rintro e w5 ⟨rfl, hB5⟩
      have hC5 := below_tr hC4 hB5
      have hz5 := hC5.size
      refine ⟨hC5, ?_⟩
      rw [HFF.out]
      have hZ6 := hZ5.be hB5
      refine wpAnyH_store (k := 5) (g := 0) (by kernel_rfl) rfl (by rfl) 37 (.tmp 6) (.tmp 18) rfl rfl wd.heap.size 37 (z8 32) (u8s FF) hZ6 rfl rfl (by rw [u8s_len, HFL.out]; simp [z8]) (by rw [info32, u8s_len, HFL.out]) hone (fun w9 hX9 hG9 => ⟨below_only hC5 hG9 hC5.size (by omega), ?_⟩)
      have hB9 := below_only hC5 hG9 hC5.size (show w3.heap.size ≤ wd.heap.size by omega)
      clear hG9
      refine wpAnyH_done (by kernel_rfl) ?_ _
      refine NoPanic.normal ?_
      (try go_wp2_with fail)
      go_meet
      exact ⟨_, rfl, by omega, hX9, hB9⟩
  case rest =>
    obtain ⟨gf, rfl, hgf, hXf, hB5⟩ := hcut
    have hXc := hX3.be hB5
    have hTc := hT3.below hB5 hT3.1
    have hEc := below_tr hE3 hB5
    have hB1c := below_tr hB13 hB5
    have hFb : ∀ k, FF.getD k 0 < 256 := by rw [← HFF.out]; exact shaF_get _
    have HFB := Sl.mk hFb
    clear hX3 hT3 hE3 hB13 hB1 hT1 hgf hFb hT
    go_wp2_with fail
    go_loopw [7, 8] (fun v7 v8 wr => ∃ i : Nat, i ≤ 8 ∧ v8 = .int .i64 (i : Int) ∧ v7 = .int .u64 ((numF FF i : Nat) : Int) ∧ wr = wc) (fun _ v8 _ => 8 - (intOf v8).toNat)
    case atStart => exact ⟨0, by omega, rfl, rfl, rfl⟩
    case round =>
      obtain ⟨i, hi, rfl, rfl, rfl⟩ := hrel
      by_cases hlt : i < 8
      · have c0 := blk_at hXf (i := i) (v := .int .u8 ((FF.getD i 0 : Nat) : Int)) (by simp [u8s, HFL.out, show i < 32 by omega])
        have hb := HFB.out i
        have hnl := numF_lt8 HFB.out hlt
        have hnx : numF FF (i + 1) = 256 * numF FF i + FF.getD i 0 := rfl
        obtain ⟨x, ex⟩ : ∃ x, FF.getD i 0 = x := ⟨_, rfl⟩
        obtain ⟨y, ey⟩ : ∃ y, numF FF i = y := ⟨_, rfl⟩
        rw [ex, ey] at hnx
        rw [ex] at c0 hb
        rw [ey] at hnl ⊢
        have HNX := Sl.mk hnx
        clear hnx ex ey cF cS
        go_wp2_with fail
        go_roundw
        case rel => exact ⟨i + 1, by omega, by go_num, by rw [HNX.out]; congr 1; try omega, trivial⟩
        case measure => simp [intOf]; omega
      · have hi8 : i = 8 := by omega
        rw [hi8]
        have hfr : (frameF T).length ≤ 4000 := HYB.out.1
        have hff : T.flatten.length ≤ 3600 := HTF.out
        have hTl : T.length ≤ 12 := by rw [HMM.out]; omega
        have hRc := fun (d : Nat) (os : Array Obj) => rdss_lt (rdss_lt HR1.out hB1c) (below_regrown wr d os)
        have k1 : ∀ d os, (loadVar 45 ⟨w2.heap.size, 0, none⟩).run Tryd.prog (grow (redrawn wr d) os) = .ok (.agg TT.toArray) (grow (redrawn wr d) os) := fun d os =>
          run_loadVar_row _ w2.heap.size 45 45 TT.toArray (0, 0) _ (hXc.below (below_regrown wr d os) hXc.lt) Tryd.underlying45 rfl (by rw [info45, List.size_toArray, HTTL.out])
        have k2 : ∀ d os, (loadVar 37 ⟨gf, 0, none⟩).run Tryd.prog (grow (redrawn wr d) os) = .ok (.agg (u8s FF).toArray) (grow (redrawn wr d) os) := fun d os =>
          run_loadVar_row _ gf 37 37 (u8s FF).toArray (0, 0) _ (hXf.below (below_regrown wr d os) hXf.lt) Tryd.underlying37 rfl (by rw [info32]; simp [u8s_len, HFL.out])
        have heq : ∀ (D : List Nat), D.length = 32 → ∀ w', (binOp .eql 37 (.agg (u8s D).toArray) (.agg (u8s D).toArray)).run Tryd.prog w' = .ok (.bool true) w' := fun D hD w' => by
          rw [eql_dig _ _ hD hD]; simp
        have hq1 := heq (shaF F) (shaF_len _)
        have hq2 := heq FF HFL.out
        have kc1 : ∀ d os, Calls Tryd.prog 14 #[] (grow (redrawn wr d) os) fun e w'' => e = .returned (.bool true) ∧ ∃ p : Regrown, w'' = grow (redrawn wr p.d) p.os := fun d os => Calls.regrown_of (known_any _ (hTc.below (below_regrown wr d os) hTc.1))
        have kc2 : ∀ d os, Calls Tryd.prog 13 #[.slice A1 mm c1] (grow (redrawn wr d) os) fun e w'' => e = .returned (.agg (u8s (shaF F)).toArray) ∧ ∃ p : Regrown, w'' = grow (redrawn wr p.d) p.os := fun d os => Calls.regrown_of (by
          have h := of_any A1 c1 T _ _ (by omega) (by omega) (hTc.below (below_regrown wr d os) hTc.1) (hRc d os) (fun _ h => h)
          rw [HMM.out, HF.out] at h
          exact h)
        have kc3 : ∀ d os, Calls Tryd.prog 15 #[.agg TT.toArray, .slice A2 kk c2] (grow (redrawn wr d) os) fun e w'' => e = .returned (.agg (u8s (shaF F)).toArray) ∧ ∃ p : Regrown, w'' = grow (redrawn wr p.d) p.os := fun d os => Calls.regrown_of
          (cS _ A2 c2 F kk HKK.out (by omega) HFB0.out (rds_lt (rds_lt HR2.out hB1c) (below_regrown wr d os)))
        have kc4 : ∀ d os, Calls Tryd.prog 17 #[.slice A1 mm c1] (grow (redrawn wr d) os) fun e w'' => e = .returned (.agg (u8s FF).toArray) ∧ ∃ p : Regrown, w'' = grow (redrawn wr p.d) p.os := fun d os => Calls.regrown_of (by
          have h := framed_any A1 c1 T _ _ (by omega) (by omega) (hTc.below (below_regrown wr d os) hTc.1) (hRc d os) (fun _ h => h)
          rw [HMM.out, HG.out, HFF.out] at h
          exact h)
        have kc5 : ∀ d os, Calls Tryd.prog 19 #[.slice A1 mm c1] (grow (redrawn wr d) os) fun e w'' => e = .returned (.int .u64 ((numF FF 8 : Nat) : Int)) ∧ ∃ p : Regrown, w'' = grow (redrawn wr p.d) p.os := fun d os => Calls.regrown_of (by
          have h := short_any A1 c1 T _ _ (by omega) (by omega) (hTc.below (below_regrown wr d os) hTc.1) (hRc d os) (fun _ h => h)
          rw [HMM.out, HG.out, HFF.out] at h
          exact h)
        obtain ⟨nn, hnn⟩ : ∃ nn, numF FF 8 = nn := ⟨_, rfl⟩
        rw [hnn] at kc5 ⊢
        clear hi8 heq cF cS hRc hnn
        go_wp2_with fail
        refine wp_region_quiet_below (by kernel_rfl) (by kernel_rfl) ?_
        repeat (quiet_step (first | exact kc1 _ _ | exact kc2 _ _ | exact kc3 _ _ | exact kc4 _ _ | exact kc5 _ _))
        refine wpQuiet_loadT (by rfl) 45 (.tmp 5) rfl w2.heap.size TT.toArray rfl (fun _ ⟨⟨d, os⟩, hw⟩ => by subst hw; exact k1 d os) ?_
        repeat (quiet_step (first | exact kc1 _ _ | exact kc2 _ _ | exact kc3 _ _ | exact kc4 _ _ | exact kc5 _ _))
        refine wpQuiet_loadT (by rfl) 37 (.tmp 6) rfl gf (u8s FF).toArray rfl (fun _ ⟨⟨d, os⟩, hw⟩ => by subst hw; exact k2 d os) ?_
        repeat (quiet_step (first | exact kc1 _ _ | exact kc2 _ _ | exact kc3 _ _ | exact kc4 _ _ | exact kc5 _ _))
        refine wpQuiet_nil ?_
        intro _ hw'
        obtain ⟨⟨dq, osq⟩, hw''⟩ := hw'
        subst hw''
        have hfin := below_tr hEc (below_regrown wr dq osq)
        go_wp2_with fail
        go_ret
        exact ⟨rfl, hfin⟩

end Go.Proofs.YtaffjcenojikjaaDoor
