/-
  The reference's Make.
-/
import Derived.Test.YtaffjcenojikjaaDoorDigRootE
namespace Go.Proofs.YtaffjcenojikjaaDoor
open Go.RowKit
attribute [local go_sem ↓] Go.wp_at_zero Go.wp_at_succ

def i64s (l : List Nat) : List Value := l.map fun n : Nat => Value.int .i64 (n : Int)
theorem i64s_len (l : List Nat) : (i64s l).length = l.length := by simp [i64s]
theorem i64s_app (a b : List Nat) : i64s (a ++ b) = i64s a ++ i64s b := by simp [i64s]
theorem i64s_one (l : List Nat) : ∀ v ∈ i64s l, v.oneCell' = true := by
  intro v hv
  simp only [i64s, List.mem_map] at hv
  obtain ⟨n, -, rfl⟩ := hv
  rfl
theorem get_i64 {l : List Nat} {i : Nat} (h : i < l.length) : (i64s l)[i]? = some (.int .i64 ((l.getD i 0 : Nat) : Int)) := by simp [i64s, h]
theorem set_i64 {w : World} {g : Nat} {t : TypeId} {V : List Nat} (h : Blk w g t (i64s V).toArray) (p x : Nat) : Blk (w.setCell ⟨g, p, none⟩ (.int .i64 (x : Int))) g t (i64s (V.set p x)).toArray := by
  refine blk_set _ _ _ _ p _ _ h ?_
  simp [i64s]
theorem zero45 (w : World) : (zeroValue 45).run Tryd.prog w = .ok (.agg (i64s (List.replicate 72 0)).toArray) w := by kernel_rfl
theorem info45 : (Tryd.prog.info? 45).map (·.size) = some 72 := by kernel_rfl

/-- The table's cells. -/
def tabT : List Nat := FT ++ KT
theorem tabT_len : tabT.length = 72 := rfl

set_option maxRecDepth 100000 in
set_option maxHeartbeats 4000000 in
theorem make_any (w : World) :
    Calls Tryd.prog 16 #[] w fun e w' => e = .returned (.agg (i64s tabT).toArray) ∧ Below w.heap.size w w' := by
  have hz := zero45
  have hz72 : (i64s (List.replicate 72 0)).length = 72 := rfl
  have HZ := Sl.mk hz72
  have hone := i64s_one (List.replicate 72 0)
  clear hz72
  go_enter Tryd.func16, Tryd.ntmps16
  go_wp2_with fail
  go_loopw [2, 3] (fun v2 v3 wr => ∃ j : Nat, j ≤ 310 ∧ v3 = .int .u64 ((j : Int) + 2) ∧ v2 = .int .i64 ((makeS j).1 : Nat) ∧ Blk wr w.heap.size 45 (i64s (List.replicate 72 0)).toArray ∧ Blk wr (w.heap.size + 1) 45 (i64s ((makeS j).2.1 ++ (makeS j).2.2)).toArray ∧ Below w.heap.size w wr) (fun _ v3 _ => 312 - (intOf v3).toNat)
  case atStart => exact ⟨0, by omega, rfl, rfl, Blk.alloc (Blk.new w _ _) _, Blk.new' (by simp), below_al (below_al (Below.refl _ _) _) _⟩
  case round =>
    obtain ⟨j, hj, rfl, rfl, hZ, hT, hB⟩ := hrel
    by_cases hlt : (makeS j).1 < 64
    · have hj310 := make_lt hlt
      obtain ⟨q1, q2, q3⟩ := make_len j
      have hst : makeS (j + 1) = if (makeS j).1 < 64 ∧ cntF (j + 2) (j + 2) = 2 then ((makeS j).1 + 1, (if (makeS j).1 < 8 then (makeS j).2.1.set (makeS j).1 (rootF (j + 2) 2) else (makeS j).2.1), (makeS j).2.2.set (makeS j).1 (rootF (j + 2) 3)) else makeS j := rfl
      obtain ⟨⟨n, F, K⟩, hR⟩ : ∃ R, makeS j = R := ⟨_, rfl⟩
      rw [hR] at hlt q1 q2 q3 hst hT ⊢
      dsimp only at hlt q1 q2 q3 hst hT ⊢
      obtain ⟨p, hp⟩ : ∃ p, j + 2 = p := ⟨_, rfl⟩
      have hp2 : (j : Int) + 2 = (p : Int) := by omega
      rw [hp] at hst
      rw [hp2]
      have HST := Sl.mk hst
      have HF := Sl.mk q2
      have HK := Sl.mk q3
      clear hst hR q2 q3 hp2
      go_wp2_with fail
      go_loop [4, 5] (fun v4 v5 => ∃ q : Nat, q ≤ p ∧ v5 = .int .u64 ((q : Int) + 1) ∧ v4 = .int .i64 (cntF p q : Nat)) (fun _ v5 => p + 1 - (intOf v5).toNat)
      case atStart => exact ⟨0, by omega, rfl, rfl⟩
      case round =>
        obtain ⟨q, hq, rfl, rfl⟩ := hrel
        have hcl := cntF_le p q
        by_cases hql : q < p
        · have hst : cntF p (q + 1) = if p % (q + 1) = 0 then cntF p q + 1 else cntF p q := rfl
          obtain ⟨c, hc⟩ : ∃ c, cntF p q = c := ⟨_, rfl⟩
          rw [hc] at hst hcl ⊢
          have HC := Sl.mk hst
          have hqi : (q : Int) + 1 ≤ (p : Int) := by omega
          clear hst hc
          have hpm : (p : Int) % ((q : Int) + 1) = ((p % (q + 1) : Nat) : Int) := by rw [Int.natCast_emod]; rfl
          by_cases hd : p % (q + 1) = 0
          · have hdi : ((p : Int) % ((q : Int) + 1) == 0) = true := by rw [hpm, hd]; rfl
            clear hpm
            go_wp2_with fail
            go_round
            case rel => exact ⟨q + 1, by omega, by go_num, by rw [HC.out, if_pos hd]; go_num⟩
            case measure => simp [intOf]; omega
          · have hdi : ((p : Int) % ((q : Int) + 1) == 0) = false := by rw [hpm, beq_eq_false_iff_ne]; omega
            clear hpm
            go_wp2_with fail
            go_round
            case rel => exact ⟨q + 1, by omega, by go_num, by rw [HC.out, if_neg hd]⟩
            case measure => simp [intOf]; omega
        · obtain rfl : q = p := by omega
          have hqi : ¬ ((q : Int) + 1 ≤ (q : Int)) := by omega
          obtain ⟨c, hc⟩ : ∃ c, cntF q q = c := ⟨_, rfl⟩
          rw [hc] at HST hcl ⊢
          clear hc
          by_cases h2 : c = 2
          · subst h2
            rw [if_pos ⟨hlt, rfl⟩] at HST
            obtain ⟨V, hV⟩ : ∃ V, F ++ K = V := ⟨_, rfl⟩
            have hVl : V.length = 72 := by rw [← hV, List.length_append, HF.out, HK.out]
            have hVn : V.set (8 + n) (rootF q 3) = F ++ K.set n (rootF q 3) := by
              rw [← hV, List.set_append, if_neg (by rw [HF.out]; omega), HF.out, show 8 + n - 8 = n by omega]
            have hV8 : n < 8 → (V.set n (rootF q 2)).set (8 + n) (rootF q 3) = F.set n (rootF q 2) ++ K.set n (rootF q 3) := fun h => by
              rw [← hV, List.set_append, if_pos (by rw [HF.out]; exact h), List.set_append, if_neg (by rw [List.length_set, HF.out]; omega), List.length_set, HF.out, show 8 + n - 8 = n by omega]
            rw [hV] at hT
            have HVL := Sl.mk hVl
            have HVN := Sl.mk hVn
            have HV8 := Sl.mk hV8
            clear hV hVl hVn hV8
            by_cases h8 : n < 8
            · go_wp2_with fail
              refine (root_any q 2 _ (Or.inl rfl) (by omega)).mono ?_
              rintro e w1 ⟨rfl, hB1⟩
              have hE1 := below_tr hB hB1
              have hZ1 := hZ.be hB1
              have hT1 := hT.be hB1
              have hc1 := blk_at hT1 (i := n) (get_i64 (by rw [HVL.out]; omega))
              have hf1 := hT1.frozen n
              obtain ⟨x, hx⟩ : ∃ x, rootF q 2 = x := ⟨_, rfl⟩
              rw [hx] at HV8 HST ⊢
              clear hT hZ hx
              go_wp2_with fail
              have hT2 := set_i64 hT1 n x
              have hZ2 := hZ1.far (p := ⟨w.heap.size + 1, n, none⟩) (by simp) (.int .i64 (x : Int))
              have hE2 := hE1.setCell (p := ⟨w.heap.size + 1, n, none⟩) (by simp) (.int .i64 (x : Int))
              refine (root_any q 3 _ (Or.inr rfl) (by omega)).mono ?_
              rintro e w2 ⟨rfl, hB2⟩
              have hE3 := below_tr hE2 hB2
              have hZ3 := hZ2.be hB2
              have hT3 := hT2.be hB2
              have hc3 := blk_at hT3 (i := 8 + n) (get_i64 (by rw [List.length_set, HVL.out]; omega))
              have hf3 := hT3.frozen (8 + n)
              obtain ⟨y, hy⟩ : ∃ y, rootF q 3 = y := ⟨_, rfl⟩
              rw [hy] at HV8 HST ⊢
              clear hT2 hZ2 hT1 hZ1 hy hE1 hE2
              go_wp2_with fail
              go_roundw
              case rel =>
                refine ⟨j + 1, by omega, by go_num, by rw [HST.out]; go_num, hZ3.far (by simp) _, ?_, hE3.setCell (by simp) _⟩
                rw [HST.out, if_pos h8]
                dsimp only
                rw [← HV8.out h8]
                exact set_i64 hT3 _ _
              case measure => simp [intOf]; omega
            · go_wp2_with fail
              refine (root_any q 3 _ (Or.inr rfl) (by omega)).mono ?_
              rintro e w2 ⟨rfl, hB2⟩
              have hE3 := below_tr hB hB2
              have hZ3 := hZ.be hB2
              have hT3 := hT.be hB2
              have hc3 := blk_at hT3 (i := 8 + n) (get_i64 (by rw [HVL.out]; omega))
              have hf3 := hT3.frozen (8 + n)
              obtain ⟨y, hy⟩ : ∃ y, rootF q 3 = y := ⟨_, rfl⟩
              rw [hy] at HVN HST ⊢
              clear hT hZ hy
              go_wp2_with fail
              go_roundw
              case rel =>
                refine ⟨j + 1, by omega, by go_num, by rw [HST.out]; go_num, hZ3.far (by simp) _, ?_, hE3.setCell (by simp) _⟩
                rw [HST.out, if_neg h8]
                dsimp only
                rw [← HVN.out]
                exact set_i64 hT3 _ _
              case measure => simp [intOf]; omega
          · have h2i : ((c : Int) != 2) = true := by simp; omega
            go_wp2_with fail
            go_roundw
            case rel => exact ⟨j + 1, by omega, by go_num, by rw [HST.out, if_neg (fun e => h2 e.2)], hZ, by rw [HST.out, if_neg (fun e => h2 e.2)]; exact hT, hB⟩
            case measure => simp [intOf]; omega
    · have hf := make_full hlt
      rw [hf] at hT ⊢
      dsimp only at hT ⊢
      have e72 : i64s (FT ++ KT) = i64s tabT := rfl
      rw [e72] at hT
      have h1 := i64s_one tabT
      obtain ⟨T, hTT⟩ : ∃ T, i64s tabT = T := ⟨_, rfl⟩
      have hTl : T.length = 72 := by rw [← hTT]; rfl
      obtain ⟨Z, hZZ⟩ : ∃ Z, i64s (List.replicate 72 0) = Z := ⟨_, rfl⟩
      have hZl : Z.length = 72 := by rw [← hZZ]; rfl
      rw [hTT] at hT h1
      rw [hZZ] at hZ
      have HTT := Sl.mk hTT
      have HTL := Sl.mk hTl
      have HZL := Sl.mk hZl
      clear hlt hf hz hone HZ hTT hZZ e72 hTl hZl
      go_wp2_with (first
        | (refine wpList_load_row rfl 45 (.tmp 1) rfl (w.heap.size + 1) rfl 45 T.toArray (0, 0) _ hT Tryd.underlying45 rfl (by rw [info45]; simp [HTL.out]) ?_)
        | (refine wpList_store_blk rfl 45 (.tmp 0) (.tmp 37) rfl w.heap.size 0 45 Z T hZ rfl rfl (by rw [HTL.out, HZL.out]; omega) (by rw [info45, HTL.out]) h1 ?_))
      intro w4 hB4 hG4 hs4
      have e : T ++ Z.drop T.length = T := by rw [HTL.out, List.drop_of_length_le (by rw [HZL.out]; omega)]; simp
      rw [e] at hB4
      have hE := below_only hB hG4 hB.size (Nat.le_refl _)
      clear hG4 hs4
      go_wp2_with fail
      refine bodyPost_ret (v := .agg T.toArray) (results_cell_row Tryd.results16 _ _ w.heap.size 45 T.toArray (0, 0) _ rfl hB4 Tryd.underlying45 rfl (by rw [info45]; simp [HTL.out])) rfl ?_
      exact ⟨by rw [HTT.out], hE⟩

end Go.Proofs.YtaffjcenojikjaaDoor
