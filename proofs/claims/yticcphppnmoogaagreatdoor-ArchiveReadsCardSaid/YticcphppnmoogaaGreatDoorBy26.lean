/-
  The contract of the reference's Sum.
  The contract of the reference's Frame.
-/
import Derived.Test.YticcphppnmoogaaGreatDoorBy21
import Derived.Test.YticcphppnmoogaaGreatDoorBy23
import Derived.Test.YticcphppnmoogaaGreatDoorBy25
import Derived.Test.YticcphppnmoogaaGreatDoorBy14

namespace Go.Proofs.YticcphppnmoogaaGreatDoor
open Go.RowKit
attribute [local go_sem ↓] Go.wp_at_zero Go.wp_at_succ

def lenOfV : Value → Nat
  | .slice _ n _ => n
  | _ => 0
theorem wpQuiet_loadT {P : Program} {ops : Array Oper} {C : World → Prop} {Q : Act → Prop} {a : Act} {o : Oper} {rest : List Oper} (hgd : Region.wanted o (yielded ops a.tmps) = true) (ty : TypeId) (x : Operand) (ho : o.op = .load ty x)
    (g : Nat) (cs : Array Value) (hx : a.eval x = .pointer (some ⟨g, 0, none⟩)) (hL : ∀ w, C w → (loadVar ty ⟨g, 0, none⟩).run P w = .ok (.agg cs) w) (h : wpQuiet P ops C Q rest (a.put o.dst (.agg cs))) : wpQuiet P ops C Q (o :: rest) a := by
  unfold wpQuiet
  rw [if_pos hgd]
  refine ⟨.agg cs, fun w hw => ?_, h⟩
  unfold Oper.quietAt execOp
  simp only [ho, hx, Instr.loadAt, Instr.sureAddr, Sem.run_bind, Sem.run_pure, Result.andThen_ok, hL w hw]
  exact ⟨rfl, rfl⟩

def preT (l : List Nat) (n kp j : Nat) : List Nat := l ++ 128 :: List.replicate kp 0 ++ (lenB n).take j
theorem preT_succ (l : List Nat) (n kp j : Nat) (h : j < 8) : u8s (preT l n kp (j + 1)) = u8s (preT l n kp j) ++ [.int .u8 ((lenF n j : Nat) : Int)] := by
  have e2 : (lenB n).take (j + 1) = (lenB n).take j ++ [lenF n j] := by
    rw [take_succ_getD (d := 0) (by rw [lenB_len]; exact h)]
    congr 2
    simp [lenB, h]
  unfold preT
  rw [e2]
  simp [u8s]
theorem preT_zero (l : List Nat) (n kp : Nat) : preT l n kp 0 = l ++ 128 :: List.replicate kp 0 := by simp [preT]
theorem preT_eight (l : List Nat) (n kp : Nat) : preT l n kp 8 = l ++ 128 :: List.replicate kp 0 ++ lenB n := by
  unfold preT
  rw [List.take_of_length_le (by rw [lenB_len]; exact Nat.le_refl _)]
/-- An own row of bytes: its cap, its cells. -/
theorem own_bytes {w : World} {base n : Nat} {v : Value} {l : List Nat} (h : w.ownsRow base 5 1 v n (u8s l)) (hn : 0 < n) :
    ∃ g c, v = .slice (some ⟨g, 0, none⟩) n c ∧ n ≤ c ∧ c ≤ maxLen ∧ base ≤ g ∧ g < w.heap.size ∧ ∀ j, j < l.length → w.cell? ⟨g, j, none⟩ = some (.int .u8 ((l.getD j 0 : Nat) : Int)) := by
  obtain ⟨g, c, hv, hb, hg, hc⟩ := ownCells h hn
  subst hv
  rcases h.2 with ⟨e, -⟩ | ⟨g', cap, cur, e, -, -, h1, h2, -⟩
  · cases e
  · injection e with e1 e2 e3
    subst e3
    exact ⟨g, c, rfl, h1, h2, hb, hg, fun j hj => hc j _ (by simp [u8s, hj])⟩

set_option maxRecDepth 100000 in
set_option maxHeartbeats 8000000 in
theorem rsum_any (A : Option Addr) (c : Nat) (l : List Nat) (S : Nat → Prop) (w : World) (hn : l.length ≤ 100000) (hl : ∀ y ∈ l, y < 256) (hL : RdS w S A l) (hS : ∀ b, S b → b < w.heap.size) :
    Calls Tryz.prog 43 #[.agg (i64s tabT).toArray, .slice A l.length c] w fun e w' => e = .returned (.agg (u8s (shaF l)).toArray) ∧ Below w.heap.size w w' := by
  obtain ⟨j0, hj0, hy0, hy1, hy2⟩ := info_parts infob
  have hz2 := zero42
  have h1t := i64s_one tabT
  obtain ⟨n, hnn⟩ : ∃ n, l.length = n := ⟨_, rfl⟩
  have hone := u8s_one l
  have hRl := reads_rds hL hS
  rw [hnn] at hRl hn ⊢
  have HNN := Sl.mk hnn
  have HLL := Sl.mk hl
  obtain ⟨U, hU⟩ : ∃ U, u8s l = U := ⟨_, rfl⟩
  rw [hU] at hRl hone
  have HU := Sl.mk hU
  obtain ⟨TT, hTT⟩ : ∃ TT, i64s tabT = TT := ⟨_, rfl⟩
  have hTl : TT.length = 72 := by rw [← hTT]; rfl
  have HTL := Sl.mk hTl
  have HTT := Sl.mk hTT
  rw [hTT] at h1t ⊢
  have hPl := padT_len l
  have hP64 := padT_64 l
  have hKp : padK n ≤ 63 := by unfold padK; omega
  rw [hnn] at hPl
  obtain ⟨kp, hkp⟩ : ∃ kp, padK n = kp := ⟨_, rfl⟩
  have hkm : (n + 1 + kp + 8) % 64 = 0 := by rw [← hkp]; unfold padK; omega
  have hkmin : ∀ k, k < kp → (n + 1 + k + 8) % 64 ≠ 0 := fun k hk => by rw [← hkp] at hk; unfold padK at hk; omega
  rw [hkp] at hPl hKp
  have hpad : padT l = l ++ 128 :: List.replicate kp 0 ++ lenB n := by unfold padT; rw [hnn, hkp, List.append_assoc]; first | done | rfl
  have HPL := Sl.mk hPl
  have HP64 := Sl.mk hP64
  have HKM := Sl.mk hkm
  have HKMIN := Sl.mk hkmin
  have HPAD := Sl.mk hpad
  clear hnn hl hL hS hU hTT hTl hPl hP64 hkp hkm hkmin hpad
  go_enter Tryz.func43, Tryz.ntmps43
  go_upto_region 1 with fail
  obtain ⟨wa, hwa⟩ : ∃ wa, (w.alloc (.cells TT.toArray 33)).alloc (.cells #[.int .u8 0, .int .u8 0, .int .u8 0, .int .u8 0, .int .u8 0, .int .u8 0, .int .u8 0, .int .u8 0, .int .u8 0, .int .u8 0, .int .u8 0, .int .u8 0, .int .u8 0, .int .u8 0, .int .u8 0, .int .u8 0, .int .u8 0, .int .u8 0, .int .u8 0, .int .u8 0, .int .u8 0, .int .u8 0, .int .u8 0, .int .u8 0, .int .u8 0, .int .u8 0, .int .u8 0, .int .u8 0, .int .u8 0, .int .u8 0, .int .u8 0, .int .u8 0] 89) = wa := ⟨_, rfl⟩
  have hT : Blk wa w.heap.size 33 TT.toArray := by rw [← hwa]; exact Blk.alloc (Blk.new w _ _) _
  have hO : Blk wa (w.heap.size + 1) 89 (z8 32).toArray := by rw [← hwa]; exact Blk.new' (by simp)
  have hBa : Below w.heap.size w wa := by rw [← hwa]; exact below_al (below_al (Below.refl _ _) _) _
  have hsa : wa.heap.size = w.heap.size + 2 := by rw [← hwa]; simp
  rw [hwa]
  have hRa : Reads wa w.heap.size 1 A n U := hRl.keep (fun p hp => hBa.cell hp)
  have HSA := Sl.mk hsa
  clear hsa
  have hRa2 : Reads (wa.alloc (.cells #[] 5)) w.heap.size 1 A n U := hRa.keep (fun p hp => by have := HSA.out; rw [World.cell?_alloc_old]; omega)
  clear hRl hwa
  go_wp2_with (at_builtin; refine wpList_append_any _ rfl (.tmp 12) (.tmp 13) 22 rfl wa.heap.size 5 j0 (.int .u8 0) 1 1 Tryz.underlying22 hj0 hy0 hy1 hy2 rfl (by decide) _ _ _ rfl (own_empty wa _ 1) w.heap.size A n c U rfl hRa2 hone (by unfold maxLen; omega) (by omega) (by simp) ?_)
  intro v1 w1 hown1 hg1 _
  have hB1 : Below wa.heap.size wa w1 := (below_al (Below.refl wa.heap.size wa) _).grown hg1 (by simp) (fun q hq => by simp [Value.ownBlock] at hq; omega)
  obtain ⟨A1, c1, rfl⟩ := ownForm hown1
  clear hg1 hRa2
  go_wp2_with (at_builtin; refine wpList_append_any _ rfl (.tmp 15) (.tmp 16) 22 rfl wa.heap.size 5 j0 (.int .u8 0) 1 1 Tryz.underlying22 hj0 hy0 hy1 hy2 rfl (by decide) _ _ _ rfl (hown1.alloc _) (w1.heap.size + 1) (some ⟨w1.heap.size, 0, none⟩) 1 1 [.int .u8 128] rfl (reads_new1 _ _ _ (Nat.lt_succ_self _)) (by intro u hu; simp at hu; subst hu; rfl) (by unfold maxLen; omega) (by omega) (by have := hB1.size; simp; omega) ?_)
  intro v2 w2 hown2 hg2 _
  have hB2 : Below wa.heap.size wa w2 := (below_al hB1 _).grown hg2 (by have := hB1.size; simp; omega) (fun q hq => ownGe hown1 hq)
  obtain ⟨A2, c2, rfl⟩ := ownForm hown2
  have hown3 : w2.ownsRow wa.heap.size 5 1 (.slice A2 (n + 1) c2) (n + 1 + 0) (u8s (l ++ 128 :: List.replicate 0 0)) := by
    have e : u8s (l ++ 128 :: List.replicate 0 0) = U ++ [.int .u8 128] := by rw [← HU.out]; simp [u8s]
    rw [e]; exact hown2
  clear hown1 hown2 hg2 hB1
  go_wp2_with fail
  go_loopw [5] (fun v5 wr => ∃ k, k ≤ kp ∧ wr.ownsRow wa.heap.size 5 1 v5 (n + 1 + k) (u8s (l ++ 128 :: List.replicate k 0)) ∧ Below wa.heap.size wa wr) (fun v5 _ => 200000 - lenOfV v5)
  case atStart => exact ⟨0, by omega, hown3, hB2⟩
  case round =>
    obtain ⟨k, hk, hown, hB⟩ := hrel
    clear hown3 hB2
    obtain ⟨A5, c5, rfl⟩ := ownForm hown
    obtain ⟨K, hK⟩ : ∃ K, n + 1 + k = K := ⟨_, rfl⟩
    have hKle : K ≤ 100064 := by omega
    rw [hK] at hown ⊢
    by_cases hlt : k < kp
    · have hc : ((K : Int) + 8) % 64 ≠ 0 := by have := HKMIN.out k hlt; omega
      go_wp2_with (at_builtin; refine wpList_append_any _ rfl (.tmp 23) (.tmp 24) 22 rfl wa.heap.size 5 j0 (.int .u8 0) 1 1 Tryz.underlying22 hj0 hy0 hy1 hy2 rfl (by decide) _ _ _ rfl (hown.alloc _) (wr.heap.size + 1) (some ⟨wr.heap.size, 0, none⟩) 1 1 [.int .u8 0] rfl (reads_new1 _ _ _ (Nat.lt_succ_self _)) (by intro u hu; simp at hu; subst hu; rfl) (by unfold maxLen; omega) (by omega) (by have := hB.size; simp; omega) ?_)
      intro v6 w6 hown6 hg6 _
      have hB6 : Below wa.heap.size wa w6 := (below_al hB _).grown hg6 (by have := hB.size; simp; omega) (fun q hq => ownGe hown hq)
      obtain ⟨A6, c6, rfl⟩ := ownForm hown6
      have hown7 : w6.ownsRow wa.heap.size 5 1 (.slice A6 (K + 1) c6) (n + 1 + (k + 1)) (u8s (l ++ 128 :: List.replicate (k + 1) 0)) := by
        have e : u8s (l ++ 128 :: List.replicate (k + 1) 0) = u8s (l ++ 128 :: List.replicate k 0) ++ [.int .u8 0] := by rw [List.replicate_succ']; simp [u8s]
        rw [e, show n + 1 + (k + 1) = K + 1 by omega]; exact hown6
      clear hown hown6 hg6 hB
      go_wp2_with fail
      go_roundw
      case rel => exact ⟨k + 1, by omega, hown7, hB6⟩
      case measure => simp [lenOfV]; omega
    · have hc : ((K : Int) + 8) % 64 = 0 := by have := HKM.out; omega
      have hkk : k = kp := by omega
      rw [hkk] at hown hK
      have HKV := Sl.mk hK
      clear hkk hK hlt hk
      go_wp2_with fail
      clear hc
      go_loopw [5, 6] (fun v5 v6 wr => ∃ j : Nat, j ≤ 8 ∧ v6 = .int .i64 (7 - (j : Int)) ∧ wr.ownsRow wa.heap.size 5 1 v5 (K + j) (u8s (preT l n kp j)) ∧ Below wa.heap.size wa wr) (fun _ v6 _ => (intOf v6 + 1).toNat)
      case atStart => exact ⟨0, by omega, by simp, by rw [preT_zero]; exact hown, hB⟩
      case round =>
        obtain ⟨j, hj, rfl, hown2, hB2⟩ := hrel
        clear hown hB
        obtain ⟨A7, c7, rfl⟩ := ownForm hown2
        by_cases hj8 : j < 8
        · obtain ⟨m, hm⟩ : ∃ m : Nat, 7 - (j : Int) = m := ⟨7 - j, by omega⟩
          have hm7 : m ≤ 7 := by omega
          have hjm : j = 7 - m := by omega
          rw [hm]
          have HJM := Sl.mk hjm
          have HJ8 := Sl.mk hj8
          have HM := Sl.mk hm
          clear hm hjm hj8
          go_wp2_with (at_builtin; refine wpList_append_any _ rfl (.tmp 30) (.tmp 38) 22 rfl wa.heap.size 5 j0 (.int .u8 0) 1 1 Tryz.underlying22 hj0 hy0 hy1 hy2 rfl (by decide) _ _ _ rfl (hown2.alloc _) (wr.heap.size + 1) (some ⟨wr.heap.size, 0, none⟩) 1 1 [_] rfl (reads_new1 _ _ _ (Nat.lt_succ_self _)) (by intro u hu; simp at hu; subst hu; rfl) (by unfold maxLen; omega) (by omega) (by have := hB2.size; simp; omega) ?_)
          intro v6 w6 hown6 hg6 _
          have hB6 : Below wa.heap.size wa w6 := (below_al hB2 _).grown hg6 (by have := hB2.size; simp; omega) (fun q hq => ownGe hown2 hq)
          obtain ⟨A6, c6, rfl⟩ := ownForm hown6
          have hown7 : w6.ownsRow wa.heap.size 5 1 (.slice A6 (K + j + 1) c6) (K + (j + 1)) (u8s (preT l n kp (j + 1))) := by
            have e1 : (8 * (n : Int) / 2 ^ (8 * m) % 256) = ((lenF n j : Nat) : Int) := by
              unfold lenF
              rw [HJM.out, show 7 - (7 - m) = m by omega, Nat.mul_comm n 8]
              simp
            rw [preT_succ _ _ _ _ HJ8.out, ← e1]; exact hown6
          clear hown2 hown6 hg6 hB2
          go_wp2_with fail
          go_roundw
          case rel => exact ⟨j + 1, by have := HJ8.out; omega, by have := HM.out; have := HJM.out; simp; omega, hown7, hB6⟩
          case measure => simp [intOf]
        · have hj88 : j = 8 := by omega
          have hge : ¬ (0 : Int) ≤ 7 - (j : Int) := by omega
          have hdg : decide ((0 : Int) ≤ 7 - (j : Int)) = false := decide_eq_false hge
          obtain ⟨v6, hv6⟩ : ∃ v : Int, 7 - (j : Int) = v := ⟨_, rfl⟩
          rw [hv6] at hge hdg ⊢
          obtain ⟨P, hP⟩ : ∃ P, padT l = P := ⟨_, rfl⟩
          have hPe : preT l n kp j = P := by rw [← hP, HPAD.out, hj88, preT_eight]
          rw [hPe] at hown2
          obtain ⟨M, hM⟩ : ∃ M, K + j = M := ⟨_, rfl⟩
          rw [hM] at hown2 ⊢
          have hPM : P.length = M := by rw [← hP, HPL.out]; have := HKV.out; omega
          obtain ⟨Qn, hQ⟩ : ∃ Qn, M = 64 * Qn := ⟨M / 64, by have := HP64.out; rw [hP] at this; omega⟩
          have hM1 : M ≤ 100200 := by omega
          obtain ⟨g5, c5', hA7, hc5, hc5m, hg5a, hg5, hcells⟩ := own_bytes hown2 (by omega)
          injection hA7 with hA7 _ hc7
          subst hA7 hc7
          have HPT := Sl.mk hP
          have HPM := Sl.mk hPM
          have HQ := Sl.mk hQ
          have HCE := Sl.mk hcells
          have hlt' : ∀ k, P.getD k 0 < 256 := by rw [← hP]; exact getD_lt' (padT_lt HLL.out) (by omega)
          have HPLT := Sl.mk hlt'
          have hTx := hT.below hB2 (by have := HSA.out; omega)
          have hOx := hO.below hB2 (by have := HSA.out; omega)
          have hEx : Below w.heap.size w wr := hBa.trans (hB2.mono hBa.size)
          obtain ⟨F0, hF0⟩ : ∃ F0, i64s FT = F0 := ⟨_, rfl⟩
          have hFT : (TT.drop 0).take 8 = F0 := by rw [← hF0, ← HTT.out]; rfl
          have hF8 : F0.length = 8 := by rw [← hF0]; rfl
          have hF1 : ∀ v ∈ F0, v.oneCell' = true := by rw [← hF0]; exact i64s_one FT
          have HFT := Sl.mk hFT
          have HF8 := Sl.mk hF8
          have HF1 := Sl.mk hF1
          have HF0 := Sl.mk hF0
          have h08 : Sl ((i64s (List.replicate 8 0)).length = 8) := .mk rfl
          obtain ⟨wo, hwo⟩ : ∃ wo, wo = wr := ⟨_, rfl⟩
          subst hwo
          clear hT hO hj88 hv6 hP hPe hM hPM hQ hown2 hcells hlt' hF0 hFT hF8 hF1 hB2 hBa hj hj8
          go_wp2_with (first
            | (refine wpList_load_vs rfl 30 (.tmp 40) rfl w.heap.size 0 8 33 TT F0 _ hTx rfl HFT.out HF8.out Tryz.underlying30 rfl info42 ?_)
            | (refine wpList_store_fresh rfl 30 (.tmp 7) (.tmp 41) rfl 30 (i64s (List.replicate 8 0)) F0 _ rfl rfl rfl (by rw [HF8.out, h08.out]) (by rw [info42, HF8.out]) HF1.out ?_))
          intro w8 hH8 hB8 _
          have hT8 := hTx.be hB8
          have hgo := hTx.lt
          have hgo2 := hOx.lt
          have hH8' : Blk w8 wo.heap.size 30 (i64s (hF P 0)).toArray := by rw [show i64s (hF P 0) = F0 from HF0.out]; exact hH8
          clear hTx hH8
          go_wp2_with fail
          go_loopw [8] (fun v8 wx => ∃ q a : Nat, q ≤ Qn ∧ Sl (a = 64 * q) ∧ v8 = .int .i64 (a : Int) ∧ Blk wx wo.heap.size 30 (i64s (hF P q)).toArray ∧ Below wo.heap.size wo wx ∧ Blk wx w.heap.size 33 TT.toArray) (fun v8 _ => M - (intOf v8).toNat)
          case atStart => exact ⟨0, 0, by omega, ⟨rfl⟩, rfl, hH8', hB8, hT8⟩
          case round =>
            obtain ⟨q, a, hq, HA, rfl, hHq, hBq, hTq⟩ := hrel
            clear hH8' hB8 hT8
            by_cases hlt : q < Qn
            · have haM : a < M := by have := HA.out; have := HQ.out; omega
              have hdm : decide ((a : Int) < (M : Int)) = true := by simp; omega
              have haM2 : a + 64 ≤ M := by have := HA.out; have := HQ.out; omega
              have ha64 : (a : Int) + 64 - (a : Int) = 64 := by omega
              obtain ⟨H, hH⟩ : ∃ H, hF P q = H := ⟨_, rfl⟩
              rw [hH] at hHq
              have hHl : H.length = 8 := by rw [← hH]; exact hF_len P q
              have hHlt : ∀ y ∈ H, y < 4294967296 := by rw [← hH]; exact hF_lt P q
              have HHL := Sl.mk hHl
              have HHLT := Sl.mk hHlt
              have HH := Sl.mk hH
              have k1 : ∀ d, (loadVar 33 ⟨w.heap.size, 0, none⟩).run Tryz.prog (wr.drewN d) = .ok (.agg TT.toArray) (wr.drewN d) := fun d => run_loadVar_row _ _ _ _ TT.toArray (0, 0) _ (hTq.drewN d) Tryz.underlying33 rfl (by rw [info45, List.size_toArray, HTL.out])
              have k2 : ∀ d, (loadVar 30 ⟨wo.heap.size, 0, none⟩).run Tryz.prog (wr.drewN d) = .ok (.agg (i64s H).toArray) (wr.drewN d) := fun d => run_loadVar_row _ _ _ _ (i64s H).toArray (0, 0) _ (hHq.drewN d) Tryz.underlying30 rfl (by rw [info42, List.size_toArray, i64s_len, HHL.out])
              clear hH hHl hHlt
              go_wp2_with fail
              refine wp_region_quiet_tail 7 (by kernel_rfl) (by kernel_rfl) ?_
              simp only [List.take_succ_cons, List.take_zero, List.drop_succ_cons, List.drop_zero]
              refine wpQuiet_loadT (by rfl) 33 (.tmp 2) rfl w.heap.size TT.toArray rfl (fun _ ⟨d, hw⟩ => by subst hw; exact k1 d) ?_
              refine wpQuiet_loadT (by rfl) 30 (.tmp 7) rfl wo.heap.size (i64s H).toArray rfl (fun _ ⟨d, hw⟩ => by subst hw; exact k2 d) ?_
              repeat (any_goals (first | go_big_quiet_step (fail) | quiet_step (fail)))
              refine wpQuiet_nil ?_
              intro _ hw'
              obtain ⟨nq, hw''⟩ := hw'
              subst hw''
              have hcd : ∀ k, k < 64 → (wr.drewN nq).cell? ⟨g5, a + k, none⟩ = some (.int .u8 (((cutB P q).getD k 0 : Nat) : Int)) := fun k hk => by
                have e1 : (wr.drewN nq).cell? ⟨g5, a + k, none⟩ = wo.cell? ⟨g5, a + k, none⟩ := (below_drN hBq nq).cell (p := ⟨g5, a + k, none⟩) hg5
                rw [e1, HCE.out (a + k) (by rw [HPM.out]; omega), cutB_get hk, HA.out]
              have hcall := fun c => turn_any H (cutB P q) g5 a c _ HHL.out HHLT.out (cutB_lt (fun y hy => by
                obtain ⟨i, hi, rfl⟩ := List.mem_iff_getElem.1 hy
                have := HPLT.out i
                simpa [hi] using this) q) hcd
              rw [HTT.out] at hcall
              have HCALL := Sl.mk hcall
              clear hcall hcd
              go_wp2_with fail
              refine (HCALL.out _).mono ?_
              rintro e w9 ⟨rfl, hB9⟩
              have hH9 := (hHq.drewN nq).be hB9
              have hT9 := (hTq.drewN nq).be hB9
              have hE9 := below_tr (below_drN hBq nq) hB9
              have HML : Sl ((i64s (mixF H (cutB P q))).length = 8) := .mk (by rw [i64s_len, mixF_len HHL.out])
              have HHL2 : Sl ((i64s H).length = 8) := .mk (by rw [i64s_len, HHL.out])
              have hM1' := i64s_one (mixF H (cutB P q))
              clear hHq hTq hBq k1 k2
              go_wp2_with (refine wpList_store_blk rfl 30 (.tmp 7) (.tmp 55) rfl wo.heap.size 0 30 (i64s H) (i64s (mixF H (cutB P q))) hH9 rfl rfl (by have := HML.out; have := HHL2.out; omega) (by rw [info42, HML.out]) hM1' ?_)
              intro w10 hH10 hG10 _
              rw [List.drop_of_length_le (by have := HML.out; have := HHL2.out; omega), List.append_nil] at hH10
              have hT10 := blk_only hT9 hG10 (by omega)
              have hE10 := below_only hE9 hG10 hE9.size (Nat.le_refl _)
              clear hH9 hT9 hE9 hG10 hM1'
              go_wp2_with fail
              go_roundw
              case rel => exact ⟨q + 1, a + 64, by omega, ⟨by rw [HA.out]; omega⟩, by go_num, by rw [show hF P (q + 1) = mixF H (cutB P q) by rw [← HH.out]; rfl]; exact hH10, hE10, hT10⟩
              case measure => simp [intOf]; omega
            · have hqq : q = Qn := by omega
              have haM : ¬ a < M := by have := HA.out; have := HQ.out; omega
              have hdm : decide ((a : Int) < (M : Int)) = false := by simp; omega
              obtain ⟨H, hH⟩ : ∃ H, hF P q = H := ⟨_, rfl⟩
              rw [hH] at hHq
              have hHl : H.length = 8 := by rw [← hH]; exact hF_len P q
              have hsha : bytesF H = shaF l := by
                rw [← rsum_eq]
                unfold rsumF
                rw [HPT.out, HPM.out, HQ.out, show 64 * Qn / 64 = Qn by omega, ← hqq, hH]
              have HHL := Sl.mk hHl
              have HSH := Sl.mk hsha
              have hOq := hOx.be hBq
              have hEq := below_tr hEx hBq
              clear hqq hH hHl hsha hq HA
              obtain ⟨wq, hwq⟩ : ∃ wq, wq = wr := ⟨_, rfl⟩
              subst hwq
              clear hTq
              go_wp2_with fail
              go_loopw [10] (fun v10 wx => ∃ i : Nat, i ≤ 8 ∧ v10 = .int .i64 (i : Int) ∧ Blk wx wq.heap.size 89 (u8s ((List.range (4 * i)).map (bytF H)) ++ z8 (32 - 4 * i)).toArray ∧ Below wq.heap.size wq wx) (fun v10 _ => 8 - (intOf v10).toNat)
              case atStart => exact ⟨0, by omega, rfl, Blk.new' (by simp), below_al (Below.refl _ _) _⟩
              case round =>
                obtain ⟨i, hi, rfl, hW, hB⟩ := hrel
                by_cases hi8 : i < 8
                · go_wp2_with fail
                  go_loopw [11] (fun v11 wx => ∃ k : Nat, k ≤ 4 ∧ v11 = .int .i64 (k : Int) ∧ Blk wx wq.heap.size 89 (u8s ((List.range (4 * i + k)).map (bytF H)) ++ z8 (32 - (4 * i + k))).toArray ∧ Below wq.heap.size wq wx) (fun v11 _ => 4 - (intOf v11).toNat)
                  case atStart => exact ⟨0, by omega, rfl, by simpa using hW, hB⟩
                  case round =>
                    obtain ⟨k, hk, rfl, hV, hC⟩ := hrel
                    clear hW hB
                    by_cases hk4 : k < 4
                    · obtain ⟨m, hm⟩ : ∃ m : Nat, 24 - 8 * (k : Int) = m := ⟨24 - 8 * k, by omega⟩
                      have hm24 : m ≤ 24 := by omega
                      have hmk : m = 24 - 8 * k := by omega
                      have HMK := Sl.mk hmk
                      have c0 := blk_at (hHq.be hC) (i := i) (get_i64 (by rw [HHL.out]; exact hi8))
                      have hlt32 : 4 * i + k < 32 := by omega
                      have d0 := blk_at hV (range_get hlt32)
                      have f0 := hV.frozen (4 * i + k)
                      obtain ⟨x, ex⟩ : ∃ x, H.getD i 0 = x := ⟨_, rfl⟩
                      rw [ex] at c0
                      have hb : ((bytF H (4 * i + k) : Nat) : Int) = (x : Int) / 2 ^ m % 256 := by
                        unfold bytF
                        rw [show (4 * i + k) / 4 = i by omega, show 24 - (4 * i + k) % 4 * 8 = m by omega, ex]
                        simp
                      have HBB := Sl.mk hb
                      clear hb ex hmk
                      go_wp2_with fail
                      go_roundw
                      case rel =>
                        refine ⟨k + 1, by omega, by go_num, ?_, hC.setCell (by dsimp only; omega) _⟩
                        rw [← HBB.out]
                        exact range_set hV hlt32
                      case measure => simp [intOf]; omega
                    · have hk44 : k = 4 := by omega
                      have hV2 : Blk wr wq.heap.size 89 (u8s ((List.range (4 * (i + 1))).map (bytF H)) ++ z8 (32 - 4 * (i + 1))).toArray := by
                        rw [hk44] at hV; exact hV
                      clear hk44 hV
                      go_wp2_with fail
                      go_roundw
                      case rel => exact ⟨i + 1, by omega, by go_num, hV2, hC⟩
                      case measure => simp [intOf]; omega
                · have hi88 : i = 8 := by omega
                  have hW2 : Blk wr wq.heap.size 89 (u8s (bytesF H)).toArray := by
                    rw [hi88] at hW; simpa [z8, bytesF] using hW
                  have hlen : (u8s (bytesF H)).length = 32 := by simp [u8s, bytesF]
                  have HL := Sl.mk hlen
                  have hZ := hOq.be hB
                  have hEz := below_tr hEq hB
                  clear hi88 hlen hW hOq
                  go_wp2_with (first
                    | (refine wpList_load_row rfl 89 (.tmp 9) rfl wq.heap.size rfl 89 (u8s (bytesF H)).toArray (0, 0) _ hW2 Tryz.underlying89 rfl (by rw [info32]; simp [HL.out]) ?_)
                    | (refine wpList_store_blk rfl 89 (.tmp 4) (.tmp 77) rfl (w.heap.size + 1) 0 89 (z8 32) (u8s (bytesF H)) hZ rfl rfl (by rw [HL.out]; simp [z8]) (by rw [info32, HL.out]) (u8s_one _) ?_))
                  intro w12 hB12 hG12 _
                  have hB13 : Blk w12 (w.heap.size + 1) 89 (u8s (bytesF H)).toArray := by
                    have e : u8s (bytesF H) ++ (z8 32).drop (u8s (bytesF H)).length = u8s (bytesF H) := by rw [HL.out]; simp [z8]
                    first
                      | rwa [e] at hB12
                      | (rw [HL.out] at e; rwa [e] at hB12)
                  have hE : Below w.heap.size w w12 := below_only hEz hG12 hEz.size (by omega)
                  clear hB12 hG12
                  go_wp2_with fail
                  refine bodyPost_ret (v := .agg (u8s (bytesF H)).toArray) (results_cell_row Tryz.results43 _ _ (w.heap.size + 1) 89 (u8s (bytesF H)).toArray (0, 0) _ rfl hB13 Tryz.underlying89 rfl (by rw [info32]; simp [HL.out])) rfl ?_
                  exact ⟨by rw [HSH.out], hE⟩

end Go.Proofs.YticcphppnmoogaaGreatDoor

namespace Go.Proofs.YticcphppnmoogaaGreatDoor
open Go.RowKit
attribute [local go_sem ↓] Go.wp_at_zero Go.wp_at_succ

theorem len4_eq (k : Nat) (h : k ≤ 10000) : len4 k = [k / 16777216, k / 65536, k / 256, k % 256] := by
  have e : len4 k = [k / 16777216 % 256, k / 65536 % 256, k / 256 % 256, k % 256] := by simp [len4, len4F, List.range_succ]
  rw [e]
  congr 1
  · omega
  congr 1
  · omega
  congr 1
  omega
theorem heads_of {w : World} {base m : Nat} {v : Value} {hs : List Value} {S : Nat → Prop} {T : List (List Nat)} {e : TypeId} (hown : w.ownsRow base e 1 v m hs) (hH : Heads w S hs T) (hS : ∀ b, S b → b < w.heap.size) :
    ∃ A c, v = .slice A T.length c ∧ m = T.length ∧ RdSS w (fun b => b < w.heap.size) A T := by
  have hm : m = T.length := by have := hown.1; have := hH.1; omega
  subst hm
  obtain ⟨A, c, rfl⟩ := ownForm hown
  refine ⟨A, c, rfl, rfl, fun i hi => ?_⟩
  obtain ⟨g, c', hA, -, hg, hcells⟩ := ownCells hown (by omega)
  injection hA with hA _ _
  subst hA
  obtain ⟨Ai, ci, e, hr⟩ := hH.2 i hi
  exact ⟨_, Ai, ci, rfl, hg, by rw [add_zero']; exact hcells i _ e, rds_mono hr hS⟩
theorem rds_own {w : World} {base n : Nat} {v : Value} {l : List Nat} {e : TypeId} (hown : w.ownsRow base e 1 v n (u8s l)) : ∃ A c, v = .slice A l.length c ∧ n = l.length ∧ RdS w (fun b => b < w.heap.size) A l := by
  have hm : n = l.length := by have := hown.1; rw [u8s_len] at this; omega
  subst hm
  obtain ⟨A, c, rfl⟩ := ownForm hown
  refine ⟨A, c, rfl, rfl, fun i hi => ?_⟩
  obtain ⟨g, c', hA, -, hg, hcells⟩ := ownCells hown (by omega)
  injection hA with hA _ _
  subst hA
  exact ⟨_, rfl, hg, by rw [add_zero']; exact hcells i _ (by simp [u8s, hi])⟩

set_option maxRecDepth 100000 in
set_option maxHeartbeats 4000000 in
theorem frame_any (A : Option Addr) (c : Nat) (L : List (List Nat)) (S : Nat → Prop) (w : World) (hl : ∀ l ∈ L, l.length ≤ 10000) (hLn : L.length ≤ 1000) (hL : RdSS w S A L) (hS : ∀ b, S b → b < w.heap.size) :
    Calls Tryz.prog 44 #[.slice A L.length c] w fun e w' => ∃ v, e = .returned v ∧ w'.ownsRow w.heap.size 5 1 v (frameF L).length (u8s (frameF L)) ∧ Below w.heap.size w w' := by
  obtain ⟨j0, hj0, hy0, hy1, hy2⟩ := info_parts infob
  obtain ⟨m, hm⟩ : ∃ m, L.length = m := ⟨_, rfl⟩
  have HM := hide hm
  have HLL := Sl.mk hl
  have HL := Sl.mk hL
  have HS := Sl.mk hS
  rw [hm] at hLn ⊢
  clear hm hl hL hS
  go_enter Tryz.func44, Tryz.ntmps44
  go_wp2_with fail
  go_loopw [3, 4] (fun v3 v4 wr => ∃ (i kf : Nat), Sl ((frameF (L.take i)).length = kf) ∧ kf ≤ i * 10004 ∧ i ≤ m ∧ v4 = .int .i64 i ∧ wr.ownsRow w.heap.size 5 1 v3 kf (u8s (frameF (L.take i))) ∧ Below w.heap.size w wr) (fun _ v4 _ => m - (intOf v4).toNat)
  case atStart => exact ⟨0, 0, ⟨rfl⟩, by omega, by omega, rfl, World.ownsRow_nil _ _ _ _, Below.refl _ _⟩
  case round =>
    obtain ⟨i, kf, HKF, hkf, hi, rfl, hown, hB⟩ := hrel
    obtain ⟨A3, c3, rfl⟩ := ownForm hown
    by_cases hlt : i < m
    · have hiL : i < L.length := by rw [HM.out]; exact hlt
      obtain ⟨ad, Ai, ci, rfl, hSb, hcell0, hrd⟩ := HL.out i hiL
      have hcell : wr.cell? (ad.add i) = _ := (hB.cell (p := ad.add i) (by rw [block_of_add]; exact HS.out _ hSb)).trans hcell0
      have hlm : (L.getD i []).length ≤ 10000 := by
        have : L.getD i [] = L[i] := by simp [hiL]
        rw [this]; exact HLL.out _ (List.getElem_mem hiL)
      obtain ⟨l, hl⟩ : ∃ l, L.getD i [] = l := ⟨_, rfl⟩
      have hfs : frameF (L.take (i + 1)) = frameF (L.take i) ++ (len4 l.length ++ l) := by rw [take_succ_getD (d := []) hiL, hl, frameF_snoc]
      rw [hl] at hcell hrd hlm
      obtain ⟨k, hk⟩ : ∃ k, l.length = k := ⟨_, rfl⟩
      rw [hk] at hcell hlm hfs
      rw [len4_eq k (by omega)] at hfs
      have hRq := reads_rds (hrd.keep (w' := wr) (fun p hp => hB.cell (HS.out _ hp))) HS.out
      rw [hk] at hRq
      have hone := u8s_one l
      have HFS := Sl.mk hfs
      have HK := hide hk
      clear hl hfs hrd hcell0 hk
      have hR4 := reads_newL wr [.int .u8 ((k : Int) / 16777216), .int .u8 ((k : Int) / 65536), .int .u8 ((k : Int) / 256), .int .u8 ((k : Int) % 256)] 5 (Nat.lt_succ_self _)
      have h4 : u8s [k / 16777216, k / 65536, k / 256, k % 256] = [.int .u8 ((k : Int) / 16777216), .int .u8 ((k : Int) / 65536), .int .u8 ((k : Int) / 256), .int .u8 ((k : Int) % 256)] := by simp [u8s]
      have H4 := Sl.mk h4
      clear h4
      go_wp2_with (at_builtin; refine wpList_append_any _ rfl (.tmp 17) (.tmp 29) 22 rfl w.heap.size 5 j0 (.int .u8 0) 1 1 Tryz.underlying22 hj0 hy0 hy1 hy2 rfl (by decide) _ _ _ rfl (hown.alloc _) (wr.heap.size + 1) (some ⟨wr.heap.size, 0, none⟩) 4 4 [.int .u8 ((k : Int) / 16777216), .int .u8 ((k : Int) / 65536), .int .u8 ((k : Int) / 256), .int .u8 ((k : Int) % 256)] rfl hR4 (by intro u hu; simp at hu; rcases hu with rfl | rfl | rfl | rfl <;> rfl) (by unfold maxLen; omega) (by omega) (by have := hB.size; simp; omega) ?_)
      intro v6 w6 hown6 hg6 _
      have hB6 : Below w.heap.size w w6 := (below_al hB _).grown hg6 (by have := hB.size; simp; omega) (fun q hq => ownGe hown hq)
      have hR6 := hRq.keep (w' := w6) (fun p hp => by rw [hB6.cell hp, hB.cell hp])
      have hcell6 : w6.cell? (ad.add i) = some (.slice Ai k ci) := (hB6.cell (p := ad.add i) (by rw [block_of_add]; exact HS.out _ hSb)).trans ((hB.cell (p := ad.add i) (by rw [block_of_add]; exact HS.out _ hSb)).symm.trans hcell)
      obtain ⟨A6, c6, rfl⟩ := ownForm hown6
      clear hown hg6 hRq hR4 hcell hB
      go_wp2_with (at_builtin; refine wpList_append_any _ rfl (.tmp 31) (.tmp 35) 22 rfl w.heap.size 5 j0 (.int .u8 0) 1 1 Tryz.underlying22 hj0 hy0 hy1 hy2 rfl (by decide) _ _ _ rfl hown6 w.heap.size Ai k ci (u8s l) rfl hR6 hone (by unfold maxLen; omega) (by omega) hB6.size ?_)
      intro v7 w7 hown7 hg7 _
      have hB7 := hB6.grown hg7 hB6.size (fun q hq => ownGe hown6 hq)
      obtain ⟨A7, c7, rfl⟩ := ownForm hown7
      have hown8 : w7.ownsRow w.heap.size 5 1 (.slice A7 (kf + 4 + k) c7) (kf + 4 + k) (u8s (frameF (L.take (i + 1)))) := by
        rw [HFS.out]
        have : u8s (frameF (L.take i) ++ ([k / 16777216, k / 65536, k / 256, k % 256] ++ l)) = u8s (frameF (L.take i)) ++ u8s [k / 16777216, k / 65536, k / 256, k % 256] ++ u8s l := by simp [u8s]
        rw [this, H4.out, List.append_assoc]; exact hown7
      clear hown6 hown7 hg7 hR6 hB6 hcell6
      go_wp2_with fail
      go_roundw
      case rel => exact ⟨i + 1, kf + 4 + k, ⟨by rw [HFS.out, List.length_append, List.length_append, HKF.out, HK.out]; simp; omega⟩, by omega, by omega, by go_num, hown8, hB7⟩
      case measure => simp [intOf]; omega
    · obtain rfl : i = m := by omega
      have hfl : frameF (L.take i) = frameF L := by rw [← HM.out, List.take_length]
      rw [hfl] at hown HKF
      go_wp2_with fail
      go_ret
      exact ⟨_, rfl, by rw [HKF.out]; exact hown, hB⟩

end Go.Proofs.YticcphppnmoogaaGreatDoor
