/-
  The contract of Short.
-/
import Derived.Test.YtaffjcenojikjaaDoorDigFrame
namespace Go.Proofs.YtaffjcenojikjaaDoor
open Go.RowKit
attribute [local go_sem ↓] Go.wp_at_zero Go.wp_at_succ

def numF (D : List Nat) : Nat → Nat
  | 0 => 0
  | i + 1 => 256 * numF D i + D.getD i 0
theorem shaF_get (l : List Nat) (k : Nat) : (shaF l).getD k 0 < 256 := by
  by_cases hk : k < (shaF l).length
  · have e : (shaF l).getD k 0 = (shaF l)[k] := by simp [hk]
    rw [e]
    exact shaF_lt l _ (List.getElem_mem hk)
  · have e : (shaF l).getD k 0 = 0 := by simp [List.getD, List.getElem?_eq_none (by omega : (shaF l).length ≤ k)]
    rw [e]; omega
theorem numF_lt {D : List Nat} (h : ∀ k, D.getD k 0 < 256) : ∀ i, numF D i < 256 ^ i := by
  intro i
  induction i with
  | zero => simp [numF]
  | succ i ih =>
    have := h i
    unfold numF
    rw [Nat.pow_succ]; omega
theorem numF_lt8 {D : List Nat} (h : ∀ k, D.getD k 0 < 256) {i : Nat} (hi : i < 8) : numF D i < 72057594037927936 := by
  have h1 := numF_lt h i
  have h2 : 256 ^ i ≤ 256 ^ 7 := Nat.pow_le_pow_right (by omega) (by omega)
  omega

set_option maxRecDepth 100000 in
set_option maxHeartbeats 4000000 in
theorem short_any (A : Option Addr) (c : Nat) (L : List (List Nat)) (S : Nat → Prop) (w : World) (hn : (frameF L).length ≤ 10000000000) (hLn : L.length ≤ 10000000000) (hT : Tabs w) (hL : RdSS w S A L) (hS : ∀ b, S b → b < w.heap.size) :
    Calls Tryd.prog 19 #[.slice A L.length c] w fun e w' => e = .returned (.int .u64 (numF (shaF (frameF L)) 8 : Nat)) ∧ Below w.heap.size w w' := by
  have HC := Sl.mk (framed_any A c L S w hn hLn hT hL hS)
  obtain ⟨D, hD⟩ : ∃ D, shaF (frameF L) = D := ⟨_, rfl⟩
  have hDl : D.length = 32 := by rw [← hD, shaF_len]
  have hDb : ∀ k, D.getD k 0 < 256 := by rw [← hD]; exact shaF_get _
  obtain ⟨m, hm⟩ : ∃ m, L.length = m := ⟨_, rfl⟩
  rw [hD, hm] at HC
  rw [hD, hm]
  have HDL := Sl.mk hDl
  have HDB := Sl.mk hDb
  have hone := u8s_one D
  clear hn hLn hT hL hS hD hDl hDb hm
  go_enter Tryd.func19, Tryd.ntmps19
  go_wp2_with fail
  refine HC.out.mono ?_
  rintro e w1 ⟨rfl, hB1⟩
  clear HC
  go_wp2_with (refine wpList_store_fresh rfl 37 (.tmp 3) (.tmp 8) rfl 37 (z8 32) (u8s D) _ rfl rfl rfl (by rw [u8s_len, HDL.out]; simp [z8]) (by rw [info32, u8s_len, HDL.out]) hone ?_)
  intro w2 hS2 hB2 _
  have hE2 := below_tr hB1 hB2
  clear hB1 hB2
  go_wp2_with fail
  go_loopw [4, 11] (fun v4 v11 wr => ∃ i : Nat, i ≤ 8 ∧ v11 = .int .i64 (i : Int) ∧ v4 = .int .u64 ((numF D i : Nat) : Int) ∧ wr = w2) (fun _ v11 _ => 8 - (intOf v11).toNat)
  case atStart => exact ⟨0, by omega, rfl, rfl, rfl⟩
  case round =>
    obtain ⟨i, hi, rfl, rfl, rfl⟩ := hrel
    by_cases hlt : i < 8
    · have c0 := blk_at hS2 (i := i) (v := .int .u8 ((D.getD i 0 : Nat) : Int)) (by simp [u8s, HDL.out, show i < 32 by omega])
      have hb := HDB.out i
      have hnl := numF_lt8 HDB.out hlt
      have hnx : numF D (i + 1) = 256 * numF D i + D.getD i 0 := rfl
      obtain ⟨x, ex⟩ : ∃ x, D.getD i 0 = x := ⟨_, rfl⟩
      obtain ⟨y, ey⟩ : ∃ y, numF D i = y := ⟨_, rfl⟩
      rw [ex, ey] at hnx
      rw [ex] at c0 hb
      rw [ey] at hnl ⊢
      have HNX := Sl.mk hnx
      clear hnx ex ey
      go_wp2_with fail
      go_roundw
      case rel => exact ⟨i + 1, by omega, by go_num, by rw [HNX.out]; congr 1; omega, trivial⟩
      case measure => simp [intOf]; omega
    · have hi8 : i = 8 := by omega
      rw [hi8]
      clear hi8
      go_wp2_with fail
      go_ret
      exact ⟨rfl, hE2⟩

end Go.Proofs.YtaffjcenojikjaaDoor
