/-
  The digest by blocks is the digest byte by byte (no program in sight).
-/
import Derived.Test.YtaffjcenojikjaaDoorDigTurnP
namespace Go.Proofs.YtaffjcenojikjaaDoor
open Go.RowKit

def padT (l : List Nat) : List Nat := l ++ (128 :: List.replicate (padK l.length) 0 ++ lenB l.length)
def cutB (P : List Nat) (i : Nat) : List Nat := (P.drop (64 * i)).take 64
def hF (P : List Nat) : Nat → List Nat
  | 0 => FT
  | i + 1 => mixF (hF P i) (cutB P i)
def rsumF (l : List Nat) : List Nat := bytesF (hF (padT l) ((padT l).length / 64))
theorem lenB_len (n : Nat) : (lenB n).length = 8 := by simp [lenB]
theorem padT_len (l : List Nat) : (padT l).length = l.length + 1 + padK l.length + 8 := by
  unfold padT
  rw [List.length_append, List.length_append, List.length_cons, List.length_replicate, lenB_len]; omega
theorem padT_64 (l : List Nat) : (padT l).length % 64 = 0 := by
  rw [padT_len]; unfold padK; omega
theorem hF_len (P : List Nat) : ∀ i, (hF P i).length = 8 := by
  intro i
  induction i with
  | zero => rfl
  | succ i ih => exact mixF_len ih
theorem cutB_len {P : List Nat} {i : Nat} (h : 64 * i + 64 ≤ P.length) : (cutB P i).length = 64 := by
  unfold cutB
  rw [List.length_take, List.length_drop]; omega
theorem take_block {P : List Nat} {i : Nat} : P.take (64 * (i + 1)) = P.take (64 * i) ++ cutB P i := by
  unfold cutB
  rw [show 64 * (i + 1) = 64 * i + 64 by omega, List.take_add]
theorem tds {Z V : List Nat} {j : Nat} (hl : Z.length = V.length) (hj : j < V.length) : (Z.take j ++ V.drop j).set j (Z.getD j 0) = Z.take (j + 1) ++ V.drop (j + 1) := by
  have h2 : (Z.take j).length = j := by simp; omega
  have hz : j < Z.length := by omega
  rw [List.set_append_right _ _ (by omega), h2, Nat.sub_self, List.drop_eq_getElem_cons hj, List.set_cons_zero, take_succ_getD (d := 0) hz, List.append_assoc]
  rfl
def begS (s : StT) : List Nat := if s.2.2 = 0 then FT else s.1
theorem feed_part {s : StT} {i : Nat} {B : List Nat} (hs : okS s) (hn : s.2.2 = 64 * i) (hB : B.length = 64) : ∀ j, j ≤ 63 →
    begS (feedS s (B.take j)) = begS s ∧ (feedS s (B.take j)).2.1 = B.take j ++ s.2.1.drop j ∧ (feedS s (B.take j)).2.2 = 64 * i + j := by
  intro j
  induction j with
  | zero => intro _; exact ⟨rfl, rfl, hn⟩
  | succ j ih =>
    intro hj
    obtain ⟨h1, h2, h3⟩ := ih (by omega)
    rw [take_succ_getD (d := 0) (show j < B.length by omega), feedS_snoc]
    have hc : ¬ ((feedS s (B.take j)).2.2 + 1) % 64 = 0 := by rw [h3]; omega
    have hm : (feedS s (B.take j)).2.2 % 64 = j := by rw [h3]; omega
    have e : oneS (feedS s (B.take j)) (B.getD j 0) = (begS (feedS s (B.take j)), (feedS s (B.take j)).2.1.set j (B.getD j 0), (feedS s (B.take j)).2.2 + 1) := by
      unfold oneS; rw [if_neg hc, hm]; rfl
    rw [e, h1, h2, h3]
    refine ⟨?_, ?_, rfl⟩
    · show begS (begS s, _, 64 * i + j + 1) = _
      unfold begS
      rw [if_neg (show ¬ 64 * i + j + 1 = 0 by omega)]
    · show (B.take j ++ s.2.1.drop j).set j (B.getD j 0) = _
      rw [tds (by rw [hB, hs.2]) (by rw [hs.2]; omega), take_succ_getD (d := 0) (show j < B.length by omega)]
theorem feed_block {s : StT} {i : Nat} {B : List Nat} (hs : okS s) (hn : s.2.2 = 64 * i) (hB : B.length = 64) : feedS s B = (mixF (begS s) B, B, 64 * (i + 1)) := by
  obtain ⟨h1, h2, h3⟩ := feed_part hs hn hB 63 (Nat.le_refl _)
  have e : B = B.take 63 ++ [B.getD 63 0] := by
    rw [← take_succ_getD (d := 0) (show 63 < B.length by omega), List.take_of_length_le (by omega)]
  have e2 : feedS s B = oneS (feedS s (B.take 63)) (B.getD 63 0) := by
    conv => lhs; rw [e]
    rw [feedS_snoc]
  have hc : ((feedS s (B.take 63)).2.2 + 1) % 64 = 0 := by rw [h3]; omega
  have hm : (feedS s (B.take 63)).2.2 % 64 = 63 := by rw [h3]; omega
  have hset : (B.take 63 ++ s.2.1.drop 63).set 63 (B.getD 63 0) = B := by
    rw [tds (by rw [hB, hs.2]) (by rw [hs.2]; omega), List.take_of_length_le (by omega), List.drop_of_length_le (by rw [hs.2]; omega), List.append_nil]
  have e3 : oneS (feedS s (B.take 63)) (B.getD 63 0) = (mixF (begS (feedS s (B.take 63))) ((feedS s (B.take 63)).2.1.set 63 (B.getD 63 0)), (feedS s (B.take 63)).2.1.set 63 (B.getD 63 0), (feedS s (B.take 63)).2.2 + 1) := by
    unfold oneS; rw [if_pos hc, hm]; rfl
  rw [e2, e3, h1, h2, h3, hset]
  congr 2
theorem feed_all {P : List Nat} : ∀ k, 64 * k ≤ P.length → begS (feedS zS (P.take (64 * k))) = hF P k ∧ (feedS zS (P.take (64 * k))).2.2 = 64 * k := by
  intro k
  induction k with
  | zero => intro _; exact ⟨rfl, rfl⟩
  | succ k ih =>
    intro hk
    obtain ⟨h1, h2⟩ := ih (by omega)
    rw [take_block, feedS_app, feed_block (feedS_ok zS_ok _) h2 (cutB_len (by omega)), h1]
    refine ⟨?_, rfl⟩
    unfold begS
    rw [if_neg (show ¬ 64 * (k + 1) = 0 by omega)]
    rfl
theorem rsum_eq (l : List Nat) : rsumF l = shaF l := by
  have hn : (feedS zS l).2.2 = l.length := by rw [feedS_n]; show 0 + _ = _; omega
  have h1 : shaF l = bytesF (feedS zS (padT l)).1 := by
    unfold shaF sumF padT
    rw [hn, feedS_app zS l]
  obtain ⟨k, hk⟩ : ∃ k, (padT l).length = 64 * k := ⟨(padT l).length / 64, by have := padT_64 l; omega⟩
  obtain ⟨h2, h3⟩ := feed_all (P := padT l) k (by omega)
  rw [List.take_of_length_le (by omega)] at h2 h3
  have hk0 : ¬ 64 * k = 0 := by rw [← hk, padT_len]; omega
  unfold begS at h2
  rw [h3, if_neg hk0] at h2
  unfold rsumF
  rw [h1, hk, show 64 * k / 64 = k by omega, h2]
theorem lenB_lt (n : Nat) : ∀ y ∈ lenB n, y < 256 := by
  intro y hy
  simp only [lenB, List.mem_map] at hy
  obtain ⟨i, -, rfl⟩ := hy
  unfold lenF; omega
theorem padT_lt {l : List Nat} (h : ∀ y ∈ l, y < 256) : ∀ y ∈ padT l, y < 256 := by
  intro y hy
  unfold padT at hy
  simp only [List.mem_append, List.mem_cons] at hy
  rcases hy with hy | (hy | hy) | hy
  · exact h y hy
  · subst hy; omega
  · rw [List.eq_of_mem_replicate hy]; omega
  · exact lenB_lt _ y hy
theorem mixF_lt' {H R : List Nat} : ∀ y ∈ mixF H R, y < 4294967296 := by
  intro y hy
  unfold mixF at hy
  rw [List.mem_iff_getElem] at hy
  obtain ⟨i, hi, rfl⟩ := hy
  rw [List.getElem_zipWith]
  exact aw_lt _ _
theorem hF_lt (P : List Nat) : ∀ i, ∀ y ∈ hF P i, y < 4294967296 := by
  intro i
  cases i with
  | zero => exact FT_lt
  | succ i => exact mixF_lt'
theorem cutB_get {P : List Nat} {i k : Nat} (hk : k < 64) : (cutB P i).getD k 0 = P.getD (64 * i + k) 0 := by
  unfold cutB
  simp only [List.getD, List.getElem?_take, hk, if_true, List.getElem?_drop]
theorem getD_lt' {P : List Nat} {b : Nat} (h : ∀ y ∈ P, y < b) (hb : 0 < b) (k : Nat) : P.getD k 0 < b := by
  by_cases hk : k < P.length
  · have e : P.getD k 0 = P[k] := by simp [hk]
    rw [e]; exact h _ (List.getElem_mem hk)
  · have e : P.getD k 0 = 0 := by simp [List.getD, List.getElem?_eq_none (by omega : P.length ≤ k)]
    rw [e]; exact hb
theorem cutB_lt {P : List Nat} (h : ∀ y ∈ P, y < 256) (i k : Nat) : (cutB P i).getD k 0 < 256 :=
  getD_lt' (fun y hy => h y (List.mem_of_mem_drop (List.mem_of_mem_take hy))) (by omega) k

end Go.Proofs.YtaffjcenojikjaaDoor
