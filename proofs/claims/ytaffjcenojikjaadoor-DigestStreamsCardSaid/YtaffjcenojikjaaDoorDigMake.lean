/-
  The reference's numbers of digits: digits, product.
-/
import Derived.Test.YtaffjcenojikjaaDoorDigRefW
namespace Go.Proofs.YtaffjcenojikjaaDoor
open Go.RowKit
attribute [local go_sem ↓] Go.wp_at_zero Go.wp_at_succ

def u64s (l : List Nat) : List Value := l.map fun n : Nat => Value.int .u64 (n : Int)
theorem u64s_len (l : List Nat) : (u64s l).length = l.length := by simp [u64s]
def digF (n : Nat) : List Nat := [n % 65536, n / 65536 % 65536, n / 65536 / 65536 % 65536]

set_option maxRecDepth 100000 in
theorem digits_any (n : Nat) (w : World) (hn : n < 18446744073709551616) :
    Calls Tryd.prog 32 #[.int .u64 (n : Int)] w fun e w' => e = .returned (.slice (some ⟨w.heap.size, 0, none⟩) 3 3) ∧ Blk w' w.heap.size 32 (u64s (digF n)).toArray ∧ Below w.heap.size w w' := by
  go_enter Tryd.func32, Tryd.ntmps32
  go_wp2_with fail
  go_ret
  exact ⟨rfl, Blk.new' rfl, below_al (Below.refl _ _) _⟩

/-- The inner loop behind k rounds: the digits, the carry. -/
def inF (O : List Nat) (a : Nat) (B : List Nat) (i : Nat) : Nat → List Nat × Nat
  | 0 => (O, 0)
  | k + 1 => let r := inF O a B i k; let n := r.1.getD (i + k) 0 + a * B.getD k 0 + r.2; (r.1.set (i + k) (n % 65536), n / 65536)
def outF (A B : List Nat) : Nat → List Nat
  | 0 => List.replicate (A.length + B.length) 0
  | i + 1 => let r := inF (outF A B i) (A.getD i 0) B i B.length; r.1.set (i + B.length) r.2
def prodF (A B : List Nat) : List Nat := outF A B A.length
theorem inF_len (O : List Nat) (a : Nat) (B : List Nat) (i k : Nat) : (inF O a B i k).1.length = O.length := by
  induction k with
  | zero => rfl
  | succ k ih => simp [inF, ih]
theorem outF_len (A B : List Nat) (i : Nat) : (outF A B i).length = A.length + B.length := by
  induction i with
  | zero => simp [outF]
  | succ i ih => simp [outF, inF_len, ih]
theorem getD_lt {l : List Nat} {m : Nat} (h : ∀ x ∈ l, x < m) (hm : 0 < m) (i : Nat) : l.getD i 0 < m := by
  by_cases hi : i < l.length
  · have e : l.getD i 0 = l[i] := by simp [hi]
    rw [e]; exact h _ (List.getElem_mem hi)
  · have e : l.getD i 0 = 0 := by simp [hi]
    rw [e]; exact hm
theorem mul_lt16 {a b : Nat} (ha : a < 65536) (hb : b < 65536) : a * b ≤ 4294836225 := by
  have : a * b ≤ 65535 * 65535 := Nat.mul_le_mul (by omega) (by omega)
  omega
theorem inF_lt {O : List Nat} {a : Nat} {B : List Nat} {i : Nat} (hO : ∀ x ∈ O, x < 65536) (ha : a < 65536) (hB : ∀ x ∈ B, x < 65536) (k : Nat) : (∀ x ∈ (inF O a B i k).1, x < 65536) ∧ (inF O a B i k).2 < 65536 := by
  induction k with
  | zero => exact ⟨hO, by show 0 < 65536; omega⟩
  | succ k ih =>
    obtain ⟨h1, h2⟩ := ih
    have h3 := getD_lt h1 (by omega) (i + k)
    have h4 := mul_lt16 ha (getD_lt hB (by omega) k)
    refine ⟨fun x hx => ?_, ?_⟩
    · rcases List.mem_or_eq_of_mem_set hx with hx | rfl
      · exact h1 x hx
      · omega
    · show (_ / 65536 : Nat) < 65536
      omega
theorem outF_lt {A B : List Nat} (hA : ∀ x ∈ A, x < 65536) (hB : ∀ x ∈ B, x < 65536) (i : Nat) : ∀ x ∈ outF A B i, x < 65536 := by
  induction i with
  | zero => intro x hx; have := List.eq_of_mem_replicate hx; omega
  | succ i ih =>
    intro x hx
    have h := inF_lt (i := i) ih (getD_lt hA (by omega) i) hB B.length
    rcases List.mem_or_eq_of_mem_set hx with hx | rfl
    · exact h.1 x hx
    · exact h.2
theorem get_u64 {l : List Nat} {i : Nat} (h : i < l.length) : (u64s l)[i]? = some (.int .u64 ((l.getD i 0 : Nat) : Int)) := by simp [u64s, h]
theorem set_u64 {w : World} {g : Nat} {t : TypeId} {V : List Nat} (h : Blk w g t (u64s V).toArray) (p x : Nat) : Blk (w.setCell ⟨g, p, none⟩ (.int .u64 (x : Int))) g t (u64s (V.set p x)).toArray := by
  refine blk_set _ _ _ _ p _ _ h ?_
  simp [u64s]

set_option maxRecDepth 100000 in
set_option maxHeartbeats 4000000 in
theorem product_any (A B : List Nat) (g1 g2 c1 c2 : Nat) (w : World) (hA : ∀ x ∈ A, x < 65536) (hB : ∀ x ∈ B, x < 65536) (hlA : A.length ≤ 100) (hlB : B.length ≤ 100)
    (hmk : ∀ w : World, (Instr.makeSlice 71 (.int .i64 ((A.length : Int) + (B.length : Int))) (.int .i64 ((A.length : Int) + (B.length : Int)))).run Tryd.prog w = .ok (.slice (some ⟨w.heap.size, 0, none⟩) (A.length + B.length) (A.length + B.length)) (w.alloc (.cells (u64s (List.replicate (A.length + B.length) 0)).toArray 32)))
    (h1 : Blk w g1 32 (u64s A).toArray) (h2 : Blk w g2 32 (u64s B).toArray) :
    Calls Tryd.prog 33 #[.slice (some ⟨g1, 0, none⟩) A.length c1, .slice (some ⟨g2, 0, none⟩) B.length c2] w fun e w' => e = .returned (.slice (some ⟨w.heap.size, 0, none⟩) (A.length + B.length) (A.length + B.length)) ∧ Blk w' w.heap.size 32 (u64s (prodF A B)).toArray ∧ Below w.heap.size w w' := by
  have HA := Sl.mk hA
  have HB := Sl.mk hB
  obtain ⟨nA, hnA⟩ : ∃ n, A.length = n := ⟨_, rfl⟩
  obtain ⟨nB, hnB⟩ : ∃ n, B.length = n := ⟨_, rfl⟩
  have HNA := Sl.mk hnA
  have HNB := Sl.mk hnB
  rw [hnA, hnB] at hmk ⊢
  rw [hnA] at hlA
  rw [hnB] at hlB
  have l1 := h1.lt
  have l2 := h2.lt
  clear hA hB hnA hnB
  go_enter Tryd.func33, Tryd.ntmps33
  go_wp2_with fail
  go_loopw [6] (fun v6 wr => ∃ i : Nat, i ≤ nA ∧ v6 = .int .i64 i ∧ Blk wr w.heap.size 32 (u64s (outF A B i)).toArray ∧ Below w.heap.size w wr) (fun v6 _ => nA - (intOf v6).toNat)
  case atStart => exact ⟨0, by omega, rfl, by rw [show outF A B 0 = List.replicate (nA + nB) 0 by rw [← HNA.out, ← HNB.out]; rfl]; exact Blk.new _ _ _, below_al (Below.refl _ _) _⟩
  case round =>
    obtain ⟨i, hi, rfl, hO, hBl⟩ := hrel
    clear hmk
    by_cases hlt : i < nA
    · obtain ⟨a, ha⟩ : ∃ a, A.getD i 0 = a := ⟨_, rfl⟩
      obtain ⟨O, hOO⟩ : ∃ O, outF A B i = O := ⟨_, rfl⟩
      have hOl : O.length = nA + nB := by rw [← hOO, outF_len, HNA.out, HNB.out]
      have hO16 : ∀ x ∈ O, x < 65536 := by rw [← hOO]; exact outF_lt HA.out HB.out i
      have ha16 : a < 65536 := by rw [← ha]; exact getD_lt HA.out (by omega) i
      have hnext : outF A B (i + 1) = (inF O a B i nB).1.set (i + nB) (inF O a B i nB).2 := by rw [← HNB.out, ← ha, ← hOO]; rfl
      have hca : w.cell? ⟨g1, i, none⟩ = some (.int .u64 (a : Int)) := blk_at h1 (by rw [get_u64 (by rw [HNA.out]; exact hlt), ha])
      rw [hOO] at hO
      have HOL := Sl.mk hOl
      have HO16 := Sl.mk hO16
      have HN := Sl.mk hnext
      clear hOl hO16 hnext ha hOO
      go_wp2_with fail
      obtain ⟨wo, hwo⟩ : ∃ wo, wo = wr := ⟨_, rfl⟩
      subst hwo
      go_loopw [7, 8] (fun v7 v8 wr => ∃ k : Nat, k ≤ nB ∧ v8 = .int .i64 k ∧ v7 = .int .u64 ((inF O a B i k).2 : Nat) ∧ Blk wr w.heap.size 32 (u64s (inF O a B i k).1).toArray ∧ Below w.heap.size w wr) (fun _ v8 _ => nB - (intOf v8).toNat)
      case atStart => exact ⟨0, by omega, rfl, rfl, hO, hBl⟩
      case round =>
        obtain ⟨k, hk, rfl, rfl, hO, hBl⟩ := hrel
        by_cases hlk : k < nB
        · obtain ⟨b, hb⟩ : ∃ b, B.getD k 0 = b := ⟨_, rfl⟩
          have hb16 : b < 65536 := by rw [← hb]; exact getD_lt HB.out (by omega) k
          obtain ⟨r1, r2⟩ := inF_lt (i := i) HO16.out ha16 HB.out k
          have hrl := inF_len O a B i k
          rw [HOL.out] at hrl
          have hs : inF O a B i (k + 1) = ((inF O a B i k).1.set (i + k) (((inF O a B i k).1.getD (i + k) 0 + a * b + (inF O a B i k).2) % 65536), ((inF O a B i k).1.getD (i + k) 0 + a * b + (inF O a B i k).2) / 65536) := by rw [← hb]; rfl
          obtain ⟨R, hR⟩ : ∃ R, inF O a B i k = R := ⟨_, rfl⟩
          rw [hR] at r1 r2 hrl hs hO ⊢
          obtain ⟨V, c⟩ := R
          dsimp only at r1 r2 hrl hs hO ⊢
          obtain ⟨o, ho⟩ : ∃ o, V.getD (i + k) 0 = o := ⟨_, rfl⟩
          have ho16 : o < 65536 := by rw [← ho]; exact getD_lt r1 (by omega) _
          rw [ho] at hs
          have hco := blk_at hO (i := i + k) (v := .int .u64 (o : Int)) (by rw [get_u64 (by omega), ho])
          have hfo := hO.frozen (i + k)
          have hcb := (hBl.cell (p := ⟨g2, k, none⟩) l2).trans (blk_at h2 (i := k) (v := .int .u64 (b : Int)) (by rw [get_u64 (by rw [HNB.out]; exact hlk), hb]))
          have hca2 := (hBl.cell (p := ⟨g1, i, none⟩) l1).trans hca
          have hm := mul_lt16 ha16 hb16
          have HS := Sl.mk hs
          have HR1 := Sl.mk r1
          clear hb hs hR ho r1
          go_wp2_with fail
          go_quiet (fail)
          go_wp2_with fail
          go_roundw
          case rel =>
            refine ⟨k + 1, by omega, by go_num, ?_, ?_, (below_drN hBl _).setCell (by simp) _⟩
            · rw [HS.out]; go_num
            · rw [HS.out]; exact set_u64 (hO.drewN _) _ _
          case measure => simp [intOf]; omega
        · obtain rfl : k = nB := by omega
          have hf := hO.frozen (i + k)
          have hrl := inF_len O a B i k
          rw [HOL.out] at hrl
          have hc := blk_at hO (i := i + k) (get_u64 (by omega))
          clear hrl
          go_wp2_with fail
          go_roundw
          case rel => exact ⟨i + 1, by omega, by go_num, by rw [HN.out]; exact set_u64 hO _ _, hBl.setCell (by simp) _⟩
          case measure => simp [intOf]; omega
    · obtain rfl : i = nA := by omega
      have e : outF A B i = prodF A B := by unfold prodF; rw [HNA.out]
      rw [e] at hO
      go_wp2_with fail
      go_ret
      exact ⟨rfl, hO, hBl⟩

end Go.Proofs.YtaffjcenojikjaaDoor
