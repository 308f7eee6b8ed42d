/-
  The reference's roots.
-/
import Derived.Test.YtaffjcenojikjaaDoorDigMake
namespace Go.Proofs.YtaffjcenojikjaaDoor
open Go.RowKit
attribute [local go_sem ↓] Go.wp_at_zero Go.wp_at_succ

theorem prodF_len (A B : List Nat) : (prodF A B).length = A.length + B.length := outF_len _ _ _
theorem prodF_lt {A B : List Nat} (hA : ∀ x ∈ A, x < 65536) (hB : ∀ x ∈ B, x < 65536) : ∀ x ∈ prodF A B, x < 65536 := outF_lt hA hB _
theorem digF_lt (n : Nat) : ∀ x ∈ digF n, x < 65536 := by
  intro x hx
  simp only [digF, List.mem_cons, List.not_mem_nil, or_false] at hx
  rcases hx with rfl | rfl | rfl <;> omega
/-- y to the power k + 1, in digits. -/
def powF (y : Nat) : Nat → List Nat
  | 0 => digF y
  | k + 1 => prodF (powF y k) (digF y)
theorem powF_len (y k : Nat) : (powF y k).length = 3 * k + 3 := by
  induction k with
  | zero => rfl
  | succ k ih => simp [powF, prodF_len, ih, digF]; omega
theorem powF_lt (y k : Nat) : ∀ x ∈ powF y k, x < 65536 := by
  induction k with
  | zero => exact digF_lt y
  | succ k ih => exact prodF_lt ih (digF_lt y)
/-- The whole part and the rest, behind j digits from the highest down. -/
def cutD (z : List Nat) (p : Nat) : Nat → Nat × Nat
  | 0 => (0, 0)
  | j + 1 => let r := cutD z p j; let d := z.getD (z.length - 1 - j) 0; if 2 * p ≤ z.length - 1 - j then ((65536 * r.1 + d) % 18446744073709551616, r.2) else (r.1, (r.2 + d) % 18446744073709551616)
theorem cutD_lt (z : List Nat) (p j : Nat) : (cutD z p j).1 < 18446744073709551616 ∧ (cutD z p j).2 < 18446744073709551616 := by
  induction j with
  | zero => exact ⟨by show 0 < _; omega, by show 0 < _; omega⟩
  | succ j ih =>
    unfold cutD
    dsimp only
    split
    · exact ⟨Nat.mod_lt _ (by omega), ih.2⟩
    · exact ⟨ih.1, Nat.mod_lt _ (by omega)⟩
def fitsF (prime p y : Nat) : Bool := let z := powF y (p - 1); let r := cutD z p z.length; decide (r.1 < prime) || (decide (r.1 = prime) && decide (r.2 = 0))
/-- x behind j rounds. -/
def rootX (prime p : Nat) : Nat → Nat
  | 0 => 0
  | j + 1 => let x := rootX prime p j; let y := (x + 2 ^ (36 - j)) % 18446744073709551616; if fitsF prime p y = true then y else x
def rootF (prime p : Nat) : Nat := rootX prime p 37 % 4294967296
theorem rootX_lt (prime p j : Nat) : rootX prime p j < 18446744073709551616 := by
  induction j with
  | zero => show 0 < _; omega
  | succ j ih =>
    unfold rootX
    dsimp only
    split
    · exact Nat.mod_lt _ (by omega)
    · exact ih
theorem mk6 (w : World) : (Instr.makeSlice 71 (.int .i64 6) (.int .i64 6)).run Tryd.prog w = .ok (.slice (some ⟨w.heap.size, 0, none⟩) 6 6) (w.alloc (.cells (u64s (List.replicate 6 0)).toArray 32)) := by kernel_rfl
theorem mk9 (w : World) : (Instr.makeSlice 71 (.int .i64 9) (.int .i64 9)).run Tryd.prog w = .ok (.slice (some ⟨w.heap.size, 0, none⟩) 9 9) (w.alloc (.cells (u64s (List.replicate 9 0)).toArray 32)) := by kernel_rfl
theorem two_pow : ∀ i : Fin 37, (2 : Nat) ^ i.val < 18446744073709551616 := by decide +kernel

/-- One round more of a power. -/
theorem pow_step (y k p g c : Nat) (w : World) (hk : k + 1 < p) (hp : p = 2 ∨ p = 3) (h : Blk w g 32 (u64s (powF y k)).toArray) {g2 : Nat} (h2 : Blk w g2 32 (u64s (digF y)).toArray) :
    Calls Tryd.prog 33 #[.slice (some ⟨g, 0, none⟩) (3 * k + 3) c, .slice (some ⟨g2, 0, none⟩) 3 3] w fun e w' => e = .returned (.slice (some ⟨w.heap.size, 0, none⟩) (3 * (k + 1) + 3) (3 * (k + 1) + 3)) ∧ Blk w' w.heap.size 32 (u64s (powF y (k + 1))).toArray ∧ Below w.heap.size w w' := by
  have hl := powF_len y k
  have hk2 : k = 0 ∨ k = 1 := by omega
  have := product_any (powF y k) (digF y) g g2 c 3 w (powF_lt y k) (digF_lt y) (by omega) (by simp [digF]) (by
    rcases hk2 with rfl | rfl
    · exact mk6
    · intro w'
      rw [hl]
      exact mk9 w') h h2
  rw [hl] at this
  exact this

set_option maxRecDepth 100000 in
set_option maxHeartbeats 4000000 in
theorem root_any (prime p : Nat) (w : World) (hp : p = 2 ∨ p = 3) (hpr : prime < 18446744073709551616) :
    Calls Tryd.prog 27 #[.int .u64 (prime : Int), .int .i64 (p : Int)] w fun e w' => e = .returned (.int .i64 (rootF prime p : Nat)) ∧ Below w.heap.size w w' := by
  have hp2 : 2 ≤ p ∧ p ≤ 3 := by omega
  go_enter Tryd.func27, Tryd.ntmps27
  go_wp2_with fail
  go_loopw [5, 6] (fun v5 v6 wr => ∃ j : Nat, j ≤ 37 ∧ v6 = .int .i64 (36 - (j : Int)) ∧ v5 = .int .u64 (rootX prime p j : Nat) ∧ Below w.heap.size w wr) (fun _ v6 _ => (intOf v6 + 1).toNat)
  case atStart => exact ⟨0, by omega, rfl, rfl, Below.refl _ _⟩
  case round =>
    obtain ⟨j, hj, rfl, rfl, hB⟩ := hrel
    by_cases hlt : j < 37
    · have hx := rootX_lt prime p j
      have hpw := two_pow ⟨36 - j, by omega⟩
      have hnx : rootX prime p (j + 1) = if fitsF prime p ((rootX prime p j + 2 ^ (36 - j)) % 18446744073709551616) = true then (rootX prime p j + 2 ^ (36 - j)) % 18446744073709551616 else rootX prime p j := rfl
      obtain ⟨x, hxx⟩ : ∃ x, rootX prime p j = x := ⟨_, rfl⟩
      rw [hxx] at hx hnx ⊢
      have HNX := Sl.mk hnx
      clear hnx hxx
      obtain ⟨y, hy⟩ : ∃ y, (x + 2 ^ (36 - j)) % 18446744073709551616 = y := ⟨_, rfl⟩
      have hyl : y < 18446744073709551616 := by rw [← hy]; exact Nat.mod_lt _ (by omega)
      have hyw : IntKind.u64.wrap ((x : Int) + IntKind.u64.wrap ((2 : Int) ^ (36 - j))) = (y : Int) := by
        rw [← hy, show ((2 : Int) ^ (36 - j)) = ((2 ^ (36 - j) : Nat) : Int) from (Int.natCast_pow 2 (36 - j)).symm]
        generalize 2 ^ (36 - j) = t
        rw [IntKind.wrap_u64, IntKind.wrap_u64]
        omega
      rw [hy] at HNX
      have h0 : (j : Int) ≤ 36 := by omega
      clear hpw
      go_wp2_with fail
      clear hyw hy
      refine (digits_any y _ hyl).mono ?_
      rintro e w1 ⟨rfl, hZ1, hB1⟩
      have hE1 := below_tr hB hB1
      have hg1 := hZ1.lt
      go_wp2_with fail
      obtain ⟨wo, hwo⟩ : ∃ wo, wo = wr := ⟨_, rfl⟩
      subst hwo
      go_loopw [8, 9] (fun v8 v9 wr => ∃ k g : Nat, k + 1 ≤ p ∧ v9 = .int .i64 ((k : Int) + 1) ∧ v8 = .slice (some ⟨g, 0, none⟩) (3 * k + 3) (3 * k + 3) ∧ Blk wr g 32 (u64s (powF y k)).toArray ∧ Below w.heap.size w wr) (fun _ v9 _ => p - (intOf v9).toNat)
      case atStart => exact ⟨0, wo.heap.size, by omega, rfl, rfl, hZ1, hE1⟩
      case round =>
        obtain ⟨k, g, hk, rfl, rfl, hZ, hB⟩ := hrel
        by_cases hlk : k + 1 < p
        · go_wp2_with fail
          refine (digits_any y _ hyl).mono ?_
          rintro e w2 ⟨rfl, hY2, hB2⟩
          have hZ2 := hZ.be hB2
          go_wp2_with fail
          refine (pow_step y k p g _ w2 hlk hp hZ2 hY2).mono ?_
          rintro e w3 ⟨rfl, hZ3, hB3⟩
          have hE3 := below_tr (below_tr hB hB2) hB3
          go_wp2_with fail
          go_roundw
          case rel => exact ⟨k + 1, _, by omega, by go_num, rfl, hZ3, hE3⟩
          case measure => simp [intOf]; omega
        · obtain rfl : p = k + 1 := by omega
          obtain ⟨z, hz⟩ : ∃ z, powF y k = z := ⟨_, rfl⟩
          obtain ⟨n, hn⟩ : ∃ n, 3 * k + 3 = n := ⟨_, rfl⟩
          have hzl : z.length = n := by rw [← hz, powF_len, hn]
          have hzb : ∀ x ∈ z, x < 65536 := by rw [← hz]; exact powF_lt y k
          have hfit : fitsF prime (k + 1) y = (decide ((cutD z (k + 1) n).1 < prime) || (decide ((cutD z (k + 1) n).1 = prime) && decide ((cutD z (k + 1) n).2 = 0))) := by
            unfold fitsF
            rw [show k + 1 - 1 = k by omega]
            simp only [hz, hzl]
          rw [hz] at hZ
          rw [hn]
          have HF := Sl.mk hfit
          have HZL := Sl.mk hzl
          have HZB := Sl.mk hzb
          have hn9 : n = 6 ∨ n = 9 := by omega
          clear hfit hzl hzb hz hZ1 hE1
          go_wp2_with fail
          go_loop [10, 11, 12] (fun v10 v11 v12 => ∃ i : Nat, i ≤ n ∧ v12 = .int .i64 ((n : Int) - 1 - (i : Int)) ∧ v10 = .int .u64 ((cutD z (k + 1) i).1 : Nat) ∧ v11 = .int .u64 ((cutD z (k + 1) i).2 : Nat)) (fun _ _ v12 => (intOf v12 + 1).toNat)
          case atStart => exact ⟨0, by omega, by go_num, rfl, rfl⟩
          case round =>
            obtain ⟨i, hi, rfl, rfl, rfl⟩ := hrel
            by_cases hli : i < n
            · obtain ⟨m, hm⟩ : ∃ m : Nat, n - 1 - i = m := ⟨_, rfl⟩
              have hmi : (n : Int) - 1 - (i : Int) = (m : Int) := by omega
              obtain ⟨d, hd⟩ : ∃ d, z.getD m 0 = d := ⟨_, rfl⟩
              have hst : cutD z (k + 1) (i + 1) = if 2 * (k + 1) ≤ m then ((65536 * (cutD z (k + 1) i).1 + d) % 18446744073709551616, (cutD z (k + 1) i).2) else ((cutD z (k + 1) i).1, ((cutD z (k + 1) i).2 + d) % 18446744073709551616) := by
                rw [← hd, ← hm, ← HZL.out]; rfl
              obtain ⟨q1, q2⟩ := cutD_lt z (k + 1) i
              have hdb : d < 65536 := by rw [← hd]; exact getD_lt HZB.out (by omega) _
              have hc := blk_at hZ (i := m) (v := .int .u64 (d : Int)) (by rw [get_u64 (by rw [HZL.out]; omega), hd])
              obtain ⟨⟨wh, re⟩, hR⟩ : ∃ R, cutD z (k + 1) i = R := ⟨_, rfl⟩
              rw [hR] at hst q1 q2 ⊢
              rw [hmi]
              dsimp only at hst q1 q2 ⊢
              have hmn : m < n := by omega
              have HST := Sl.mk hst
              have HM := Sl.mk hm
              clear hst hR hd hm hmi
              by_cases hcase : 2 * (k + 1) ≤ m
              · go_wp2_with fail
                go_round
                case rel =>
                  refine ⟨i + 1, by omega, ?_, ?_, ?_⟩
                  · have := HM.out; go_num
                  · rw [HST.out, if_pos hcase]; congr 1; rw [IntKind.wrap_u64, IntKind.wrap_u64]; omega
                  · rw [HST.out, if_pos hcase]
                case measure => have := HM.out; simp [intOf] <;> omega
              · go_wp2_with fail
                go_round
                case rel =>
                  refine ⟨i + 1, by omega, ?_, ?_, ?_⟩
                  · have := HM.out; go_num
                  · rw [HST.out, if_neg hcase]
                  · rw [HST.out, if_neg hcase] <;> first | rfl | (congr 1; rw [IntKind.wrap_u64]; omega)
                case measure => have := HM.out; simp [intOf] <;> omega
            · obtain rfl : i = n := by omega
              obtain ⟨⟨wh, re⟩, hR⟩ : ∃ R, cutD z (k + 1) i = R := ⟨_, rfl⟩
              rw [hR] at HF ⊢
              dsimp only at HF ⊢
              clear hR
              have fin : ∀ b : Bool, fitsF prime (k + 1) y = b → rootX prime (k + 1) (j + 1) = if b = true then y else x := fun b hb => by rw [HNX.out, hb]
              have FIN := Sl.mk fin
              clear fin
              by_cases c1 : wh < prime
              · have hf := FIN.out true (by rw [HF.out]; simp [c1])
                go_wp2_with fail
                go_roundw
                case rel => exact ⟨j + 1, by omega, by go_num, by rw [hf]; rfl, hB⟩
                case measure => simp [intOf]; omega
              · by_cases c2 : wh = prime
                · by_cases c3 : re = 0
                  · have hf := FIN.out true (by rw [HF.out]; simp [c2, c3])
                    subst c2 c3
                    go_wp2_with fail
                    go_roundw
                    case rel => exact ⟨j + 1, by omega, by go_num, by rw [hf]; rfl, hB⟩
                    case measure => simp [intOf]; omega
                  · have hf := FIN.out false (by rw [HF.out]; simp [c1, c3])
                    subst c2
                    go_wp2_with fail
                    go_roundw
                    case rel => exact ⟨j + 1, by omega, by go_num, by rw [hf]; rfl, hB⟩
                    case measure => simp [intOf]; omega
                · have hf := FIN.out false (by rw [HF.out]; simp [c1, c2])
                  have c2' : ((wh : Int) == (prime : Int)) = false := by simp; omega
                  go_wp2_with fail
                  go_roundw
                  case rel => exact ⟨j + 1, by omega, by go_num, by rw [hf]; rfl, hB⟩
                  case measure => simp [intOf]; omega
    · obtain rfl : j = 37 := by omega
      have hx := rootX_lt prime p 37
      have hr : rootF prime p = rootX prime p 37 % 4294967296 := rfl
      obtain ⟨x, hxx⟩ : ∃ x, rootX prime p 37 = x := ⟨_, rfl⟩
      rw [hxx] at hx hr ⊢
      have hw64 : IntKind.i64.wrap ((x : Int) % 4294967296) = (x : Int) % 4294967296 := by rw [IntKind.wrap_i64]; omega
      go_wp2_with fail
      go_ret
      exact ⟨by rw [hr]; congr 1, hB⟩

end Go.Proofs.YtaffjcenojikjaaDoor
