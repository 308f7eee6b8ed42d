/-
  The reference's numbers of digits: digits, product.
  The reference's roots.
  The reference's table, reckoned by the kernel.
-/
import Derived.Test.YticcphppnmoogaaGreatDoorBy21

namespace Go.Proofs.YticcphppnmoogaaGreatDoor
open Go.RowKit
attribute [local go_sem ↓] Go.wp_at_zero Go.wp_at_succ

def u64s (l : List Nat) : List Value := l.map fun n : Nat => Value.int .u64 (n : Int)
theorem u64s_len (l : List Nat) : (u64s l).length = l.length := by simp [u64s]
def digF (n : Nat) : List Nat := [n % 65536, n / 65536 % 65536, n / 65536 / 65536 % 65536]

set_option maxRecDepth 100000 in
theorem digits_any (n : Nat) (w : World) (hn : n < 18446744073709551616) :
    Calls Tryz.prog 45 #[.int .u64 (n : Int)] w fun e w' => e = .returned (.slice (some ⟨w.heap.size, 0, none⟩) 3 3) ∧ Blk w' w.heap.size 68 (u64s (digF n)).toArray ∧ Below w.heap.size w w' := by
  go_enter Tryz.func45, Tryz.ntmps45
  go_wp2_with fail
  go_ret
  exact ⟨rfl, Blk.new' rfl, below_al (Below.refl _ _) _⟩

/-- The inner loop behind k rounds: the digits, the carry. -/
def inF (O : List Nat) (a : Nat) (B : List Nat) (i : Nat) : Nat → List Nat × Nat
  | 0 => (O, 0)
  | k + 1 => let r := inF O a B i k; let n := r.1.getD (i + k) 0 + a * B.getD k 0 + r.2; (r.1.set (i + k) (n % 65536), n / 65536)
def outF (A B : List Nat) : Nat → List Nat
  | 0 => List.replicate (A.length + B.length) 0
  | i + 1 => let r := inF (outF A B i) (A.getD i 0) B i B.length; r.1.set (i + B.length) r.2
def prodF (A B : List Nat) : List Nat := outF A B A.length
theorem inF_len (O : List Nat) (a : Nat) (B : List Nat) (i k : Nat) : (inF O a B i k).1.length = O.length := by
  induction k with
  | zero => rfl
  | succ k ih => simp [inF, ih]
theorem outF_len (A B : List Nat) (i : Nat) : (outF A B i).length = A.length + B.length := by
  induction i with
  | zero => simp [outF]
  | succ i ih => simp [outF, inF_len, ih]
theorem getD_lt {l : List Nat} {m : Nat} (h : ∀ x ∈ l, x < m) (hm : 0 < m) (i : Nat) : l.getD i 0 < m := by
  by_cases hi : i < l.length
  · have e : l.getD i 0 = l[i] := by simp [hi]
    rw [e]; exact h _ (List.getElem_mem hi)
  · have e : l.getD i 0 = 0 := by simp [hi]
    rw [e]; exact hm
theorem mul_lt16 {a b : Nat} (ha : a < 65536) (hb : b < 65536) : a * b ≤ 4294836225 := by
  have : a * b ≤ 65535 * 65535 := Nat.mul_le_mul (by omega) (by omega)
  omega
theorem inF_lt {O : List Nat} {a : Nat} {B : List Nat} {i : Nat} (hO : ∀ x ∈ O, x < 65536) (ha : a < 65536) (hB : ∀ x ∈ B, x < 65536) (k : Nat) : (∀ x ∈ (inF O a B i k).1, x < 65536) ∧ (inF O a B i k).2 < 65536 := by
  induction k with
  | zero => exact ⟨hO, by show 0 < 65536; omega⟩
  | succ k ih =>
    obtain ⟨h1, h2⟩ := ih
    have h3 := getD_lt h1 (by omega) (i + k)
    have h4 := mul_lt16 ha (getD_lt hB (by omega) k)
    refine ⟨fun x hx => ?_, ?_⟩
    · rcases List.mem_or_eq_of_mem_set hx with hx | rfl
      · exact h1 x hx
      · omega
    · show (_ / 65536 : Nat) < 65536
      omega
theorem outF_lt {A B : List Nat} (hA : ∀ x ∈ A, x < 65536) (hB : ∀ x ∈ B, x < 65536) (i : Nat) : ∀ x ∈ outF A B i, x < 65536 := by
  induction i with
  | zero => intro x hx; have := List.eq_of_mem_replicate hx; omega
  | succ i ih =>
    intro x hx
    have h := inF_lt (i := i) ih (getD_lt hA (by omega) i) hB B.length
    rcases List.mem_or_eq_of_mem_set hx with hx | rfl
    · exact h.1 x hx
    · exact h.2
theorem get_u64 {l : List Nat} {i : Nat} (h : i < l.length) : (u64s l)[i]? = some (.int .u64 ((l.getD i 0 : Nat) : Int)) := by simp [u64s, h]
theorem set_u64 {w : World} {g : Nat} {t : TypeId} {V : List Nat} (h : Blk w g t (u64s V).toArray) (p x : Nat) : Blk (w.setCell ⟨g, p, none⟩ (.int .u64 (x : Int))) g t (u64s (V.set p x)).toArray := by
  refine blk_set _ _ _ _ p _ _ h ?_
  simp [u64s]

set_option maxRecDepth 100000 in
set_option maxHeartbeats 4000000 in
theorem product_any (A B : List Nat) (g1 g2 c1 c2 : Nat) (w : World) (hA : ∀ x ∈ A, x < 65536) (hB : ∀ x ∈ B, x < 65536) (hlA : A.length ≤ 100) (hlB : B.length ≤ 100)
    (hmk : ∀ w : World, (Instr.makeSlice 93 (.int .i64 ((A.length : Int) + (B.length : Int))) (.int .i64 ((A.length : Int) + (B.length : Int)))).run Tryz.prog w = .ok (.slice (some ⟨w.heap.size, 0, none⟩) (A.length + B.length) (A.length + B.length)) (w.alloc (.cells (u64s (List.replicate (A.length + B.length) 0)).toArray 68)))
    (h1 : Blk w g1 68 (u64s A).toArray) (h2 : Blk w g2 68 (u64s B).toArray) :
    Calls Tryz.prog 46 #[.slice (some ⟨g1, 0, none⟩) A.length c1, .slice (some ⟨g2, 0, none⟩) B.length c2] w fun e w' => e = .returned (.slice (some ⟨w.heap.size, 0, none⟩) (A.length + B.length) (A.length + B.length)) ∧ Blk w' w.heap.size 68 (u64s (prodF A B)).toArray ∧ Below w.heap.size w w' := by
  have HA := Sl.mk hA
  have HB := Sl.mk hB
  obtain ⟨nA, hnA⟩ : ∃ n, A.length = n := ⟨_, rfl⟩
  obtain ⟨nB, hnB⟩ : ∃ n, B.length = n := ⟨_, rfl⟩
  have HNA := Sl.mk hnA
  have HNB := Sl.mk hnB
  rw [hnA, hnB] at hmk ⊢
  rw [hnA] at hlA
  rw [hnB] at hlB
  have l1 := h1.lt
  have l2 := h2.lt
  clear hA hB hnA hnB
  go_enter Tryz.func46, Tryz.ntmps46
  go_wp2_with fail
  go_loopw [6] (fun v6 wr => ∃ i : Nat, i ≤ nA ∧ v6 = .int .i64 i ∧ Blk wr w.heap.size 68 (u64s (outF A B i)).toArray ∧ Below w.heap.size w wr) (fun v6 _ => nA - (intOf v6).toNat)
  case atStart => exact ⟨0, by omega, rfl, by rw [show outF A B 0 = List.replicate (nA + nB) 0 by rw [← HNA.out, ← HNB.out]; rfl]; exact Blk.new _ _ _, below_al (Below.refl _ _) _⟩
  case round =>
    obtain ⟨i, hi, rfl, hO, hBl⟩ := hrel
    clear hmk
    by_cases hlt : i < nA
    · obtain ⟨a, ha⟩ : ∃ a, A.getD i 0 = a := ⟨_, rfl⟩
      obtain ⟨O, hOO⟩ : ∃ O, outF A B i = O := ⟨_, rfl⟩
      have hOl : O.length = nA + nB := by rw [← hOO, outF_len, HNA.out, HNB.out]
      have hO16 : ∀ x ∈ O, x < 65536 := by rw [← hOO]; exact outF_lt HA.out HB.out i
      have ha16 : a < 65536 := by rw [← ha]; exact getD_lt HA.out (by omega) i
      have hnext : outF A B (i + 1) = (inF O a B i nB).1.set (i + nB) (inF O a B i nB).2 := by rw [← HNB.out, ← ha, ← hOO]; rfl
      have hca : w.cell? ⟨g1, i, none⟩ = some (.int .u64 (a : Int)) := blk_at h1 (by rw [get_u64 (by rw [HNA.out]; exact hlt), ha])
      rw [hOO] at hO
      have HOL := Sl.mk hOl
      have HO16 := Sl.mk hO16
      have HN := Sl.mk hnext
      clear hOl hO16 hnext ha hOO
      go_wp2_with fail
      obtain ⟨wo, hwo⟩ : ∃ wo, wo = wr := ⟨_, rfl⟩
      subst hwo
      go_loopw [7, 8] (fun v7 v8 wr => ∃ k : Nat, k ≤ nB ∧ v8 = .int .i64 k ∧ v7 = .int .u64 ((inF O a B i k).2 : Nat) ∧ Blk wr w.heap.size 68 (u64s (inF O a B i k).1).toArray ∧ Below w.heap.size w wr) (fun _ v8 _ => nB - (intOf v8).toNat)
      case atStart => exact ⟨0, by omega, rfl, rfl, hO, hBl⟩
      case round =>
        obtain ⟨k, hk, rfl, rfl, hO, hBl⟩ := hrel
        by_cases hlk : k < nB
        · obtain ⟨b, hb⟩ : ∃ b, B.getD k 0 = b := ⟨_, rfl⟩
          have hb16 : b < 65536 := by rw [← hb]; exact getD_lt HB.out (by omega) k
          obtain ⟨r1, r2⟩ := inF_lt (i := i) HO16.out ha16 HB.out k
          have hrl := inF_len O a B i k
          rw [HOL.out] at hrl
          have hs : inF O a B i (k + 1) = ((inF O a B i k).1.set (i + k) (((inF O a B i k).1.getD (i + k) 0 + a * b + (inF O a B i k).2) % 65536), ((inF O a B i k).1.getD (i + k) 0 + a * b + (inF O a B i k).2) / 65536) := by rw [← hb]; rfl
          obtain ⟨R, hR⟩ : ∃ R, inF O a B i k = R := ⟨_, rfl⟩
          rw [hR] at r1 r2 hrl hs hO ⊢
          obtain ⟨V, c⟩ := R
          dsimp only at r1 r2 hrl hs hO ⊢
          obtain ⟨o, ho⟩ : ∃ o, V.getD (i + k) 0 = o := ⟨_, rfl⟩
          have ho16 : o < 65536 := by rw [← ho]; exact getD_lt r1 (by omega) _
          rw [ho] at hs
          have hco := blk_at hO (i := i + k) (v := .int .u64 (o : Int)) (by rw [get_u64 (by omega), ho])
          have hfo := hO.frozen (i + k)
          have hcb := (hBl.cell (p := ⟨g2, k, none⟩) l2).trans (blk_at h2 (i := k) (v := .int .u64 (b : Int)) (by rw [get_u64 (by rw [HNB.out]; exact hlk), hb]))
          have hca2 := (hBl.cell (p := ⟨g1, i, none⟩) l1).trans hca
          have hm := mul_lt16 ha16 hb16
          have HS := Sl.mk hs
          have HR1 := Sl.mk r1
          clear hb hs hR ho r1
          go_wp2_with fail
          go_quiet (fail)
          go_wp2_with fail
          go_roundw
          case rel =>
            refine ⟨k + 1, by omega, by go_num, ?_, ?_, (below_drN hBl _).setCell (by simp) _⟩
            · rw [HS.out]; go_num
            · rw [HS.out]; exact set_u64 (hO.drewN _) _ _
          case measure => simp [intOf]; omega
        · obtain rfl : k = nB := by omega
          have hf := hO.frozen (i + k)
          have hrl := inF_len O a B i k
          rw [HOL.out] at hrl
          have hc := blk_at hO (i := i + k) (get_u64 (by omega))
          clear hrl
          go_wp2_with fail
          go_roundw
          case rel => exact ⟨i + 1, by omega, by go_num, by rw [HN.out]; exact set_u64 hO _ _, hBl.setCell (by simp) _⟩
          case measure => simp [intOf]; omega
    · obtain rfl : i = nA := by omega
      have e : outF A B i = prodF A B := by unfold prodF; rw [HNA.out]
      rw [e] at hO
      go_wp2_with fail
      go_ret
      exact ⟨rfl, hO, hBl⟩

end Go.Proofs.YticcphppnmoogaaGreatDoor

namespace Go.Proofs.YticcphppnmoogaaGreatDoor
open Go.RowKit
attribute [local go_sem ↓] Go.wp_at_zero Go.wp_at_succ

theorem prodF_len (A B : List Nat) : (prodF A B).length = A.length + B.length := outF_len _ _ _
theorem prodF_lt {A B : List Nat} (hA : ∀ x ∈ A, x < 65536) (hB : ∀ x ∈ B, x < 65536) : ∀ x ∈ prodF A B, x < 65536 := outF_lt hA hB _
theorem digF_lt (n : Nat) : ∀ x ∈ digF n, x < 65536 := by
  intro x hx
  simp only [digF, List.mem_cons, List.not_mem_nil, or_false] at hx
  rcases hx with rfl | rfl | rfl <;> omega
/-- y to the power k + 1, in digits. -/
def powF (y : Nat) : Nat → List Nat
  | 0 => digF y
  | k + 1 => prodF (powF y k) (digF y)
theorem powF_len (y k : Nat) : (powF y k).length = 3 * k + 3 := by
  induction k with
  | zero => rfl
  | succ k ih => simp [powF, prodF_len, ih, digF]; omega
theorem powF_lt (y k : Nat) : ∀ x ∈ powF y k, x < 65536 := by
  induction k with
  | zero => exact digF_lt y
  | succ k ih => exact prodF_lt ih (digF_lt y)
/-- The whole part and the rest, behind j digits from the highest down. -/
def cutD (z : List Nat) (p : Nat) : Nat → Nat × Nat
  | 0 => (0, 0)
  | j + 1 => let r := cutD z p j; let d := z.getD (z.length - 1 - j) 0; if 2 * p ≤ z.length - 1 - j then ((65536 * r.1 + d) % 18446744073709551616, r.2) else (r.1, (r.2 + d) % 18446744073709551616)
theorem cutD_lt (z : List Nat) (p j : Nat) : (cutD z p j).1 < 18446744073709551616 ∧ (cutD z p j).2 < 18446744073709551616 := by
  induction j with
  | zero => exact ⟨by show 0 < _; omega, by show 0 < _; omega⟩
  | succ j ih =>
    unfold cutD
    dsimp only
    split
    · exact ⟨Nat.mod_lt _ (by omega), ih.2⟩
    · exact ⟨ih.1, Nat.mod_lt _ (by omega)⟩
def fitsF (prime p y : Nat) : Bool := let z := powF y (p - 1); let r := cutD z p z.length; decide (r.1 < prime) || (decide (r.1 = prime) && decide (r.2 = 0))
/-- x behind j rounds. -/
def rootX (prime p : Nat) : Nat → Nat
  | 0 => 0
  | j + 1 => let x := rootX prime p j; let y := (x + 2 ^ (36 - j)) % 18446744073709551616; if fitsF prime p y = true then y else x
def rootF (prime p : Nat) : Nat := rootX prime p 37 % 4294967296
theorem rootX_lt (prime p j : Nat) : rootX prime p j < 18446744073709551616 := by
  induction j with
  | zero => show 0 < _; omega
  | succ j ih =>
    unfold rootX
    dsimp only
    split
    · exact Nat.mod_lt _ (by omega)
    · exact ih
theorem mk6 (w : World) : (Instr.makeSlice 93 (.int .i64 6) (.int .i64 6)).run Tryz.prog w = .ok (.slice (some ⟨w.heap.size, 0, none⟩) 6 6) (w.alloc (.cells (u64s (List.replicate 6 0)).toArray 68)) := by kernel_rfl
theorem mk9 (w : World) : (Instr.makeSlice 93 (.int .i64 9) (.int .i64 9)).run Tryz.prog w = .ok (.slice (some ⟨w.heap.size, 0, none⟩) 9 9) (w.alloc (.cells (u64s (List.replicate 9 0)).toArray 68)) := by kernel_rfl
theorem two_pow : ∀ i : Fin 37, (2 : Nat) ^ i.val < 18446744073709551616 := by decide +kernel

/-- One round more of a power. -/
theorem pow_step (y k p g c : Nat) (w : World) (hk : k + 1 < p) (hp : p = 2 ∨ p = 3) (h : Blk w g 68 (u64s (powF y k)).toArray) {g2 : Nat} (h2 : Blk w g2 68 (u64s (digF y)).toArray) :
    Calls Tryz.prog 46 #[.slice (some ⟨g, 0, none⟩) (3 * k + 3) c, .slice (some ⟨g2, 0, none⟩) 3 3] w fun e w' => e = .returned (.slice (some ⟨w.heap.size, 0, none⟩) (3 * (k + 1) + 3) (3 * (k + 1) + 3)) ∧ Blk w' w.heap.size 68 (u64s (powF y (k + 1))).toArray ∧ Below w.heap.size w w' := by
  have hl := powF_len y k
  have hk2 : k = 0 ∨ k = 1 := by omega
  have := product_any (powF y k) (digF y) g g2 c 3 w (powF_lt y k) (digF_lt y) (by omega) (by simp [digF]) (by
    rcases hk2 with rfl | rfl
    · exact mk6
    · intro w'
      rw [hl]
      exact mk9 w') h h2
  rw [hl] at this
  exact this

set_option maxRecDepth 100000 in
set_option maxHeartbeats 4000000 in
theorem root_any (prime p : Nat) (w : World) (hp : p = 2 ∨ p = 3) (hpr : prime < 18446744073709551616) :
    Calls Tryz.prog 26 #[.int .u64 (prime : Int), .int .i64 (p : Int)] w fun e w' => e = .returned (.int .i64 (rootF prime p : Nat)) ∧ Below w.heap.size w w' := by
  have hp2 : 2 ≤ p ∧ p ≤ 3 := by omega
  go_enter Tryz.func26, Tryz.ntmps26
  go_wp2_with fail
  go_loopw [5, 6] (fun v5 v6 wr => ∃ j : Nat, j ≤ 37 ∧ v6 = .int .i64 (36 - (j : Int)) ∧ v5 = .int .u64 (rootX prime p j : Nat) ∧ Below w.heap.size w wr) (fun _ v6 _ => (intOf v6 + 1).toNat)
  case atStart => exact ⟨0, by omega, rfl, rfl, Below.refl _ _⟩
  case round =>
    obtain ⟨j, hj, rfl, rfl, hB⟩ := hrel
    by_cases hlt : j < 37
    · have hx := rootX_lt prime p j
      have hpw := two_pow ⟨36 - j, by omega⟩
      have hnx : rootX prime p (j + 1) = if fitsF prime p ((rootX prime p j + 2 ^ (36 - j)) % 18446744073709551616) = true then (rootX prime p j + 2 ^ (36 - j)) % 18446744073709551616 else rootX prime p j := rfl
      obtain ⟨x, hxx⟩ : ∃ x, rootX prime p j = x := ⟨_, rfl⟩
      rw [hxx] at hx hnx ⊢
      have HNX := Sl.mk hnx
      clear hnx hxx
      obtain ⟨y, hy⟩ : ∃ y, (x + 2 ^ (36 - j)) % 18446744073709551616 = y := ⟨_, rfl⟩
      have hyl : y < 18446744073709551616 := by rw [← hy]; exact Nat.mod_lt _ (by omega)
      have hyw : IntKind.u64.wrap ((x : Int) + IntKind.u64.wrap ((2 : Int) ^ (36 - j))) = (y : Int) := by
        rw [← hy, show ((2 : Int) ^ (36 - j)) = ((2 ^ (36 - j) : Nat) : Int) from (Int.natCast_pow 2 (36 - j)).symm]
        generalize 2 ^ (36 - j) = t
        rw [IntKind.wrap_u64, IntKind.wrap_u64]
        omega
      rw [hy] at HNX
      have h0 : (j : Int) ≤ 36 := by omega
      clear hpw
      go_wp2_with fail
      clear hyw hy
      refine (digits_any y _ hyl).mono ?_
      rintro e w1 ⟨rfl, hZ1, hB1⟩
      have hE1 := below_tr hB hB1
      have hg1 := hZ1.lt
      go_wp2_with fail
      obtain ⟨wo, hwo⟩ : ∃ wo, wo = wr := ⟨_, rfl⟩
      subst hwo
      go_loopw [8, 9] (fun v8 v9 wr => ∃ k g : Nat, k + 1 ≤ p ∧ v9 = .int .i64 ((k : Int) + 1) ∧ v8 = .slice (some ⟨g, 0, none⟩) (3 * k + 3) (3 * k + 3) ∧ Blk wr g 68 (u64s (powF y k)).toArray ∧ Below w.heap.size w wr) (fun _ v9 _ => p - (intOf v9).toNat)
      case atStart => exact ⟨0, wo.heap.size, by omega, rfl, rfl, hZ1, hE1⟩
      case round =>
        obtain ⟨k, g, hk, rfl, rfl, hZ, hB⟩ := hrel
        by_cases hlk : k + 1 < p
        · go_wp2_with fail
          refine (digits_any y _ hyl).mono ?_
          rintro e w2 ⟨rfl, hY2, hB2⟩
          have hZ2 := hZ.be hB2
          go_wp2_with fail
          refine (pow_step y k p g _ w2 hlk hp hZ2 hY2).mono ?_
          rintro e w3 ⟨rfl, hZ3, hB3⟩
          have hE3 := below_tr (below_tr hB hB2) hB3
          go_wp2_with fail
          go_roundw
          case rel => exact ⟨k + 1, _, by omega, by go_num, rfl, hZ3, hE3⟩
          case measure => simp [intOf]; omega
        · obtain rfl : p = k + 1 := by omega
          obtain ⟨z, hz⟩ : ∃ z, powF y k = z := ⟨_, rfl⟩
          obtain ⟨n, hn⟩ : ∃ n, 3 * k + 3 = n := ⟨_, rfl⟩
          have hzl : z.length = n := by rw [← hz, powF_len, hn]
          have hzb : ∀ x ∈ z, x < 65536 := by rw [← hz]; exact powF_lt y k
          have hfit : fitsF prime (k + 1) y = (decide ((cutD z (k + 1) n).1 < prime) || (decide ((cutD z (k + 1) n).1 = prime) && decide ((cutD z (k + 1) n).2 = 0))) := by
            unfold fitsF
            rw [show k + 1 - 1 = k by omega]
            simp only [hz, hzl]
          rw [hz] at hZ
          rw [hn]
          have HF := Sl.mk hfit
          have HZL := Sl.mk hzl
          have HZB := Sl.mk hzb
          have hn9 : n = 6 ∨ n = 9 := by omega
          clear hfit hzl hzb hz hZ1 hE1
          go_wp2_with fail
          go_loop [10, 11, 12] (fun v10 v11 v12 => ∃ i : Nat, i ≤ n ∧ v12 = .int .i64 ((n : Int) - 1 - (i : Int)) ∧ v10 = .int .u64 ((cutD z (k + 1) i).1 : Nat) ∧ v11 = .int .u64 ((cutD z (k + 1) i).2 : Nat)) (fun _ _ v12 => (intOf v12 + 1).toNat)
          case atStart => exact ⟨0, by omega, by go_num, rfl, rfl⟩
          case round =>
            obtain ⟨i, hi, rfl, rfl, rfl⟩ := hrel
            by_cases hli : i < n
            · obtain ⟨m, hm⟩ : ∃ m : Nat, n - 1 - i = m := ⟨_, rfl⟩
              have hmi : (n : Int) - 1 - (i : Int) = (m : Int) := by omega
              obtain ⟨d, hd⟩ : ∃ d, z.getD m 0 = d := ⟨_, rfl⟩
              have hst : cutD z (k + 1) (i + 1) = if 2 * (k + 1) ≤ m then ((65536 * (cutD z (k + 1) i).1 + d) % 18446744073709551616, (cutD z (k + 1) i).2) else ((cutD z (k + 1) i).1, ((cutD z (k + 1) i).2 + d) % 18446744073709551616) := by
                rw [← hd, ← hm, ← HZL.out]; rfl
              obtain ⟨q1, q2⟩ := cutD_lt z (k + 1) i
              have hdb : d < 65536 := by rw [← hd]; exact getD_lt HZB.out (by omega) _
              have hc := blk_at hZ (i := m) (v := .int .u64 (d : Int)) (by rw [get_u64 (by rw [HZL.out]; omega), hd])
              obtain ⟨⟨wh, re⟩, hR⟩ : ∃ R, cutD z (k + 1) i = R := ⟨_, rfl⟩
              rw [hR] at hst q1 q2 ⊢
              rw [hmi]
              dsimp only at hst q1 q2 ⊢
              have hmn : m < n := by omega
              have HST := Sl.mk hst
              have HM := Sl.mk hm
              clear hst hR hd hm hmi
              by_cases hcase : 2 * (k + 1) ≤ m
              · go_wp2_with fail
                go_round
                case rel =>
                  refine ⟨i + 1, by omega, ?_, ?_, ?_⟩
                  · have := HM.out; go_num
                  · rw [HST.out, if_pos hcase]; congr 1; rw [IntKind.wrap_u64, IntKind.wrap_u64]; omega
                  · rw [HST.out, if_pos hcase]
                case measure => have := HM.out; simp [intOf] <;> omega
              · go_wp2_with fail
                go_round
                case rel =>
                  refine ⟨i + 1, by omega, ?_, ?_, ?_⟩
                  · have := HM.out; go_num
                  · rw [HST.out, if_neg hcase]
                  · rw [HST.out, if_neg hcase] <;> first | rfl | (congr 1; rw [IntKind.wrap_u64]; omega)
                case measure => have := HM.out; simp [intOf] <;> omega
            · obtain rfl : i = n := by omega
              obtain ⟨⟨wh, re⟩, hR⟩ : ∃ R, cutD z (k + 1) i = R := ⟨_, rfl⟩
              rw [hR] at HF ⊢
              dsimp only at HF ⊢
              clear hR
              have fin : ∀ b : Bool, fitsF prime (k + 1) y = b → rootX prime (k + 1) (j + 1) = if b = true then y else x := fun b hb => by rw [HNX.out, hb]
              have FIN := Sl.mk fin
              clear fin
              by_cases c1 : wh < prime
              · have hf := FIN.out true (by rw [HF.out]; simp [c1])
                go_wp2_with fail
                go_roundw
                case rel => exact ⟨j + 1, by omega, by go_num, by rw [hf]; rfl, hB⟩
                case measure => simp [intOf]; omega
              · by_cases c2 : wh = prime
                · by_cases c3 : re = 0
                  · have hf := FIN.out true (by rw [HF.out]; simp [c2, c3])
                    subst c2 c3
                    go_wp2_with fail
                    go_roundw
                    case rel => exact ⟨j + 1, by omega, by go_num, by rw [hf]; rfl, hB⟩
                    case measure => simp [intOf]; omega
                  · have hf := FIN.out false (by rw [HF.out]; simp [c1, c3])
                    subst c2
                    go_wp2_with fail
                    go_roundw
                    case rel => exact ⟨j + 1, by omega, by go_num, by rw [hf]; rfl, hB⟩
                    case measure => simp [intOf]; omega
                · have hf := FIN.out false (by rw [HF.out]; simp [c1, c2])
                  have c2' : ((wh : Int) == (prime : Int)) = false := by simp; omega
                  go_wp2_with fail
                  go_roundw
                  case rel => exact ⟨j + 1, by omega, by go_num, by rw [hf]; rfl, hB⟩
                  case measure => simp [intOf]; omega
    · obtain rfl : j = 37 := by omega
      have hx := rootX_lt prime p 37
      have hr : rootF prime p = rootX prime p 37 % 4294967296 := rfl
      obtain ⟨x, hxx⟩ : ∃ x, rootX prime p 37 = x := ⟨_, rfl⟩
      rw [hxx] at hx hr ⊢
      have hw64 : IntKind.i64.wrap ((x : Int) % 4294967296) = (x : Int) % 4294967296 := by rw [IntKind.wrap_i64]; omega
      go_wp2_with fail
      go_ret
      exact ⟨by rw [hr]; congr 1, hB⟩

end Go.Proofs.YticcphppnmoogaaGreatDoor

namespace Go.Proofs.YticcphppnmoogaaGreatDoor
open Go.RowKit

/-- How many of 1 .. q divide p. -/
def cntF (p : Nat) : Nat → Nat
  | 0 => 0
  | q + 1 => if p % (q + 1) = 0 then cntF p q + 1 else cntF p q
theorem cntF_le (p q : Nat) : cntF p q ≤ q := by
  induction q with
  | zero => exact Nat.le_refl _
  | succ q ih => unfold cntF; split <;> omega
/-- Behind j numbers, from 2 on. -/
def makeS : Nat → Nat × List Nat × List Nat
  | 0 => (0, List.replicate 8 0, List.replicate 64 0)
  | j + 1 => let s := makeS j; if s.1 < 64 ∧ cntF (j + 2) (j + 2) = 2 then (s.1 + 1, (if s.1 < 8 then s.2.1.set s.1 (rootF (j + 2) 2) else s.2.1), s.2.2.set s.1 (rootF (j + 2) 3)) else s
def PT : List Nat := [2, 3, 5, 7, 11, 13, 17, 19, 23, 29, 31, 37, 41, 43, 47, 53, 59, 61, 67, 71, 73, 79, 83, 89, 97, 101, 103, 107, 109, 113, 127, 131, 137, 139, 149, 151, 157, 163, 167, 173, 179, 181, 191, 193, 197, 199, 211, 223, 227, 229, 233, 239, 241, 251, 257, 263, 269, 271, 277, 281, 283, 293, 307, 311]
/-- The primes found among 2 .. j + 1, at most 64. -/
def primS : Nat → List Nat
  | 0 => []
  | j + 1 => if (primS j).length < 64 ∧ cntF (j + 2) (j + 2) = 2 then primS j ++ [j + 2] else primS j
set_option maxRecDepth 1000000 in
theorem prim_end : primS 310 = PT := by decide +kernel
theorem roots_2 : [2, 3, 5, 7, 11, 13, 17, 19].map (fun p => rootF p 2) = FT := by decide +kernel
theorem roots_3_0 : [2, 3, 5, 7].map (fun p => rootF p 3) = [1116352408, 1899447441, 3049323471, 3921009573] := by decide +kernel
theorem roots_3_1 : [11, 13, 17, 19].map (fun p => rootF p 3) = [961987163, 1508970993, 2453635748, 2870763221] := by decide +kernel
theorem roots_3_2 : [23, 29, 31, 37].map (fun p => rootF p 3) = [3624381080, 310598401, 607225278, 1426881987] := by decide +kernel
theorem roots_3_3 : [41, 43, 47, 53].map (fun p => rootF p 3) = [1925078388, 2162078206, 2614888103, 3248222580] := by decide +kernel
theorem roots_3_4 : [59, 61, 67, 71].map (fun p => rootF p 3) = [3835390401, 4022224774, 264347078, 604807628] := by decide +kernel
theorem roots_3_5 : [73, 79, 83, 89].map (fun p => rootF p 3) = [770255983, 1249150122, 1555081692, 1996064986] := by decide +kernel
theorem roots_3_6 : [97, 101, 103, 107].map (fun p => rootF p 3) = [2554220882, 2821834349, 2952996808, 3210313671] := by decide +kernel
theorem roots_3_7 : [109, 113, 127, 131].map (fun p => rootF p 3) = [3336571891, 3584528711, 113926993, 338241895] := by decide +kernel
theorem roots_3_8 : [137, 139, 149, 151].map (fun p => rootF p 3) = [666307205, 773529912, 1294757372, 1396182291] := by decide +kernel
theorem roots_3_9 : [157, 163, 167, 173].map (fun p => rootF p 3) = [1695183700, 1986661051, 2177026350, 2456956037] := by decide +kernel
theorem roots_3_10 : [179, 181, 191, 193].map (fun p => rootF p 3) = [2730485921, 2820302411, 3259730800, 3345764771] := by decide +kernel
theorem roots_3_11 : [197, 199, 211, 223].map (fun p => rootF p 3) = [3516065817, 3600352804, 4094571909, 275423344] := by decide +kernel
theorem roots_3_12 : [227, 229, 233, 239].map (fun p => rootF p 3) = [430227734, 506948616, 659060556, 883997877] := by decide +kernel
theorem roots_3_13 : [241, 251, 257, 263].map (fun p => rootF p 3) = [958139571, 1322822218, 1537002063, 1747873779] := by decide +kernel
theorem roots_3_14 : [269, 271, 277, 281].map (fun p => rootF p 3) = [1955562222, 2024104815, 2227730452, 2361852424] := by decide +kernel
theorem roots_3_15 : [283, 293, 307, 311].map (fun p => rootF p 3) = [2428436474, 2756734187, 3204031479, 3329325298] := by decide +kernel
theorem pt_parts : PT = [2, 3, 5, 7] ++ ([11, 13, 17, 19] ++ ([23, 29, 31, 37] ++ ([41, 43, 47, 53] ++ ([59, 61, 67, 71] ++ ([73, 79, 83, 89] ++ ([97, 101, 103, 107] ++ ([109, 113, 127, 131] ++ ([137, 139, 149, 151] ++ ([157, 163, 167, 173] ++ ([179, 181, 191, 193] ++ ([197, 199, 211, 223] ++ ([227, 229, 233, 239] ++ ([241, 251, 257, 263] ++ ([269, 271, 277, 281] ++ ([283, 293, 307, 311]))))))))))))))) := rfl
theorem kt_parts : KT = [1116352408, 1899447441, 3049323471, 3921009573] ++ ([961987163, 1508970993, 2453635748, 2870763221] ++ ([3624381080, 310598401, 607225278, 1426881987] ++ ([1925078388, 2162078206, 2614888103, 3248222580] ++ ([3835390401, 4022224774, 264347078, 604807628] ++ ([770255983, 1249150122, 1555081692, 1996064986] ++ ([2554220882, 2821834349, 2952996808, 3210313671] ++ ([3336571891, 3584528711, 113926993, 338241895] ++ ([666307205, 773529912, 1294757372, 1396182291] ++ ([1695183700, 1986661051, 2177026350, 2456956037] ++ ([2730485921, 2820302411, 3259730800, 3345764771] ++ ([3516065817, 3600352804, 4094571909, 275423344] ++ ([430227734, 506948616, 659060556, 883997877] ++ ([958139571, 1322822218, 1537002063, 1747873779] ++ ([1955562222, 2024104815, 2227730452, 2361852424] ++ ([2428436474, 2756734187, 3204031479, 3329325298]))))))))))))))) := rfl
theorem roots_3 : PT.map (fun p => rootF p 3) = KT := by
  rw [pt_parts, kt_parts]
  simp only [List.map_append, roots_3_0, roots_3_1, roots_3_2, roots_3_3, roots_3_4, roots_3_5, roots_3_6, roots_3_7, roots_3_8, roots_3_9, roots_3_10, roots_3_11, roots_3_12, roots_3_13, roots_3_14, roots_3_15]
theorem prim_len (j : Nat) : (primS j).length ≤ 64 := by
  induction j with
  | zero => show 0 ≤ 64; omega
  | succ j ih =>
    unfold primS
    split
    · simp; omega
    · exact ih
theorem pad_set (l : List Nat) (n x : Nat) (h : l.length < n) : (l ++ List.replicate (n - l.length) 0).set l.length x = (l ++ [x]) ++ List.replicate (n - (l.length + 1)) 0 := by
  obtain ⟨m, hm⟩ : ∃ m, n - l.length = m + 1 := ⟨n - l.length - 1, by omega⟩
  rw [hm, show n - (l.length + 1) = m from by omega, List.set_append, if_neg (by omega), Nat.sub_self]
  simp [List.replicate_succ]
theorem make_prim (j : Nat) : makeS j = ((primS j).length, ((primS j).take 8).map (fun p => rootF p 2) ++ List.replicate (8 - ((primS j).take 8).length) 0, (primS j).map (fun p => rootF p 3) ++ List.replicate (64 - (primS j).length) 0) := by
  induction j with
  | zero => rfl
  | succ j ih =>
    unfold makeS primS
    dsimp only
    rw [ih]
    generalize primS j = P
    dsimp only
    split
    · rename_i h
      obtain ⟨h1, -⟩ := h
      refine Prod.ext (by simp) (Prod.ext ?_ ?_)
      · dsimp only
        by_cases h8 : P.length < 8
        · rw [if_pos h8]
          have e1 : P.take 8 = P := List.take_of_length_le (by omega)
          have e2 : (P ++ [j + 2]).take 8 = P ++ [j + 2] := List.take_of_length_le (by simp; omega)
          rw [e1, e2]
          have := pad_set (P.map (fun p => rootF p 2)) 8 (rootF (j + 2) 2) (by simpa using h8)
          simp only [List.length_map] at this
          rw [this]
          simp
        · rw [if_neg h8]
          have e1 : (P ++ [j + 2]).take 8 = P.take 8 := by rw [List.take_append_of_le_length (by omega)]
          rw [e1]
      · dsimp only
        have := pad_set (P.map (fun p => rootF p 3)) 64 (rootF (j + 2) 3) (by simpa using h1)
        simp only [List.length_map] at this
        rw [this]
        simp
    · rfl
theorem make_end : makeS 310 = (64, FT, KT) := by
  rw [make_prim, prim_end, roots_3]
  have e : (PT.take 8) = [2, 3, 5, 7, 11, 13, 17, 19] := rfl
  rw [e, roots_2]
  rfl
theorem make_len (j : Nat) : (makeS j).1 ≤ 64 ∧ (makeS j).2.1.length = 8 ∧ (makeS j).2.2.length = 64 := by
  induction j with
  | zero => exact ⟨by show 0 ≤ 64; omega, rfl, rfl⟩
  | succ j ih =>
    unfold makeS
    dsimp only
    split
    · refine ⟨by show _ + 1 ≤ 64; omega, ?_, by simp [ih.2.2]⟩
      show (if _ then _ else _ : List Nat).length = 8
      split <;> simp [ih.2.1]
    · exact ih
theorem make_stay {j : Nat} (h : (makeS j).1 = 64) (k : Nat) : makeS (j + k) = makeS j := by
  induction k with
  | zero => rfl
  | succ k ih =>
    show makeS ((j + k) + 1) = _
    have hn : ¬ ((makeS (j + k)).1 < 64 ∧ cntF (j + k + 2) (j + k + 2) = 2) := by rw [ih]; omega
    have e : makeS ((j + k) + 1) = makeS (j + k) := if_neg hn
    rw [e, ih]
/-- A table that is not full comes before the end; one that is full is the end's. -/
theorem make_lt {j : Nat} (h : (makeS j).1 < 64) : j < 310 := by
  apply Nat.lt_of_not_le
  intro hj
  have e := make_stay (j := 310) (by rw [make_end]) (j - 310)
  rw [show 310 + (j - 310) = j by omega, make_end] at e
  rw [e] at h
  exact absurd h (by decide)
theorem make_full {j : Nat} (h : ¬ (makeS j).1 < 64) : makeS j = (64, FT, KT) := by
  have h64 : (makeS j).1 = 64 := by have := (make_len j).1; omega
  by_cases hj : j ≤ 310
  · have e := make_stay h64 (310 - j)
    rw [show j + (310 - j) = 310 by omega, make_end] at e
    exact e.symm
  · have e := make_stay (j := 310) (by rw [make_end]) (j - 310)
    rw [show 310 + (j - 310) = j by omega, make_end] at e
    exact e

end Go.Proofs.YticcphppnmoogaaGreatDoor
