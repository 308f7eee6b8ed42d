/-
  The reference's words as the program's: bits.
-/
import Derived.Test.YtaffjcenojikjaaDoorDigRMake
namespace Go.Proofs.YtaffjcenojikjaaDoor
open Go.RowKit

abbrev M32 : Nat := 4294967296
theorem xw_lt (a b : Nat) : xw a b < 4294967296 := Nat.xor_lt_two_pow (n := 32) (Nat.mod_lt _ (by decide)) (Nat.mod_lt _ (by decide))
theorem ow_lt (a b : Nat) : ow a b < 4294967296 := Nat.or_lt_two_pow (n := 32) (Nat.mod_lt _ (by decide)) (Nat.mod_lt _ (by decide))
theorem nw_lt (a b : Nat) : nw a b < 4294967296 := Nat.and_lt_two_pow (n := 32) _ (Nat.mod_lt _ (by decide))
theorem aw_lt (a b : Nat) : aw a b < 4294967296 := Nat.mod_lt _ (by decide)
theorem rotw_lt (x n : Nat) : rotw x n < 4294967296 := ow_lt _ _
theorem dw_lt {x : Nat} (h : x < 4294967296) (k : Nat) : dw x k < 4294967296 := Nat.lt_of_le_of_lt (Nat.div_le_self _ _) h

theorem rotw_eq {x n : Nat} (hx : x < 4294967296) (h0 : 1 ≤ n) (h1 : n ≤ 31) : rotw x n = x / 2 ^ n + x % 2 ^ n * 2 ^ (32 - n) := by
  have hp : (2 : Nat) ^ n * 2 ^ (32 - n) = 4294967296 := by
    rw [← Nat.pow_add, show n + (32 - n) = 32 by omega]
  have hlo : x / 2 ^ n < 2 ^ (32 - n) := by
    apply Nat.div_lt_of_lt_mul
    rw [hp]; exact hx
  have hhi : lw x (32 - n) = x % 2 ^ n * 2 ^ (32 - n) := by
    unfold lw
    rw [← hp, Nat.mul_mod_mul_right]
  unfold rotw ow dw
  rw [hhi, Nat.mod_eq_of_lt (Nat.lt_of_le_of_lt (Nat.div_le_self _ _) hx)]
  have hlt : x % 2 ^ n * 2 ^ (32 - n) < 4294967296 := by
    rw [← hhi]; exact Nat.mod_lt _ (by decide)
  rw [Nat.mod_eq_of_lt hlt, Nat.or_comm, Nat.mul_comm (x % 2 ^ n), ← Nat.two_pow_add_eq_or_of_lt hlo, Nat.add_comm]

theorem ofInt64 (a : Nat) (h : a < 4294967296) : (BitVec.ofInt 64 (a : Int)).toNat = a := by
  rw [BitVec.ofInt_natCast, BitVec.toNat_ofNat, Nat.mod_eq_of_lt (by omega)]
theorem wrap_i64s (a : Nat) (h : a < 4294967296) : IntKind.i64.wrap (a : Int) = a := by
  rw [IntKind.wrap_i64]; omega
theorem bits64_xor {a b : Nat} (ha : a < 4294967296) (hb : b < 4294967296) : bits .xor .i64 (a : Int) (b : Int) = ((xw a b : Nat) : Int) := by
  show IntKind.i64.wrap ((BitVec.ofInt 64 (a : Int) ^^^ BitVec.ofInt 64 (b : Int)).toNat : Int) = _
  rw [BitVec.toNat_xor, ofInt64 a ha, ofInt64 b hb]
  have e : xw a b = a ^^^ b := by unfold xw; rw [Nat.mod_eq_of_lt ha, Nat.mod_eq_of_lt hb]
  rw [← e]
  exact wrap_i64s _ (xw_lt a b)
theorem bits64_or {a b : Nat} (ha : a < 4294967296) (hb : b < 4294967296) : bits .or .i64 (a : Int) (b : Int) = ((ow a b : Nat) : Int) := by
  show IntKind.i64.wrap ((BitVec.ofInt 64 (a : Int) ||| BitVec.ofInt 64 (b : Int)).toNat : Int) = _
  rw [BitVec.toNat_or, ofInt64 a ha, ofInt64 b hb]
  have e : ow a b = a ||| b := by unfold ow; rw [Nat.mod_eq_of_lt ha, Nat.mod_eq_of_lt hb]
  rw [← e]
  exact wrap_i64s _ (ow_lt a b)
theorem bits64_and {a b : Nat} (ha : a < 4294967296) (hb : b < 4294967296) : bits .and .i64 (a : Int) (b : Int) = ((nw a b : Nat) : Int) := by
  show IntKind.i64.wrap ((BitVec.ofInt 64 (a : Int) &&& BitVec.ofInt 64 (b : Int)).toNat : Int) = _
  rw [BitVec.toNat_and, ofInt64 a ha, ofInt64 b hb]
  have e : nw a b = a &&& b := by unfold nw; rw [Nat.mod_eq_of_lt ha, Nat.mod_eq_of_lt hb]
  rw [← e]
  exact wrap_i64s _ (nw_lt a b)

/-- The choice: two parts without a common bit, summed. -/
theorem choice_eq {e f g : Nat} (he : e < 4294967296) (hf : f < 4294967296) (hg : g < 4294967296) : (nw e f + nw (4294967295 - e) g) % 4294967296 = xw g (nw e (xw f g)) := by
  obtain ⟨E, rfl⟩ : ∃ E : BitVec 32, E.toNat = e := ⟨BitVec.ofNat 32 e, by rw [BitVec.toNat_ofNat, Nat.mod_eq_of_lt he]⟩
  obtain ⟨F, rfl⟩ : ∃ F : BitVec 32, F.toNat = f := ⟨BitVec.ofNat 32 f, by rw [BitVec.toNat_ofNat, Nat.mod_eq_of_lt hf]⟩
  obtain ⟨G, rfl⟩ : ∃ G : BitVec 32, G.toNat = g := ⟨BitVec.ofNat 32 g, by rw [BitVec.toNat_ofNat, Nat.mod_eq_of_lt hg]⟩
  have hn : 4294967295 - E.toNat = (~~~E).toNat := by rw [BitVec.toNat_not]
  have q1 : nw E.toNat F.toNat = (E &&& F).toNat := by unfold nw; rw [Nat.mod_eq_of_lt E.isLt, Nat.mod_eq_of_lt F.isLt, BitVec.toNat_and]
  have q2 : nw (~~~E).toNat G.toNat = (~~~E &&& G).toNat := by unfold nw; rw [Nat.mod_eq_of_lt (~~~E).isLt, Nat.mod_eq_of_lt G.isLt, BitVec.toNat_and]
  have q3 : xw F.toNat G.toNat = (F ^^^ G).toNat := by unfold xw; rw [Nat.mod_eq_of_lt F.isLt, Nat.mod_eq_of_lt G.isLt, BitVec.toNat_xor]
  have q4 : nw E.toNat (F ^^^ G).toNat = (E &&& (F ^^^ G)).toNat := by unfold nw; rw [Nat.mod_eq_of_lt E.isLt, Nat.mod_eq_of_lt (F ^^^ G).isLt, BitVec.toNat_and]
  have q5 : xw G.toNat (E &&& (F ^^^ G)).toNat = (G ^^^ (E &&& (F ^^^ G))).toNat := by unfold xw; rw [Nat.mod_eq_of_lt G.isLt, Nat.mod_eq_of_lt (E &&& (F ^^^ G)).isLt, BitVec.toNat_xor]
  rw [hn, q1, q2, q3, q4, q5]
  have hd : (E &&& F) &&& (~~~E &&& G) = 0#32 := by
    apply BitVec.eq_of_getLsbD_eq
    intro i hi
    simp only [BitVec.getLsbD_and, BitVec.getLsbD_not, BitVec.getLsbD_zero]
    cases E.getLsbD i <;> simp
  have hs : (E &&& F) + (~~~E &&& G) = G ^^^ (E &&& (F ^^^ G)) := by
    rw [BitVec.add_eq_or_of_and_eq_zero _ _ hd]
    apply BitVec.eq_of_getLsbD_eq
    intro i hi
    simp only [BitVec.getLsbD_and, BitVec.getLsbD_or, BitVec.getLsbD_xor, BitVec.getLsbD_not, hi, decide_true, Bool.true_and]
    cases E.getLsbD i <;> cases F.getLsbD i <;> cases G.getLsbD i <;> rfl
  rw [← hs, BitVec.toNat_add]
theorem most_eq {a b c : Nat} (ha : a < 4294967296) (hb : b < 4294967296) (hc : c < 4294967296) : ow (ow (nw a b) (nw a c)) (nw b c) = ow (nw a b) (nw c (ow a b)) := by
  have e1 : ∀ {x y : Nat}, x < 4294967296 → y < 4294967296 → ow x y = x ||| y := fun h1 h2 => by unfold ow; rw [Nat.mod_eq_of_lt h1, Nat.mod_eq_of_lt h2]
  have e2 : ∀ {x y : Nat}, x < 4294967296 → y < 4294967296 → nw x y = x &&& y := fun h1 h2 => by unfold nw; rw [Nat.mod_eq_of_lt h1, Nat.mod_eq_of_lt h2]
  rw [e1 (ow_lt _ _) (nw_lt _ _), e1 (nw_lt _ _) (nw_lt _ _), e1 (nw_lt _ _) (nw_lt _ _), e2 ha hb, e2 ha hc, e2 hb hc, e2 hc (ow_lt _ _), e1 ha hb]
  apply Nat.eq_of_testBit_eq
  intro i
  simp only [Nat.testBit_or, Nat.testBit_and]
  cases a.testBit i <;> cases b.testBit i <;> cases c.testBit i <;> rfl
theorem be_sum {b0 b1 b2 b3 : Nat} (h0 : b0 < 256) (h1 : b1 < 256) (h2 : b2 < 256) (h3 : b3 < 256) : ow (ow (ow (lw b0 24) (lw b1 16)) (lw b2 8)) b3 = b0 * 16777216 + b1 * 65536 + b2 * 256 + b3 := by
  have l0 : lw b0 24 = 2 ^ 24 * b0 := by unfold lw; omega
  have l1 : lw b1 16 = b1 * 65536 := by unfold lw; omega
  have l2 : lw b2 8 = b2 * 256 := by unfold lw; omega
  have e1 : ow (lw b0 24) (lw b1 16) = 2 ^ 16 * (b0 * 256 + b1) := by
    unfold ow
    rw [l0, l1, Nat.mod_eq_of_lt (by omega), Nat.mod_eq_of_lt (by omega), ← Nat.two_pow_add_eq_or_of_lt (by omega)]
    omega
  have e2 : ow (ow (lw b0 24) (lw b1 16)) (lw b2 8) = 2 ^ 8 * (b0 * 65536 + b1 * 256 + b2) := by
    rw [e1]
    unfold ow
    rw [l2, Nat.mod_eq_of_lt (by omega), Nat.mod_eq_of_lt (by omega), ← Nat.two_pow_add_eq_or_of_lt (by omega)]
    omega
  rw [e2]
  unfold ow
  rw [Nat.mod_eq_of_lt (by omega), Nat.mod_eq_of_lt (by omega), ← Nat.two_pow_add_eq_or_of_lt (by omega)]
  omega

/-! ### the registers -/
theorem pos_next {k i : Nat} (hi : i < 64) (hk : 1 ≤ k) : pos k (i + 1) = pos (k - 1) i := by unfold pos; omega
theorem pos_zero {i : Nat} (hi : i < 64) : pos 0 (i + 1) = pos 7 i := by unfold pos; omega
theorem getD_set_eq' {l : List Nat} {p x : Nat} (h : p < l.length) : (l.set p x).getD p 0 = x := by simp [List.getD, h]
theorem step_regs {V : List Nat} {i rk wi : Nat} (hV : V.length = 8) (hi : i < 64) :
    atV (stepV V i rk wi) 0 (i + 1) = uW (atV V 0 i) (atV V 1 i) (atV V 2 i) (tW (atV V 4 i) (atV V 5 i) (atV V 6 i) (atV V 7 i) rk wi) ∧
    atV (stepV V i rk wi) 1 (i + 1) = atV V 0 i ∧ atV (stepV V i rk wi) 2 (i + 1) = atV V 1 i ∧ atV (stepV V i rk wi) 3 (i + 1) = atV V 2 i ∧
    atV (stepV V i rk wi) 4 (i + 1) = aw (atV V 3 i) (tW (atV V 4 i) (atV V 5 i) (atV V 6 i) (atV V 7 i) rk wi) ∧
    atV (stepV V i rk wi) 5 (i + 1) = atV V 4 i ∧ atV (stepV V i rk wi) 6 (i + 1) = atV V 5 i ∧ atV (stepV V i rk wi) 7 (i + 1) = atV V 6 i := by
  have h7 : ∀ k, k < 7 → pos 7 i ≠ pos k i := fun k hk => pos_ne i hi 7 k (by decide) (by omega) (by omega)
  have h3 : ∀ k, k < 8 → k ≠ 3 → pos 3 i ≠ pos k i := fun k hk hn => pos_ne i hi 3 k (by decide) hk (by omega)
  generalize hU : uW (atV V 0 i) (atV V 1 i) (atV V 2 i) (tW (atV V 4 i) (atV V 5 i) (atV V 6 i) (atV V 7 i) rk wi) = U
  generalize hT : aw (atV V 3 i) (tW (atV V 4 i) (atV V 5 i) (atV V 6 i) (atV V 7 i) rk wi) = T
  have hs : stepV V i rk wi = (V.set (pos 3 i) T).set (pos 7 i) U := by unfold stepV; rw [hU, hT]
  rw [hs]
  have old : ∀ k, k < 7 → k ≠ 3 → ((V.set (pos 3 i) T).set (pos 7 i) U).getD (pos k i) 0 = atV V k i := fun k h1 h2 => by
    rw [getD_set_ne' (h7 k h1), getD_set_ne' (h3 k (by omega) h2)]; rfl
  refine ⟨?_, ?_, ?_, ?_, ?_, ?_, ?_, ?_⟩
  · unfold atV; rw [pos_zero hi, getD_set_eq' (by rw [List.length_set, hV]; exact pos_lt _ _)]
  · show ((V.set _ _).set _ _).getD (pos 1 (i + 1)) 0 = _; rw [pos_next hi (by omega)]; exact old 0 (by omega) (by omega)
  · show ((V.set _ _).set _ _).getD (pos 2 (i + 1)) 0 = _; rw [pos_next hi (by omega)]; exact old 1 (by omega) (by omega)
  · show ((V.set _ _).set _ _).getD (pos 3 (i + 1)) 0 = _; rw [pos_next hi (by omega)]; exact old 2 (by omega) (by omega)
  · show ((V.set _ _).set _ _).getD (pos 4 (i + 1)) 0 = _
    rw [pos_next hi (by omega), getD_set_ne' (h7 3 (by omega)), getD_set_eq' (by rw [hV]; exact pos_lt _ _)]
  · show ((V.set _ _).set _ _).getD (pos 5 (i + 1)) 0 = _; rw [pos_next hi (by omega)]; exact old 4 (by omega) (by omega)
  · show ((V.set _ _).set _ _).getD (pos 6 (i + 1)) 0 = _; rw [pos_next hi (by omega)]; exact old 5 (by omega) (by omega)
  · show ((V.set _ _).set _ _).getD (pos 7 (i + 1)) 0 = _; rw [pos_next hi (by omega)]; exact old 6 (by omega) (by omega)
theorem set_lt {l : List Nat} {m p x : Nat} (h : ∀ y ∈ l, y < m) (hx : x < m) : ∀ y ∈ l.set p x, y < m := by
  intro y hy
  rcases List.mem_or_eq_of_mem_set hy with hy | rfl
  · exact h y hy
  · exact hx
theorem mixV_lt {H Ws : List Nat} (h : ∀ y ∈ H, y < 4294967296) (i : Nat) : ∀ y ∈ mixV H Ws i, y < 4294967296 := by
  induction i with
  | zero => exact h
  | succ i ih => exact set_lt (set_lt ih (aw_lt _ _)) (aw_lt _ _)
theorem KT_lt : ∀ y ∈ KT, y < 4294967296 := by decide
theorem FT_lt : ∀ y ∈ FT, y < 4294967296 := by decide
theorem spread_lt {R : List Nat} (i : Nat) : ∀ y ∈ spreadF R i, y < 4294967296 := by
  induction i with
  | zero => intro y hy; cases hy
  | succ i ih =>
    intro y hy
    unfold spreadF at hy
    rcases List.mem_append.1 hy with hy | hy
    · exact ih y hy
    · rw [List.mem_singleton] at hy
      subst hy
      split
      · exact ow_lt _ _
      · exact aw_lt _ _

end Go.Proofs.YtaffjcenojikjaaDoor
