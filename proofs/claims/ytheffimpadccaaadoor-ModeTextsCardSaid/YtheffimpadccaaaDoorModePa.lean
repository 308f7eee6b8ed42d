/-
  The contract of Parse.
-/
import Derived.Test.YtheffimpadccaaaDoorModeTx
namespace Go.Proofs.YtheffimpadccaaaDoor
open Go.RowKit

theorem or8 (x y : Nat) (hx : x < 512) (hy : y < 8) : bits .or .i64 ((x : Int) * 8) (y : Int) = (x : Int) * 8 + (y : Int) := by
  have e : ((x : Int) * 8) = ((x * 8 : Nat) : Int) := by omega
  rw [e]
  show IntKind.i64.wrap ((BitVec.ofInt 64 ((x * 8 : Nat) : Int) ||| BitVec.ofInt 64 (y : Int)).toNat : Int) = _
  have h1 : (BitVec.ofInt 64 ((x * 8 : Nat) : Int)).toNat = x * 8 := by
    rw [BitVec.ofInt_natCast, BitVec.toNat_ofNat]; omega
  have h2 : (BitVec.ofInt 64 (y : Int)).toNat = y := by
    rw [BitVec.ofInt_natCast, BitVec.toNat_ofNat]; omega
  rw [BitVec.toNat_or, h1, h2]
  have h3 : x * 8 ||| y = x * 8 + y := by
    have := Nat.shiftLeft_add_eq_or_of_lt (b := y) (i := 3) (by omega) x
    rw [Nat.shiftLeft_eq] at this
    exact this.symm
  rw [h3, IntKind.wrap_i64]
  omega
theorem or8i (x y : Int) (hx0 : 0 ≤ x) (hx : x < 512) (hy0 : 0 ≤ y) (hy : y < 8) : bits .or .i64 (x * 8) y = x * 8 + y := by
  obtain ⟨a, rfl⟩ := Int.eq_ofNat_of_zero_le hx0
  obtain ⟨b, rfl⟩ := Int.eq_ofNat_of_zero_le hy0
  exact or8 a b (by omega) (by omega)
/-- The four signs as one number. -/
def valS (a b c d : Nat) : Int := ((((a : Int) - 48) * 8 + ((b : Int) - 48)) * 8 + ((c : Int) - 48)) * 8 + ((d : Int) - 48)

set_option maxHeartbeats 2000000 in
theorem parse_good (s : ByteArray) (w : World) (hs : s.size = 4) (a0 : (48 : Int) ≤ (s[0].toNat : Int)) (a1 : (s[0].toNat : Int) ≤ 55) (b0 : (48 : Int) ≤ (s[1].toNat : Int)) (b1 : (s[1].toNat : Int) ≤ 55)
    (c0 : (48 : Int) ≤ (s[2].toNat : Int)) (c1 : (s[2].toNat : Int) ≤ 55) (d0 : (48 : Int) ≤ (s[3].toNat : Int)) (d1 : (s[3].toNat : Int) ≤ 55) :
    Calls Tryd.prog 5 #[.string s] w fun e w' => e = .returned (.tuple #[.int .i64 (valS s[0].toNat s[1].toNat s[2].toNat s[3].toNat), .int .i64 0]) ∧ Below w.heap.size w w' := by
  have i0 : (0 : Int) < (s.size : Int) := by omega
  have i1 : (1 : Int) < (s.size : Int) := by omega
  have i2 : (2 : Int) < (s.size : Int) := by omega
  have i3 : (3 : Int) < (s.size : Int) := by omega
  obtain ⟨x0, h0⟩ : ∃ x, s[0].toNat = x := ⟨_, rfl⟩
  obtain ⟨x1, h1⟩ : ∃ x, s[1].toNat = x := ⟨_, rfl⟩
  obtain ⟨x2, h2⟩ : ∃ x, s[2].toNat = x := ⟨_, rfl⟩
  obtain ⟨x3, h3⟩ : ∃ x, s[3].toNat = x := ⟨_, rfl⟩
  rw [h0] at a0 a1 ⊢
  rw [h1] at b0 b1 ⊢
  rw [h2] at c0 c1 ⊢
  rw [h3] at d0 d1 ⊢
  have e0 := or8i 0 ((x0 : Int) - 48) (by omega) (by omega) (by omega) (by omega)
  have e1 := or8i ((x0 : Int) - 48) ((x1 : Int) - 48) (by omega) (by omega) (by omega) (by omega)
  have e2 := or8i (((x0 : Int) - 48) * 8 + ((x1 : Int) - 48)) ((x2 : Int) - 48) (by omega) (by omega) (by omega) (by omega)
  have e3 := or8i ((((x0 : Int) - 48) * 8 + ((x1 : Int) - 48)) * 8 + ((x2 : Int) - 48)) ((x3 : Int) - 48) (by omega) (by omega) (by omega) (by omega)
  rw [Int.zero_mul, Int.zero_add] at e0
  have w1 : wrap64 (((x0 : Int) - 48) * 8) = ((x0 : Int) - 48) * 8 := by unfold wrap64; omega
  have w2 : wrap64 ((((x0 : Int) - 48) * 8 + ((x1 : Int) - 48)) * 8) = (((x0 : Int) - 48) * 8 + ((x1 : Int) - 48)) * 8 := by unfold wrap64; omega
  have w3 : wrap64 (((((x0 : Int) - 48) * 8 + ((x1 : Int) - 48)) * 8 + ((x2 : Int) - 48)) * 8) = ((((x0 : Int) - 48) * 8 + ((x1 : Int) - 48)) * 8 + ((x2 : Int) - 48)) * 8 := by unfold wrap64; omega
  have hv : valS x0 x1 x2 x3 = ((((x0 : Int) - 48) * 8 + ((x1 : Int) - 48)) * 8 + ((x2 : Int) - 48)) * 8 + ((x3 : Int) - 48) := rfl
  have HV := Lib.hid hv
  clear hv
  go_enter Tryd.func5, Tryd.ntmps5
  go_wp2_with fail
  refine wp_loop_rounds 5 ?_
  rw [rounds_succ]
  go_wp2_with fail
  rw [rounds_succ]
  go_wp2_with fail
  rw [rounds_succ]
  go_wp2_with fail
  rw [rounds_succ]
  go_wp2_with fail
  rw [rounds_succ]
  go_wp2_with fail
  go_ret2
  exact ⟨by rw [HV.out]; rfl, Below.refl _ _⟩

set_option maxHeartbeats 2000000 in
theorem parse_bad0 (s : ByteArray) (w : World) (hs : s.size ≠ 4) :
    Calls Tryd.prog 5 #[.string s] w fun e w' => e = .returned (.tuple #[.int .i64 0, .int .i64 3]) ∧ Below w.heap.size w w' := by
  have h : ((s.size : Int) != 4) = true := by simp; omega
  go_enter Tryd.func5, Tryd.ntmps5
  go_wp2_with fail
  go_ret2
  exact ⟨rfl, Below.refl _ _⟩
set_option maxHeartbeats 4000000 in
theorem parse_bad (s : ByteArray) (w : World) (hs : s.size = 4) (h : ¬ ((48 ≤ s[0].toNat ∧ s[0].toNat ≤ 55) ∧ (48 ≤ s[1].toNat ∧ s[1].toNat ≤ 55) ∧ (48 ≤ s[2].toNat ∧ s[2].toNat ≤ 55) ∧ (48 ≤ s[3].toNat ∧ s[3].toNat ≤ 55))) :
    Calls Tryd.prog 5 #[.string s] w fun e w' => e = .returned (.tuple #[.int .i64 0, .int .i64 3]) ∧ Below w.heap.size w w' := by
  have i0 : (0 : Int) < (s.size : Int) := by omega
  have i1 : (1 : Int) < (s.size : Int) := by omega
  have i2 : (2 : Int) < (s.size : Int) := by omega
  have i3 : (3 : Int) < (s.size : Int) := by omega
  obtain ⟨x0, h0⟩ : ∃ x, s[0].toNat = x := ⟨_, rfl⟩
  obtain ⟨x1, h1⟩ : ∃ x, s[1].toNat = x := ⟨_, rfl⟩
  obtain ⟨x2, h2⟩ : ∃ x, s[2].toNat = x := ⟨_, rfl⟩
  obtain ⟨x3, h3⟩ : ∃ x, s[3].toNat = x := ⟨_, rfl⟩
  rw [h0, h1, h2, h3] at h
  have hd : ∀ x : Nat, (48 ≤ x ∧ x ≤ 55) → (decide ((x : Int) < 48) || decide ((55 : Int) < (x : Int))) = false := fun x hx => by simp; omega
  have hb : ∀ x : Nat, ¬ (48 ≤ x ∧ x ≤ 55) → (decide ((x : Int) < 48) = true) ∨ (decide ((x : Int) < 48) = false ∧ decide ((55 : Int) < (x : Int)) = true) := fun x hx => by
    by_cases q : x < 48
    · exact .inl (by simp; omega)
    · exact .inr ⟨by simp; omega, by simp; omega⟩
  have hg : ∀ x : Nat, (48 ≤ x ∧ x ≤ 55) → decide ((x : Int) < 48) = false ∧ decide ((55 : Int) < (x : Int)) = false := fun x hx => ⟨by simp; omega, by simp; omega⟩
  by_cases g0 : 48 ≤ x0 ∧ x0 ≤ 55
  · obtain ⟨p0, p0'⟩ := hg x0 g0
    by_cases g1 : 48 ≤ x1 ∧ x1 ≤ 55
    · obtain ⟨p1, p1'⟩ := hg x1 g1
      by_cases g2 : 48 ≤ x2 ∧ x2 ≤ 55
      · obtain ⟨p2, p2'⟩ := hg x2 g2
        have g3 : ¬ (48 ≤ x3 ∧ x3 ≤ 55) := fun g3 => h ⟨g0, g1, g2, g3⟩
        rcases hb x3 g3 with p3 | ⟨p3, p3'⟩
        all_goals
          clear h hd hb hg
          go_enter Tryd.func5, Tryd.ntmps5
          go_wp2_with fail
          refine wp_loop_rounds 5 ?_
          rw [rounds_succ]
          go_wp2_with fail
          rw [rounds_succ]
          go_wp2_with fail
          rw [rounds_succ]
          go_wp2_with fail
          rw [rounds_succ]
          go_wp2_with fail
          go_ret2
          exact ⟨rfl, Below.refl _ _⟩
      · rcases hb x2 g2 with p2 | ⟨p2, p2'⟩
        all_goals
          clear h hd hb hg
          go_enter Tryd.func5, Tryd.ntmps5
          go_wp2_with fail
          refine wp_loop_rounds 5 ?_
          rw [rounds_succ]
          go_wp2_with fail
          rw [rounds_succ]
          go_wp2_with fail
          rw [rounds_succ]
          go_wp2_with fail
          go_ret2
          exact ⟨rfl, Below.refl _ _⟩
    · rcases hb x1 g1 with p1 | ⟨p1, p1'⟩
      all_goals
        clear h hd hb hg
        go_enter Tryd.func5, Tryd.ntmps5
        go_wp2_with fail
        refine wp_loop_rounds 5 ?_
        rw [rounds_succ]
        go_wp2_with fail
        rw [rounds_succ]
        go_wp2_with fail
        go_ret2
        exact ⟨rfl, Below.refl _ _⟩
  · rcases hb x0 g0 with p0 | ⟨p0, p0'⟩
    all_goals
      clear h hd hb hg
      go_enter Tryd.func5, Tryd.ntmps5
      go_wp2_with fail
      refine wp_loop_rounds 5 ?_
      rw [rounds_succ]
      go_wp2_with fail
      go_ret2
      exact ⟨rfl, Below.refl _ _⟩

end Go.Proofs.YtheffimpadccaaaDoor
