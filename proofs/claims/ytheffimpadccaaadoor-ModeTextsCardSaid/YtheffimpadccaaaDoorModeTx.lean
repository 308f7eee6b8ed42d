/-
  The contracts of the reference's Text, and of Parse.
-/
import Derived.Test.YtheffimpadccaaaDoorModeK
namespace Go.Proofs.YtheffimpadccaaaDoor
open Go.RowKit

theorem dig0 (m : Int) (w : World) (h0 : 0 ≤ m) (h1 : m < 4096) :
    Calls Tryd.prog 10 #[.int .i64 m, .int .i64 0] w fun e w' => e = .returned (.int .i64 (m / 512 % 8)) ∧ Below w.heap.size w w' := by
  go_enter Tryd.func10, Tryd.ntmps10
  go_wp2
  go_ret
  exact ⟨rfl, below_al (Below.refl _ _) _⟩
theorem dig1 (m : Int) (w : World) (h0 : 0 ≤ m) (h1 : m < 4096) :
    Calls Tryd.prog 10 #[.int .i64 m, .int .i64 1] w fun e w' => e = .returned (.int .i64 (m / 64 % 8)) ∧ Below w.heap.size w w' := by
  go_enter Tryd.func10, Tryd.ntmps10
  go_wp2
  go_ret
  exact ⟨rfl, below_al (Below.refl _ _) _⟩
theorem dig2 (m : Int) (w : World) (h0 : 0 ≤ m) (h1 : m < 4096) :
    Calls Tryd.prog 10 #[.int .i64 m, .int .i64 2] w fun e w' => e = .returned (.int .i64 (m / 8 % 8)) ∧ Below w.heap.size w w' := by
  go_enter Tryd.func10, Tryd.ntmps10
  go_wp2
  go_ret
  exact ⟨rfl, below_al (Below.refl _ _) _⟩
theorem dig3 (m : Int) (w : World) (h0 : 0 ≤ m) (h1 : m < 4096) :
    Calls Tryd.prog 10 #[.int .i64 m, .int .i64 3] w fun e w' => e = .returned (.int .i64 (m % 8)) ∧ Below w.heap.size w w' := by
  go_enter Tryd.func10, Tryd.ntmps10
  go_wp2
  go_ret
  exact ⟨ret_int (by simp), below_al (Below.refl _ _) _⟩

/-- One sign. -/
def sg (d : Nat) : ByteArray := ⟨#[UInt8.ofNat (48 + d)]⟩
theorem sl0 (w : World) : (Instr.slice 9 (.string ⟨#[48, 49, 50, 51, 52, 53, 54, 55]⟩) (some (.int .i64 0)) (some (.int .i64 1)) none).run Tryd.prog w = .ok (.string (sg 0)) w := by kernel_rfl
theorem sl1 (w : World) : (Instr.slice 9 (.string ⟨#[48, 49, 50, 51, 52, 53, 54, 55]⟩) (some (.int .i64 1)) (some (.int .i64 2)) none).run Tryd.prog w = .ok (.string (sg 1)) w := by kernel_rfl
theorem sl2 (w : World) : (Instr.slice 9 (.string ⟨#[48, 49, 50, 51, 52, 53, 54, 55]⟩) (some (.int .i64 2)) (some (.int .i64 3)) none).run Tryd.prog w = .ok (.string (sg 2)) w := by kernel_rfl
theorem sl3 (w : World) : (Instr.slice 9 (.string ⟨#[48, 49, 50, 51, 52, 53, 54, 55]⟩) (some (.int .i64 3)) (some (.int .i64 4)) none).run Tryd.prog w = .ok (.string (sg 3)) w := by kernel_rfl
theorem sl4 (w : World) : (Instr.slice 9 (.string ⟨#[48, 49, 50, 51, 52, 53, 54, 55]⟩) (some (.int .i64 4)) (some (.int .i64 5)) none).run Tryd.prog w = .ok (.string (sg 4)) w := by kernel_rfl
theorem sl5 (w : World) : (Instr.slice 9 (.string ⟨#[48, 49, 50, 51, 52, 53, 54, 55]⟩) (some (.int .i64 5)) (some (.int .i64 6)) none).run Tryd.prog w = .ok (.string (sg 5)) w := by kernel_rfl
theorem sl6 (w : World) : (Instr.slice 9 (.string ⟨#[48, 49, 50, 51, 52, 53, 54, 55]⟩) (some (.int .i64 6)) (some (.int .i64 7)) none).run Tryd.prog w = .ok (.string (sg 6)) w := by kernel_rfl
theorem sl7 (w : World) : (Instr.slice 9 (.string ⟨#[48, 49, 50, 51, 52, 53, 54, 55]⟩) (some (.int .i64 7)) (some (.int .i64 8)) none).run Tryd.prog w = .ok (.string (sg 7)) w := by kernel_rfl
theorem sl_any (d : Nat) (hd : d < 8) (w : World) : (Instr.slice 9 (.string ⟨#[48, 49, 50, 51, 52, 53, 54, 55]⟩) (some (.int .i64 (d : Int))) (some (.int .i64 ((d : Int) + 1))) none).run Tryd.prog w = .ok (.string (sg d)) w := by
  match d, hd with
  | 0, _ => exact sl0 w
  | 1, _ => exact sl1 w
  | 2, _ => exact sl2 w
  | 3, _ => exact sl3 w
  | 4, _ => exact sl4 w
  | 5, _ => exact sl5 w
  | 6, _ => exact sl6 w
  | 7, _ => exact sl7 w
theorem sg_size (d : Nat) : (sg d).size = 1 := rfl

theorem str4 (a b c d : Nat) : strOfNums [48 + (a : Int), 48 + (b : Int), 48 + (c : Int), 48 + (d : Int)] = sg a ++ sg b ++ sg c ++ sg d := by
  have key : ∀ x : Nat, UInt8.ofNat (48 + (x : Int)).toNat = UInt8.ofNat (48 + x) := fun x => by rw [show (48 + (x : Int)).toNat = 48 + x by omega]
  show (⟨[UInt8.ofNat (48 + (a : Int)).toNat, UInt8.ofNat (48 + (b : Int)).toNat, UInt8.ofNat (48 + (c : Int)).toNat, UInt8.ofNat (48 + (d : Int)).toNat].toArray⟩ : ByteArray) = _
  rw [key a, key b, key c, key d]
  apply ByteArray.ext
  unfold sg
  rw [ByteArray.data_append, ByteArray.data_append, ByteArray.data_append]
  rfl

set_option maxHeartbeats 2000000 in
theorem rtext_yes (n : Int) (w : World) (h0 : 0 ≤ n) (h1 : n < 4096) :
    Calls Tryd.prog 6 #[.int .i64 n] w fun e w' => e = .returned (.string (texN n)) ∧ Below w.heap.size w w' := by
  obtain ⟨a, ha, ha8⟩ : ∃ a : Nat, n / 512 % 8 = a ∧ a < 8 := ⟨(n / 512 % 8).toNat, by omega, by omega⟩
  obtain ⟨b, hb, hb8⟩ : ∃ a : Nat, n / 64 % 8 = a ∧ a < 8 := ⟨(n / 64 % 8).toNat, by omega, by omega⟩
  obtain ⟨c, hc, hc8⟩ : ∃ a : Nat, n / 8 % 8 = a ∧ a < 8 := ⟨(n / 8 % 8).toNat, by omega, by omega⟩
  obtain ⟨d, hd, hd8⟩ : ∃ a : Nat, n % 8 = a ∧ a < 8 := ⟨(n % 8).toNat, by omega, by omega⟩
  have ht : texN n = sg a ++ sg b ++ sg c ++ sg d := by
    have e : texN n = _ := if_pos ⟨h0, h1⟩
    rw [e, ha, hb, hc, hd]
    exact str4 a b c d
  have HT := Lib.hid ht
  have k0 : ∀ W : World, Calls Tryd.prog 10 #[.int .i64 n, .int .i64 0] W fun e w' => e = .returned (.int .i64 (a : Int)) ∧ Below W.heap.size W w' := fun W => by have h := dig0 n W h0 h1; rwa [ha] at h
  have k1 : ∀ W : World, Calls Tryd.prog 10 #[.int .i64 n, .int .i64 1] W fun e w' => e = .returned (.int .i64 (b : Int)) ∧ Below W.heap.size W w' := fun W => by have h := dig1 n W h0 h1; rwa [hb] at h
  have k2 : ∀ W : World, Calls Tryd.prog 10 #[.int .i64 n, .int .i64 2] W fun e w' => e = .returned (.int .i64 (c : Int)) ∧ Below W.heap.size W w' := fun W => by have h := dig2 n W h0 h1; rwa [hc] at h
  have k3 : ∀ W : World, Calls Tryd.prog 10 #[.int .i64 n, .int .i64 3] W fun e w' => e = .returned (.int .i64 (d : Int)) ∧ Below W.heap.size W w' := fun W => by have h := dig3 n W h0 h1; rwa [hd] at h
  have s0 := sl_any a ha8
  have s1 := sl_any b hb8
  have s2 := sl_any c hc8
  have s3 := sl_any d hd8
  have z0 := sg_size a
  have z1 := sg_size b
  have z2 := sg_size c
  have z3 := sg_size d
  clear ht ha hb hc hd
  go_enter Tryd.func6, Tryd.ntmps6
  go_wp2_with fail
  refine wp_loop_rounds 5 ?_
  rw [rounds_succ]
  go_wp2_with fail
  refine (k0 _).mono ?_
  rintro e w1 ⟨rfl, hB1⟩
  go_wp2_with fail
  rw [rounds_succ]
  go_wp2_with fail
  refine (k1 _).mono ?_
  rintro e w2 ⟨rfl, hB2⟩
  go_wp2_with fail
  rw [rounds_succ]
  go_wp2_with fail
  refine (k2 _).mono ?_
  rintro e w3 ⟨rfl, hB3⟩
  go_wp2_with fail
  rw [rounds_succ]
  go_wp2_with fail
  refine (k3 _).mono ?_
  rintro e w4 ⟨rfl, hB4⟩
  go_wp2_with fail
  rw [rounds_succ]
  go_wp2_with fail
  go_ret
  have hE := below_tr (below_tr (below_tr hB1 hB2) hB3) hB4
  exact ⟨ret_str HT.out.symm, hE⟩

theorem rtext_any (n : Int) (w : World) :
    Calls Tryd.prog 6 #[.int .i64 n] w fun e w' => e = .returned (.string (texN n)) ∧ Below w.heap.size w w' := by
  by_cases h : 0 ≤ n ∧ n < 4096
  · exact rtext_yes n w h.1 h.2
  · have ht : texN n = ⟨#[]⟩ := if_neg h
    have HT := Lib.hid ht
    by_cases h0 : 0 ≤ n
    · have h1 : ¬ n ≤ 4095 := by omega
      clear ht h
      go_enter Tryd.func6, Tryd.ntmps6
      go_wp2_with fail
      go_ret
      exact ⟨ret_str HT.out.symm, Below.refl _ _⟩
    · clear ht h
      go_enter Tryd.func6, Tryd.ntmps6
      go_wp2_with fail
      go_ret
      exact ⟨ret_str HT.out.symm, Below.refl _ _⟩

end Go.Proofs.YtheffimpadccaaaDoor
