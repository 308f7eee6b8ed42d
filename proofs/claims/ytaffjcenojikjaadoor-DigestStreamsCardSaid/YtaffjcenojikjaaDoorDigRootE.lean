/-
  The reference's table, reckoned by the kernel.
-/
import Derived.Test.YtaffjcenojikjaaDoorDigRoot
namespace Go.Proofs.YtaffjcenojikjaaDoor
open Go.RowKit

/-- How many of 1 .. q divide p. -/
def cntF (p : Nat) : Nat → Nat
  | 0 => 0
  | q + 1 => if p % (q + 1) = 0 then cntF p q + 1 else cntF p q
theorem cntF_le (p q : Nat) : cntF p q ≤ q := by
  induction q with
  | zero => exact Nat.le_refl _
  | succ q ih => unfold cntF; split <;> omega
/-- Behind j numbers, from 2 on. -/
def makeS : Nat → Nat × List Nat × List Nat
  | 0 => (0, List.replicate 8 0, List.replicate 64 0)
  | j + 1 => let s := makeS j; if s.1 < 64 ∧ cntF (j + 2) (j + 2) = 2 then (s.1 + 1, (if s.1 < 8 then s.2.1.set s.1 (rootF (j + 2) 2) else s.2.1), s.2.2.set s.1 (rootF (j + 2) 3)) else s
def PT : List Nat := [2, 3, 5, 7, 11, 13, 17, 19, 23, 29, 31, 37, 41, 43, 47, 53, 59, 61, 67, 71, 73, 79, 83, 89, 97, 101, 103, 107, 109, 113, 127, 131, 137, 139, 149, 151, 157, 163, 167, 173, 179, 181, 191, 193, 197, 199, 211, 223, 227, 229, 233, 239, 241, 251, 257, 263, 269, 271, 277, 281, 283, 293, 307, 311]
/-- The primes found among 2 .. j + 1, at most 64. -/
def primS : Nat → List Nat
  | 0 => []
  | j + 1 => if (primS j).length < 64 ∧ cntF (j + 2) (j + 2) = 2 then primS j ++ [j + 2] else primS j
set_option maxRecDepth 1000000 in
theorem prim_end : primS 310 = PT := by decide +kernel
theorem roots_2 : [2, 3, 5, 7, 11, 13, 17, 19].map (fun p => rootF p 2) = FT := by decide +kernel
theorem roots_3_0 : [2, 3, 5, 7].map (fun p => rootF p 3) = [1116352408, 1899447441, 3049323471, 3921009573] := by decide +kernel
theorem roots_3_1 : [11, 13, 17, 19].map (fun p => rootF p 3) = [961987163, 1508970993, 2453635748, 2870763221] := by decide +kernel
theorem roots_3_2 : [23, 29, 31, 37].map (fun p => rootF p 3) = [3624381080, 310598401, 607225278, 1426881987] := by decide +kernel
theorem roots_3_3 : [41, 43, 47, 53].map (fun p => rootF p 3) = [1925078388, 2162078206, 2614888103, 3248222580] := by decide +kernel
theorem roots_3_4 : [59, 61, 67, 71].map (fun p => rootF p 3) = [3835390401, 4022224774, 264347078, 604807628] := by decide +kernel
theorem roots_3_5 : [73, 79, 83, 89].map (fun p => rootF p 3) = [770255983, 1249150122, 1555081692, 1996064986] := by decide +kernel
theorem roots_3_6 : [97, 101, 103, 107].map (fun p => rootF p 3) = [2554220882, 2821834349, 2952996808, 3210313671] := by decide +kernel
theorem roots_3_7 : [109, 113, 127, 131].map (fun p => rootF p 3) = [3336571891, 3584528711, 113926993, 338241895] := by decide +kernel
theorem roots_3_8 : [137, 139, 149, 151].map (fun p => rootF p 3) = [666307205, 773529912, 1294757372, 1396182291] := by decide +kernel
theorem roots_3_9 : [157, 163, 167, 173].map (fun p => rootF p 3) = [1695183700, 1986661051, 2177026350, 2456956037] := by decide +kernel
theorem roots_3_10 : [179, 181, 191, 193].map (fun p => rootF p 3) = [2730485921, 2820302411, 3259730800, 3345764771] := by decide +kernel
theorem roots_3_11 : [197, 199, 211, 223].map (fun p => rootF p 3) = [3516065817, 3600352804, 4094571909, 275423344] := by decide +kernel
theorem roots_3_12 : [227, 229, 233, 239].map (fun p => rootF p 3) = [430227734, 506948616, 659060556, 883997877] := by decide +kernel
theorem roots_3_13 : [241, 251, 257, 263].map (fun p => rootF p 3) = [958139571, 1322822218, 1537002063, 1747873779] := by decide +kernel
theorem roots_3_14 : [269, 271, 277, 281].map (fun p => rootF p 3) = [1955562222, 2024104815, 2227730452, 2361852424] := by decide +kernel
theorem roots_3_15 : [283, 293, 307, 311].map (fun p => rootF p 3) = [2428436474, 2756734187, 3204031479, 3329325298] := by decide +kernel
theorem pt_parts : PT = [2, 3, 5, 7] ++ ([11, 13, 17, 19] ++ ([23, 29, 31, 37] ++ ([41, 43, 47, 53] ++ ([59, 61, 67, 71] ++ ([73, 79, 83, 89] ++ ([97, 101, 103, 107] ++ ([109, 113, 127, 131] ++ ([137, 139, 149, 151] ++ ([157, 163, 167, 173] ++ ([179, 181, 191, 193] ++ ([197, 199, 211, 223] ++ ([227, 229, 233, 239] ++ ([241, 251, 257, 263] ++ ([269, 271, 277, 281] ++ ([283, 293, 307, 311]))))))))))))))) := rfl
theorem kt_parts : KT = [1116352408, 1899447441, 3049323471, 3921009573] ++ ([961987163, 1508970993, 2453635748, 2870763221] ++ ([3624381080, 310598401, 607225278, 1426881987] ++ ([1925078388, 2162078206, 2614888103, 3248222580] ++ ([3835390401, 4022224774, 264347078, 604807628] ++ ([770255983, 1249150122, 1555081692, 1996064986] ++ ([2554220882, 2821834349, 2952996808, 3210313671] ++ ([3336571891, 3584528711, 113926993, 338241895] ++ ([666307205, 773529912, 1294757372, 1396182291] ++ ([1695183700, 1986661051, 2177026350, 2456956037] ++ ([2730485921, 2820302411, 3259730800, 3345764771] ++ ([3516065817, 3600352804, 4094571909, 275423344] ++ ([430227734, 506948616, 659060556, 883997877] ++ ([958139571, 1322822218, 1537002063, 1747873779] ++ ([1955562222, 2024104815, 2227730452, 2361852424] ++ ([2428436474, 2756734187, 3204031479, 3329325298]))))))))))))))) := rfl
theorem roots_3 : PT.map (fun p => rootF p 3) = KT := by
  rw [pt_parts, kt_parts]
  simp only [List.map_append, roots_3_0, roots_3_1, roots_3_2, roots_3_3, roots_3_4, roots_3_5, roots_3_6, roots_3_7, roots_3_8, roots_3_9, roots_3_10, roots_3_11, roots_3_12, roots_3_13, roots_3_14, roots_3_15]
theorem prim_len (j : Nat) : (primS j).length ≤ 64 := by
  induction j with
  | zero => show 0 ≤ 64; omega
  | succ j ih =>
    unfold primS
    split
    · simp; omega
    · exact ih
theorem pad_set (l : List Nat) (n x : Nat) (h : l.length < n) : (l ++ List.replicate (n - l.length) 0).set l.length x = (l ++ [x]) ++ List.replicate (n - (l.length + 1)) 0 := by
  obtain ⟨m, hm⟩ : ∃ m, n - l.length = m + 1 := ⟨n - l.length - 1, by omega⟩
  rw [hm, show n - (l.length + 1) = m from by omega, List.set_append, if_neg (by omega), Nat.sub_self]
  simp [List.replicate_succ]
theorem make_prim (j : Nat) : makeS j = ((primS j).length, ((primS j).take 8).map (fun p => rootF p 2) ++ List.replicate (8 - ((primS j).take 8).length) 0, (primS j).map (fun p => rootF p 3) ++ List.replicate (64 - (primS j).length) 0) := by
  induction j with
  | zero => rfl
  | succ j ih =>
    unfold makeS primS
    dsimp only
    rw [ih]
    generalize primS j = P
    dsimp only
    split
    · rename_i h
      obtain ⟨h1, -⟩ := h
      refine Prod.ext (by simp) (Prod.ext ?_ ?_)
      · dsimp only
        by_cases h8 : P.length < 8
        · rw [if_pos h8]
          have e1 : P.take 8 = P := List.take_of_length_le (by omega)
          have e2 : (P ++ [j + 2]).take 8 = P ++ [j + 2] := List.take_of_length_le (by simp; omega)
          rw [e1, e2]
          have := pad_set (P.map (fun p => rootF p 2)) 8 (rootF (j + 2) 2) (by simpa using h8)
          simp only [List.length_map] at this
          rw [this]
          simp
        · rw [if_neg h8]
          have e1 : (P ++ [j + 2]).take 8 = P.take 8 := by rw [List.take_append_of_le_length (by omega)]
          rw [e1]
      · dsimp only
        have := pad_set (P.map (fun p => rootF p 3)) 64 (rootF (j + 2) 3) (by simpa using h1)
        simp only [List.length_map] at this
        rw [this]
        simp
    · rfl
theorem make_end : makeS 310 = (64, FT, KT) := by
  rw [make_prim, prim_end, roots_3]
  have e : (PT.take 8) = [2, 3, 5, 7, 11, 13, 17, 19] := rfl
  rw [e, roots_2]
  rfl
theorem make_len (j : Nat) : (makeS j).1 ≤ 64 ∧ (makeS j).2.1.length = 8 ∧ (makeS j).2.2.length = 64 := by
  induction j with
  | zero => exact ⟨by show 0 ≤ 64; omega, rfl, rfl⟩
  | succ j ih =>
    unfold makeS
    dsimp only
    split
    · refine ⟨by show _ + 1 ≤ 64; omega, ?_, by simp [ih.2.2]⟩
      show (if _ then _ else _ : List Nat).length = 8
      split <;> simp [ih.2.1]
    · exact ih
theorem make_stay {j : Nat} (h : (makeS j).1 = 64) (k : Nat) : makeS (j + k) = makeS j := by
  induction k with
  | zero => rfl
  | succ k ih =>
    show makeS ((j + k) + 1) = _
    have hn : ¬ ((makeS (j + k)).1 < 64 ∧ cntF (j + k + 2) (j + k + 2) = 2) := by rw [ih]; omega
    have e : makeS ((j + k) + 1) = makeS (j + k) := if_neg hn
    rw [e, ih]
/-- A table that is not full comes before the end; one that is full is the end's. -/
theorem make_lt {j : Nat} (h : (makeS j).1 < 64) : j < 310 := by
  apply Nat.lt_of_not_le
  intro hj
  have e := make_stay (j := 310) (by rw [make_end]) (j - 310)
  rw [show 310 + (j - 310) = j by omega, make_end] at e
  rw [e] at h
  exact absurd h (by decide)
theorem make_full {j : Nat} (h : ¬ (makeS j).1 < 64) : makeS j = (64, FT, KT) := by
  have h64 : (makeS j).1 = 64 := by have := (make_len j).1; omega
  by_cases hj : j ≤ 310
  · have e := make_stay h64 (310 - j)
    rw [show j + (310 - j) = 310 by omega, make_end] at e
    exact e.symm
  · have e := make_stay (j := 310) (by rw [make_end]) (j - 310)
    rw [show 310 + (j - 310) = j by omega, make_end] at e
    exact e

end Go.Proofs.YtaffjcenojikjaaDoor
