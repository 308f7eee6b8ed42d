/-
  Cutting at a byte and joining with it (plain).
-/
import Derived.Lib.SplitLaws
import Derived.Lib.Strings
import Derived.Lib.Join
namespace Go.Proofs.YtigdfkpkogompaaDoor

theorem index_cons_eq (c : UInt8) (l : List UInt8) : Lib.index (c :: l) [c] = ((0 : Nat) : Int) := by rw [Lib.index]; simp [List.isPrefixOf]
theorem index_cons_ne {b c : UInt8} (l : List UInt8) (h : b ≠ c) : Lib.index (b :: l) [c] = if Lib.index l [c] == -1 then -1 else Lib.index l [c] + 1 := by
  have hp : ([c] : List UInt8).isPrefixOf (b :: l) = false := by simp [List.isPrefixOf, Ne.symm h]
  rw [Lib.index, hp]; simp
theorem split_nil (c : UInt8) : Lib.split [] [c] = [[]] := by
  unfold Lib.split
  rw [Lib.count_one]; rfl
theorem split_eq (c : UInt8) (l : List UInt8) : Lib.split (c :: l) [c] = [] :: Lib.split l [c] := by
  unfold Lib.split
  rw [Lib.count_cons_eq, Nat.add_comm, Lib.splitK, index_cons_eq]
  simp
theorem split_ne {b c : UInt8} (l : List UInt8) (h : b ≠ c) : ∃ x t, Lib.split l [c] = x :: t ∧ Lib.split (b :: l) [c] = (b :: x) :: t := by
  unfold Lib.split
  rw [Lib.count_cons_ne b c l h]
  by_cases hm : Lib.index l [c] = -1
  · rw [Lib.count_miss hm]
    exact ⟨l, [], rfl, rfl⟩
  · have hge := Lib.index_ge l [c]
    obtain ⟨j, hj⟩ : ∃ j : Nat, Lib.index l [c] = j := ⟨(Lib.index l [c]).toNat, by omega⟩
    have hix' : Lib.index (b :: l) [c] = ((j + 1 : Nat) : Int) := by rw [index_cons_ne l h, if_neg (fun e => hm (beq_iff_eq.1 e)), hj]; omega
    rw [Lib.count_hit (by simp) hj, Nat.add_comm]
    unfold Lib.splitK
    rw [hj, hix']
    have h1 : ¬ (((j : Nat) : Int) == -1) = true := fun e => by have := beq_iff_eq.1 e; omega
    have h2 : ¬ (((j + 1 : Nat) : Int) == -1) = true := fun e => by have := beq_iff_eq.1 e; omega
    rw [if_neg h1, if_neg h2]
    refine ⟨_, _, rfl, ?_⟩
    simp

theorem split_cons (c : UInt8) : ∀ l : List UInt8, ∃ x t, Lib.split l [c] = x :: t
  | [] => ⟨[], [], split_nil c⟩
  | b :: l => by
    by_cases h : b = c
    · subst h; exact ⟨_, _, split_eq b l⟩
    · obtain ⟨x, t, _, h2⟩ := split_ne l h
      exact ⟨_, _, h2⟩
theorem join_split (c : UInt8) : ∀ s : List UInt8, Lib.join (Lib.split s [c]) [c] = s
  | [] => by rw [split_nil]; simp [Lib.join, List.intercalate]
  | b :: l => by
    have ih := join_split c l
    by_cases h : b = c
    · subst h
      rw [split_eq]
      obtain ⟨x, t, e⟩ := split_cons b l
      rw [e] at ih ⊢
      rw [Lib.join_cons] at ih ⊢
      simp only [Lib.joinTail, List.map_cons, List.flatten_cons, List.nil_append, List.cons_append] at ih ⊢
      rw [ih]
    · obtain ⟨x, t, h1, h2⟩ := split_ne l h
      rw [h1] at ih
      rw [h2]
      rw [Lib.join_cons] at ih ⊢
      rw [List.cons_append, ih]

theorem split_app {c : UInt8} (r : List UInt8) : ∀ x : List UInt8, c ∉ x → Lib.split (x ++ c :: r) [c] = x :: Lib.split r [c]
  | [], _ => split_eq c r
  | b :: x, h => by
    simp only [List.mem_cons, not_or] at h
    have ih := split_app r x h.2
    obtain ⟨y, t, h1, h2⟩ := split_ne (x ++ c :: r) (Ne.symm h.1)
    rw [ih] at h1
    injection h1 with e1 e2
    rw [List.cons_append, h2, ← e1, ← e2]
theorem split_one {c : UInt8} : ∀ x : List UInt8, c ∉ x → Lib.split x [c] = [x]
  | [], _ => split_nil c
  | b :: x, h => by
    simp only [List.mem_cons, not_or] at h
    have ih := split_one x h.2
    obtain ⟨y, t, h1, h2⟩ := split_ne x (Ne.symm h.1)
    rw [ih] at h1
    injection h1 with e1 e2
    rw [h2, ← e1, ← e2]
theorem split_join {c : UInt8} : ∀ p : List (List UInt8), p ≠ [] → (∀ x ∈ p, c ∉ x) → Lib.split (Lib.join p [c]) [c] = p
  | [], h, _ => absurd rfl h
  | [x], _, h => by rw [Lib.join_one]; exact split_one x (h x (by simp))
  | x :: y :: p, _, h => by
    have ih := split_join (y :: p) (by simp) (fun z hz => h z (List.mem_cons_of_mem _ hz))
    have e : Lib.join (x :: y :: p) [c] = x ++ c :: Lib.join (y :: p) [c] := by
      rw [Lib.join_cons, Lib.join_cons]
      simp [Lib.joinTail]
    rw [e, split_app _ x (h x (by simp)), ih]

end Go.Proofs.YtigdfkpkogompaaDoor
