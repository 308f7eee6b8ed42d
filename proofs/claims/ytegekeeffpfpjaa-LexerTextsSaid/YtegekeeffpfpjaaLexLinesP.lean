/-
  The plain law of LexerLines: lines are counted by line ends, and a token holds none.
-/
import Derived.Test.YtegekeeffpfpjaaLexTokens
namespace Go.Proofs.Ytegekeeffpfpjaa
open Go.RowKit

def nlc (l : List UInt8) : Nat := (l.filter fun c => ((c.toNat : Int) == 10)).length
theorem nlc_nil : nlc [] = 0 := rfl
theorem nlc_app (l r : List UInt8) : nlc (l ++ r) = nlc l + nlc r := by simp [nlc]
theorem nlc_cons (c : UInt8) (l : List UInt8) : nlc (c :: l) = (if ((c.toNat : Int) == 10) = true then 1 else 0) + nlc l := by
  unfold nlc
  rw [List.filter_cons]
  split <;> simp <;> omega
theorem nlc_one {c : UInt8} (h : ((c.toNat : Int) == 10) = false) (l : List UInt8) : nlc (c :: l) = nlc l := by rw [nlc_cons, if_neg (by rw [h]; simp)]; omega
theorem nlc_ten {c : UInt8} (h : ((c.toNat : Int) == 10) = true) (l : List UInt8) : nlc (c :: l) = 1 + nlc l := by rw [nlc_cons, if_pos h]

theorem skip_split : ∀ (l : List UInt8) (note : Bool) (ln : Nat), ∃ pre, l = pre ++ (skipL note l ln).1 ∧ (skipL note l ln).2 = ln + nlc pre := by
  intro l
  induction l with
  | nil => intro note ln; exact ⟨[], by simp [skipL], by simp [skipL, nlc]⟩
  | cons c l ih =>
    intro note ln
    unfold skipL
    split
    · rename_i h
      obtain ⟨pre, h1, h2⟩ := ih false (ln + 1)
      exact ⟨c :: pre, by simp; exact h1, by rw [h2, nlc_ten h]; omega⟩
    rename_i h
    have h' : ((c.toNat : Int) == 10) = false := by simpa using h
    split
    · obtain ⟨pre, h1, h2⟩ := ih note ln
      exact ⟨c :: pre, by simp; exact h1, by rw [h2, nlc_one h']⟩
    split
    · obtain ⟨pre, h1, h2⟩ := ih true ln
      exact ⟨c :: pre, by simp; exact h1, by rw [h2, nlc_one h']⟩
    · exact ⟨[], rfl, by simp [nlc]⟩
/-- The line ahead changes no place. -/
theorem skip_line : ∀ (l : List UInt8) (note : Bool) (a b : Nat), (skipL note l a).1 = (skipL note l b).1 ∧ (skipL note l a).2 + b = (skipL note l b).2 + a := by
  intro l
  induction l with
  | nil => intro note a b; exact ⟨rfl, by simp [skipL]; omega⟩
  | cons c l ih =>
    intro note a b
    unfold skipL
    split
    · have := ih false (a + 1) (b + 1)
      exact ⟨this.1, by omega⟩
    split
    · exact ih note a b
    split
    · exact ih true a b
    · exact ⟨rfl, by simp; omega⟩

theorem run_nl (p : Int → Bool) (hp : p 10 = false) : ∀ l : List UInt8, nlc (l.take (runL p l)) = 0 := by
  intro l
  induction l with
  | nil => rfl
  | cons c l ih =>
    unfold runL
    split
    · rename_i h
      rw [List.take_succ_cons]
      have h' : ((c.toNat : Int) == 10) = false := by
        cases hh : ((c.toNat : Int) == 10)
        · rfl
        · have e : (c.toNat : Int) = 10 := by simpa using hh
          rw [e, hp] at h; cases h
      rw [nlc_one h', ih]
    · rfl

theorem nl_take_add (l : List UInt8) (i j : Nat) : nlc (l.take (i + j)) = nlc (l.take i) + nlc ((l.drop i).take j) := by
  rw [List.take_add, nlc_app]
theorem nl_take_one {l : List UInt8} (h : ((l[0]?.getD 0).toNat : Int) ≠ 10) : nlc (l.take 1) = 0 := by
  cases l with
  | nil => rfl
  | cons c l =>
    rw [List.take_succ_cons, List.take_zero]
    exact nlc_one (by simpa using h) []

theorem word_nl (l : List UInt8) : nlc (l.take (wordL l).1) = 0 := by
  have h0 := run_nl isInn (by decide) l
  unfold wordL
  split
  · rename_i h
    have h46 : nlc ((l.drop (runL isInn l)).take 1) = 0 := nl_take_one (by rw [List.getElem?_drop, Nat.add_zero]; omega)
    split
    · rename_i h2
      have h42 : nlc ((l.drop (runL isInn l + 1)).take 1) = 0 := nl_take_one (by rw [List.getElem?_drop, Nat.add_zero]; omega)
      show nlc (l.take (runL isInn l + 1 + 1)) = 0
      rw [nl_take_add, nl_take_add, h0, h46, h42]
    · split
      · show nlc (l.take (runL isInn l + 1 + _)) = 0
        rw [nl_take_add, nl_take_add, h0, h46, run_nl isNam (by decide)]
      · exact h0
  · exact h0
theorem size_nl (l : List UInt8) : nlc (l.take (sizeL l).1) = 0 := by
  unfold sizeL
  split
  · exact word_nl l
  split
  · exact run_nl isDig (by decide) l
  split
  · exact run_nl isPat (by decide) l
  split
  · rename_i h
    refine nl_take_one (fun e => ?_)
    rw [e] at h
    exact absurd h (by decide)
  · rfl

end Go.Proofs.Ytegekeeffpfpjaa
