/-
  What one more revision does to a right package.
-/
import Derived.Test.YtkmdhmnjohlnaaaRevK
namespace Go.Proofs.Ytkmdhmnjohlnaaa
open Go.RowKit

theorem add_1 (v : Bool) (a : Int) (x r : Rv) : addL v a [x] r = if v then [] else [x, r] := by
  cases v <;> simp [addL, selF, goesF, moreF, goB]
theorem add_2 (v : Bool) (a : Int) (x y r : Rv) : addL v a [x, y] r = if v then [] else [x, y, r] := by
  cases v <;> simp [addL, selF, goesF, moreF, goB]
theorem add_3a (v : Bool) (a : Int) (x y z r : Rv) (h1 : x.no ≠ a) (h2 : x.no ≠ r.no) : addL v a [x, y, z] r = if v then [x] else [y, z, r] := by
  cases v <;> simp [addL, selF, goesF, moreF, goB, h1, h2]
theorem add_3b (v : Bool) (a : Int) (x y z r : Rv) (h1 : x.no = a) (h2 : y.no ≠ a) (h3 : y.no ≠ r.no) : addL v a [x, y, z] r = if v then [y] else [x, z, r] := by
  cases v <;> simp [addL, selF, goesF, moreF, goB, h1, h2, h3]

/-- What is known of a right list of one, two or three. -/
structure AddOk (a : Int) (l : List Rv) (r : Rv) (L : List Rv) : Prop where
  pos : 1 ≤ L.length
  len : L.length ≤ 3
  good : goodF 0 L = true
  has : hasF r.no L = true
  was : hasF a L = true
  last : lastF L = r.no

theorem add_ok {a : Int} {l : List Rv} {r : Rv} (h1 : 1 ≤ l.length) (h3 : l.length ≤ 3) (hg : goodF 0 l = true) (hh : hasF a l = true) (hr : rightB r (lastF l) = true) : AddOk a l r (addL false a l r) := by
  have hb : lastF l < r.no ∧ r.no ≤ 999999 ∧ 0 ≤ r.size ∧ r.size ≤ 131072 := by unfold rightB at hr; simp at hr; omega
  match l, h1, h3 with
  | [x], _, _ =>
    rw [add_1]
    simp [goodF, rightB, hasF, lastF] at hg hh hb ⊢
    exact ⟨by simp, by simp, by simp [goodF, rightB]; omega, by simp [hasF], by simp [hasF, hh], by simp [lastF]⟩
  | [x, y], _, _ =>
    rw [add_2]
    simp [goodF, rightB, hasF, lastF] at hg hh hb ⊢
    exact ⟨by simp, by simp, by simp [goodF, rightB]; omega, by simp [hasF], by simp [hasF]; omega, by simp [lastF]⟩
  | [x, y, z], _, _ =>
    simp [goodF, rightB, hasF, lastF] at hg hh hb
    by_cases hx : x.no = a
    · rw [add_3b false a x y z r hx (by omega) (by omega)]
      exact ⟨by simp, by simp, by simp [goodF, rightB]; omega, by simp [hasF], by simp [hasF, hx], by simp [lastF]⟩
    · rw [add_3a false a x y z r hx (by omega)]
      exact ⟨by simp, by simp, by simp [goodF, rightB]; omega, by simp [hasF], by simp [hasF]; omega, by simp [lastF]⟩
  | _ :: _ :: _ :: _ :: _, _, h => simp at h

theorem idx_none {a : Int} : ∀ {l : List Rv}, (∀ r ∈ l, r.no ≠ a) → ¬ idxR a l < l.length
  | [], _, h => by simp at h
  | x :: l, hx, h => by
    have h1 : x.no ≠ a := hx x (by simp)
    have h2 := idx_none (a := a) (l := l) (fun r hr => hx r (by simp [hr]))
    simp [idxR, h1] at h
    exact h2 h
theorem last_top : ∀ (l : List Rv) (b : Int), goodF b l = true → ∀ r ∈ l, r.no ≤ lastF l := by
  intro l
  induction l with
  | nil => intro b _ r hr; cases hr
  | cons x l ih =>
    intro b h r hr
    have h1 : rightB x b = true ∧ goodF x.no l = true := by simpa [goodF] using h
    by_cases hl : l = []
    · subst hl
      simp at hr; subst hr; simp [lastF]
    · have e : lastF (x :: l) = lastF l := by
        obtain ⟨s, l2, rfl⟩ : ∃ s l2, l = s :: l2 := by cases l with
          | nil => exact absurd rfl hl
          | cons s l2 => exact ⟨_, _, rfl⟩
        simp [lastF]
      rw [e]
      rcases List.mem_cons.1 hr with rfl | hr
      · obtain ⟨s, hs⟩ := List.exists_mem_of_ne_nil l hl
        have h2 := ih r.no h1.2 s hs
        obtain ⟨t, ht, e2⟩ := lastF_mem l hl
        have h4 : r.no < s.no := by
          have hb : r.no ≤ 999999 := by have := h1.1; simp [rightB] at this; omega
          exact (last_le l r.no hb h1.2 s hs).1
        omega
      · exact ih x.no h1.2 r hr

end Go.Proofs.Ytkmdhmnjohlnaaa
