/-
  The contract of the verifier's look.
-/
import Derived.Test.YtliealcdiogilaaDoorCoM
namespace Go.Proofs.YtliealcdiogilaaDoor
open Go.RowKit
attribute [local go_sem ↓] Go.wp_at_zero Go.wp_at_succ

/-! ### The plain side -/
theorem nt_app {a b : List UInt8} (ha : a.all ntB = true) (hb : b.all ntB = true) : (a ++ b).all ntB = true := by rw [List.all_append, ha, hb]; rfl
theorem nt_take {a : List UInt8} (h : a.all ntB = true) (n : Nat) : (a.take n).all ntB = true := by
  rw [List.all_eq_true] at h ⊢
  exact fun x hx => h x (List.mem_of_mem_take hx)
theorem nt_last {a : List UInt8} (h : a.all ntB = true) (n : Nat) : (lastN a n).all ntB = true := by
  rw [List.all_eq_true] at h ⊢
  exact fun x hx => h x (List.mem_of_mem_drop hx)
theorem fix_nt : ∀ k, k < 22 → ∀ t l, fixT k = some (t, l) → l.all ntB = true := by
  have h : ∀ k, k < 22 → ((fixT k).map fun e => e.2.all ntB).getD true = true := by decide
  intro k hk t l hf
  have := h k hk
  rw [hf] at this
  exact this
theorem turn_nt (s : List UInt8) (hs : s.all ntB = true) (k : Nat) (t l : List UInt8) (h : turnF s k = some (t, l)) : l.all ntB = true := by
  unfold turnF at h
  split at h
  · split at h <;> cases h
    rfl
  · split at h
    · split at h <;> cases h
      exact nt_app (nt_last hs _) (nt_last hs _)
    · split at h
      · split at h <;> cases h
        rw [List.all_reverse]
        exact nt_last hs _
      · split at h <;> cases h
        rfl
/-- A state behind an instruction is one. -/
theorem beh_right {s t : List UInt8} {op : Int} (h : behF s op = (t, 0)) : t.length ≤ 16 ∧ t.all ntB = true := by
  unfold behF at h
  split at h
  · cases h
  · rename_i hn
    have hr : rightS s = true := by cases e : rightS s; exact absurd (Or.inl e) hn; rfl
    have ho : 0 ≤ op ∧ op ≤ 21 := Decidable.byContradiction fun e => hn (Or.inr e)
    have hs : s.all ntB = true := by unfold rightS at hr; exact (Bool.and_eq_true _ _ ▸ hr).2
    split at h
    · cases h
    · rename_i t' l' he
      split at h
      · split at h
        · rename_i hl
          have h1 := congrArg Prod.fst h
          simp only at h1
          subst h1
          have hnl : l'.all ntB = true := by
            unfold effF at he
            split at he
            · rename_i e2 hf
              cases he
              exact fix_nt _ (by omega) _ _ hf
            · exact turn_nt s hs _ _ _ he
          refine ⟨?_, nt_app (nt_take hs _) hnl⟩
          rw [List.length_append, List.length_take]
          omega
        · cases h
      · cases h
theorem nt_ne {t : List UInt8} (h : t.all ntB = true) : t ≠ [45] := by
  rintro rfl
  cases h
section
variable {l : List Ci} {v : Vs} {k : Nat} {op m : Int} {q s : List UInt8} {e : Int}
theorem look_err (hx : l[k]? = some ⟨op, m, q⟩) (hb : behF (v.1.getD k []) op = (s, e)) (he : e ≠ 0) : lookV l v k = (v, some (k, e)) := by
  unfold lookV
  rw [List.getD_eq_getElem?_getD, hx, Option.getD_some]
  simp only [hb]
  rw [if_pos he]
theorem look_stop (hx : l[k]? = some ⟨op, m, q⟩) (hb : behF (v.1.getD k []) op = (s, 0)) (ho : op = 0 ∨ op = 21) : lookV l v k = (v, none) := by
  unfold lookV
  rw [List.getD_eq_getElem?_getD, hx, Option.getD_some]
  simp only [hb]
  rcases ho with rfl | rfl <;> simp
theorem look_jump (hx : l[k]? = some ⟨11, m, q⟩) (hb : behF (v.1.getD k []) 11 = (s, 0)) : lookV l v k = (reachV v m.toNat s, if (reachV v m.toNat s).1.getD m.toNat [] = s then none else some (m.toNat, 17)) := by
  unfold lookV
  rw [List.getD_eq_getElem?_getD, hx, Option.getD_some]
  simp only [hb]
  have c1 : ¬ ((11 : Int) ≠ 0 ∧ (11 : Int) ≠ 11 ∧ (11 : Int) ≠ 21) := by decide
  have c2 : True ∨ (11 : Int) = 12 := Or.inl trivial
  rw [if_neg (show ¬ ((0 : Int) ≠ 0) by decide), if_neg c1, if_pos c2]
  by_cases h : (reachV v m.toNat s).1.getD m.toNat [] = s
  · rw [if_pos h, if_neg (fun c => c1 c.1), if_neg (fun c => c.2 h)]
  · rw [if_neg h, if_neg (fun c => c1 c.1), if_pos ⟨c2, h⟩]
theorem look_next (hx : l[k]? = some ⟨op, m, q⟩) (hb : behF (v.1.getD k []) op = (s, 0)) (h0 : op ≠ 0) (h11 : op ≠ 11) (h12 : op ≠ 12) (h21 : op ≠ 21) : lookV l v k = (reachV v (k + 1) s, if (reachV v (k + 1) s).1.getD (k + 1) [] = s then none else some (k + 1, 17)) := by
  unfold lookV
  rw [List.getD_eq_getElem?_getD, hx, Option.getD_some]
  simp only [hb]
  have hc : op ≠ 0 ∧ op ≠ 11 ∧ op ≠ 21 := ⟨h0, h11, h21⟩
  have hc2 : ¬ (op = 11 ∨ op = 12) := fun c => c.elim h11 h12
  by_cases h : (reachV v (k + 1) s).1.getD (k + 1) [] = s
  · rw [if_pos h, if_neg (by decide), if_pos hc, if_neg (fun c => c.2 h), if_neg hc2, if_neg (fun c => hc2 c.1)]
  · rw [if_neg h, if_neg (by decide), if_pos hc, if_pos ⟨hc, h⟩]
theorem look_none (hx : l[k]? = some ⟨12, m, q⟩) (hb : behF (v.1.getD k []) 12 = (s, 0)) : lookV l v k = if (reachV v (k + 1) s).1.getD (k + 1) [] = s then (reachV (reachV v (k + 1) s) m.toNat s, if (reachV (reachV v (k + 1) s) m.toNat s).1.getD m.toNat [] = s then none else some (m.toNat, 17)) else (reachV v (k + 1) s, some (k + 1, 17)) := by
  unfold lookV
  rw [List.getD_eq_getElem?_getD, hx, Option.getD_some]
  simp only [hb]
  have hc : (12 : Int) ≠ 0 ∧ (12 : Int) ≠ 11 ∧ (12 : Int) ≠ 21 := by decide
  have c2 : (12 : Int) = 11 ∨ True := Or.inr trivial
  rw [if_neg (show ¬ ((0 : Int) ≠ 0) by decide), if_pos hc, if_pos c2]
  by_cases h : (reachV v (k + 1) s).1.getD (k + 1) [] = s
  · rw [if_pos h, if_neg (fun c => c.2 h)]
    by_cases h2 : (reachV (reachV v (k + 1) s) m.toNat s).1.getD m.toNat [] = s
    · rw [if_pos h2, if_neg (fun c => c.2 h2)]
    · rw [if_neg h2, if_pos ⟨c2, h2⟩]
  · rw [if_neg h, if_pos ⟨hc, h⟩]
end
def LkPost (w : World) (base vb sb mb : Nat) (A : Option Addr) (n c : Nat) (r : Vs × Option (Nat × Int)) (e : Ending) (w' : World) : Prop :=
  Below base w w' ∧ match r with
    | (v, none) => e = .returned (.tuple #[.int .i64 0, .int .i64 0]) ∧ Vr w' base vb sb mb A n c v
    | (_, some (i, er)) => e = .returned (.tuple #[.int .i64 (i : Nat), .int .i64 er])
end Go.Proofs.YtliealcdiogilaaDoor
