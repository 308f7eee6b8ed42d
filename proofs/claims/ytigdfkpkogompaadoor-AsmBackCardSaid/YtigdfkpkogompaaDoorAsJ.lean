/-
  A text behind another one: the plain law.
-/
import Derived.Test.YtigdfkpkogompaaDoorAsQ
namespace Go.Proofs.YtigdfkpkogompaaDoor

theorem split_two : ∀ (k : Nat) (a b : List UInt8), a.length ≤ k → Lib.split (a ++ 10 :: b) [10] = Lib.split a [10] ++ Lib.split b [10]
  | k, a, b, hk => by
    by_cases h : (10 : UInt8) ∈ a
    · obtain ⟨a1, a2, rfl, h1⟩ := List.eq_append_cons_of_mem h
      match k, hk with
      | 0, hk => simp at hk
      | k + 1, hk =>
        have e : a1 ++ 10 :: a2 ++ 10 :: b = a1 ++ 10 :: (a2 ++ 10 :: b) := by simp
        rw [e, split_app _ a1 h1, split_app _ a1 h1, split_two k a2 b (by simp at hk; omega)]
        rfl
    · rw [split_app b a h]
      have : Lib.split a [10] = [a] := split_one a h
      rw [this]; rfl
/-- An instruction whose place is moved. -/
def shI (N : Nat) (x : Ci) : Ci := if jumpI x = true then ⟨x.op, x.n + (N : Nat), x.s⟩ else x
/-- b's state p, and the state q of b's lines behind those of a (state u). -/
structure Jn (u p q : Ps) : Prop where
  l : q.l = u.l ++ p.l
  la : ∀ s k, u.lab.lookup s = some k → q.lab.lookup s = some k
  lb : ∀ s k, p.lab.lookup s = some k → q.lab.lookup s = some (k + u.l.length)
  ask : q.ask.map (fun a => (a.1, a.2.2)) = u.ask.map (fun a => (a.1, a.2.2)) ++ p.ask.map (fun a => (a.1 + u.l.length, a.2.2))
theorem jn0 (u : Ps) : Jn u ps0 u := ⟨by simp [ps0], fun _ _ h => h, fun _ _ h => (by cases h), by simp [ps0]⟩
theorem line_mono (p : Ps) (s : List UInt8) (no : Nat) : p.l.length ≤ (lineF p s no).1.l.length := by
  unfold lineF
  split
  · exact Nat.le_refl _
  · split
    · split
      · exact Nat.le_refl _
      · rename_i q hq
        unfold markF at hq
        split at hq
        · injection hq with hq; subst hq; exact Nat.le_refl _
        · cases hq
    · split
      · exact Nat.le_refl _
      · rename_i q hq
        unfold oneF at hq
        split at hq
        · cases hq
        · injection hq with hq; subst hq
          split
          · exact Nat.le_refl _
          · show p.l.length ≤ (p.l ++ [_]).length
            simp
theorem lines_mono : ∀ (L : List (List UInt8)) (p : Ps) (no : Nat), p.l.length ≤ (linesF p L no).1.l.length
  | [], p, _ => Nat.le_refl _
  | s :: r, p, no => by
    rw [linesF]
    split
    · exact Nat.le_trans (line_mono p s no) (lines_mono r _ _)
    · exact Nat.le_refl _
theorem jn_line {u p q p' : Ps} {s : List UInt8} {no : Nat} (m : Nat) (h : Jn u p q) (hl : lineF p s no = (p', 0)) (hN : u.l.length + p'.l.length ≤ 200) : (lineF q s m).2 = 3 ∨ ((lineF q s m).2 = 0 ∧ Jn u p' (lineF q s m).1) := by
  have hql : q.l.length = u.l.length + p.l.length := by rw [h.l, List.length_append]
  unfold lineF at hl ⊢
  by_cases h0 : bareF s = []
  · rw [if_pos h0] at hl ⊢
    injection hl with hl _
    subst hl
    exact Or.inr ⟨rfl, h⟩
  · rw [if_neg h0] at hl ⊢
    by_cases h1 : [58].isSuffixOf (bareF s) = true
    · rw [if_pos h1] at hl ⊢
      cases hm : markF p (bareF s).dropLast with
      | none => rw [hm] at hl; injection hl with _ hl; cases hl
      | some p2 =>
        rw [hm] at hl
        injection hl with hl _
        subst hl
        cases hm2 : markF q (bareF s).dropLast with
        | none => exact Or.inl rfl
        | some q2 =>
          refine Or.inr ⟨rfl, ?_⟩
          show Jn u p2 q2
          unfold markF at hm hm2
          split at hm
          · injection hm with hm
            split at hm2
            · rename_i k1 k2
              injection hm2 with hm2
              subst hm; subst hm2
              refine ⟨h.l, fun t k ht => ?_, fun t k ht => ?_, h.ask⟩
              · show List.lookup t ((_, _) :: _) = _
                rw [List.lookup_cons]
                cases hb : t == (bareF s).dropLast with
                | true =>
                  rw [eq_of_beq hb] at ht
                  rw [h.la _ _ ht] at k2
                  cases k2.1
                | false => exact h.la _ _ ht
              · have ht : List.lookup t ((_, _) :: _) = _ := ht
                show List.lookup t ((_, _) :: _) = _
                rw [List.lookup_cons] at ht ⊢
                cases hb : t == (bareF s).dropLast with
                | true =>
                  rw [hb] at ht
                  injection ht with ht
                  show some _ = some _
                  rw [← ht, hql, Nat.add_comm]
                | false =>
                  rw [hb] at ht
                  exact h.lb _ _ ht
            · cases hm2
          · cases hm
    · rw [if_neg h1] at hl ⊢
      unfold oneF at hl ⊢
      cases ho : oneI ((bareF s).take (wordAt (bareF s))) (restF (bareF s)) with
      | none => rw [ho] at hl; injection hl with _ hl; cases hl
      | some z =>
        obtain ⟨x, a⟩ := z
        rw [ho] at hl
        simp only at hl ⊢
        by_cases h2 : p.l.length = 200
        · rw [if_pos h2] at hl; injection hl with _ hl; cases hl
        · rw [if_neg h2] at hl
          injection hl with hl _
          subst hl
          have hpl : u.l.length + (p.l.length + 1) ≤ 200 := by simpa using hN
          rw [if_neg (by omega)]
          refine Or.inr ⟨rfl, ?_, h.la, h.lb, ?_⟩
          · show q.l ++ [x] = u.l ++ (p.l ++ [x])
            rw [h.l, List.append_assoc]
          · show List.map _ (if a = true then _ else _) = _ ++ List.map _ (if a = true then _ else _)
            cases a with
            | false => simpa using h.ask
            | true =>
              simp only [if_true, List.map_append, List.map_cons, List.map_nil]
              rw [h.ask, hql, List.append_assoc, Nat.add_comm p.l.length]
theorem jn_lines {u : Ps} : ∀ (L : List (List UInt8)) (p q p' : Ps) (no k m : Nat), Jn u p q → linesF p L no = (p', k, 0) → u.l.length + p'.l.length ≤ 200 → (linesF q L m).2.2 = 3 ∨ ((linesF q L m).2.2 = 0 ∧ Jn u p' (linesF q L m).1)
  | [], p, q, p', no, k, m, h, hl, _ => by
    rw [linesF] at hl
    injection hl with hl _
    subst hl
    exact Or.inr ⟨rfl, h⟩
  | s :: r, p, q, p', no, k, m, h, hl, hN => by
    rw [linesF] at hl
    rw [linesF]
    split at hl
    · rename_i h0
      have hm := lines_mono r (lineF p s no).1 (no + 1)
      rw [hl] at hm
      rcases jn_line (p' := (lineF p s no).1) (no := no) m h (by rw [← h0]) (by simp only at hm; omega) with h3 | ⟨h3, hj⟩
      · rw [if_neg (by rw [h3]; decide)]
        exact Or.inl h3
      · rw [if_pos h3]
        exact jn_lines r _ _ p' (no + 1) k (m + 1) hj hl hN
    · rename_i h0
      injection hl with _ hl
      injection hl with _ hl
      exact absurd hl h0

/-! ### What is asked for -/
theorem res_pr (lab : List (List UInt8 × Nat)) : ∀ (A B : List (Nat × Nat × List UInt8)) (L y : List Ci) (m : Nat), A.map (fun a => (a.1, a.2.2)) = B.map (fun a => (a.1, a.2.2)) → resF lab A L = (y, m, 0) → resF lab B L = (y, m, 0)
  | [], [], L, y, m, _, h => h
  | [], _ :: _, _, _, _, e, _ => by simp at e
  | _ :: _, [], _, _, _, e, _ => by simp at e
  | a :: A, b :: B, L, y, m, e, h => by
    simp only [List.map_cons, List.cons.injEq, Prod.mk.injEq] at e
    obtain ⟨⟨e1, e2⟩, e3⟩ := e
    rw [resF] at h ⊢
    rw [← e1, ← e2]
    split at h
    · injection h with _ h; injection h with _ h; cases h
    · exact res_pr lab A B _ y m e3 h
theorem res_app (lab : List (List UInt8 × Nat)) : ∀ (A B : List (Nat × Nat × List UInt8)) (L y : List Ci) (m : Nat), resF lab A L = (y, m, 0) → resF lab (A ++ B) L = resF lab B y
  | [], B, L, y, m, h => by
    rw [resF] at h
    injection h with h _
    subst h
    rfl
  | a :: A, B, L, y, m, h => by
    rw [resF] at h
    rw [List.cons_append, resF]
    split at h
    · injection h with _ h; injection h with _ h; cases h
    · exact res_app lab A B _ y m h
theorem modify_left (f : Ci → Ci) (r : List Ci) (l : List Ci) (i : Nat) (h : i < l.length) : (l ++ r).modify i f = l.modify i f ++ r := by
  apply List.ext_getElem?
  intro j
  rw [modify_get]
  by_cases hj : j < l.length
  · rw [List.getElem?_append_left hj, List.getElem?_append_left (by rw [List.length_modify]; exact hj), modify_get]
  · rw [List.getElem?_append_right (by omega), List.getElem?_append_right (by rw [List.length_modify]; omega), if_neg (by omega), List.length_modify]
theorem modify_right (f : Ci → Ci) (r : List Ci) (l : List Ci) (i : Nat) : (l ++ r).modify (i + l.length) f = l ++ r.modify i f := by
  apply List.ext_getElem?
  intro j
  rw [modify_get]
  by_cases hj : j < l.length
  · rw [List.getElem?_append_left hj, List.getElem?_append_left hj, if_neg (by omega)]
  · rw [List.getElem?_append_right (by omega), List.getElem?_append_right (by omega), modify_get]
    by_cases e : i = j - l.length
    · rw [if_pos e, if_pos (by omega)]
    · rw [if_neg e, if_neg (by omega)]
theorem res_left {u v : List (List UInt8 × Nat)} (hv : ∀ s k, u.lookup s = some k → v.lookup s = some k) (r : List Ci) : ∀ (A : List (Nat × Nat × List UInt8)) (L y : List Ci) (m : Nat), (∀ a ∈ A, a.1 < L.length) → resF u A L = (y, m, 0) → resF v A (L ++ r) = (y ++ r, 0, 0)
  | [], L, y, m, _, h => by
    rw [resF] at h
    injection h with h _
    subst h
    rfl
  | a :: A, L, y, m, ha, h => by
    rw [resF] at h ⊢
    split at h
    · injection h with _ h; injection h with _ h; cases h
    · rename_i k hk
      rw [hv _ _ hk]
      simp only
      rw [modify_left _ _ _ _ (ha a List.mem_cons_self)]
      exact res_left hv r A _ y m (fun b hb => by rw [List.length_modify]; exact ha b (List.mem_cons_of_mem _ hb)) h
theorem sh_jump (N k : Nat) (z : Ci) (hz : jumpI z = true) : shI N ⟨z.op, (k : Nat), z.s⟩ = ⟨z.op, ((k + N : Nat) : Int), z.s⟩ := by
  unfold shI
  rw [if_pos (show jumpI (⟨z.op, (k : Nat), z.s⟩ : Ci) = true from hz)]
  simp
theorem sh_op (N : Nat) (z : Ci) : (shI N z).op = z.op ∧ (shI N z).s = z.s := by
  unfold shI; split <;> exact ⟨rfl, rfl⟩
theorem res_shift {u v : List (List UInt8 × Nat)} (x : List Ci) (hv : ∀ s k, u.lookup s = some k → v.lookup s = some (k + x.length)) : ∀ (A : List (Nat × Nat × List UInt8)) (L L' y : List Ci) (m : Nat) (D : Nat → Bool), (∀ i, L'[i]? = if D i = true then L[i]?.map (shI x.length) else L[i]?) → (∀ a ∈ A, ∃ z, L[a.1]? = some z ∧ jumpI z = true) → resF u A L = (y, m, 0) →
    ∃ y', resF v (A.map fun a => (a.1 + x.length, a.2.1, a.2.2)) (x ++ L') = (x ++ y', 0, 0) ∧ ∀ i, y'[i]? = if (D i || (A.map (·.1)).contains i) = true then y[i]?.map (shI x.length) else y[i]?
  | [], L, L', y, m, D, hD, _, h => by
    rw [resF] at h
    injection h with h _
    subst h
    exact ⟨L', rfl, fun i => by simpa using hD i⟩
  | a :: A, L, L', y, m, D, hD, ha, h => by
    rw [resF] at h
    rw [List.map_cons, resF]
    split at h
    · injection h with _ h; injection h with _ h; cases h
    · rename_i k hk
      simp only
      rw [hv _ _ hk]
      simp only
      rw [modify_right]
      obtain ⟨z, hz, hzj⟩ := ha a List.mem_cons_self
      obtain ⟨y', h1, h2⟩ := res_shift x hv A (L.modify a.1 fun x => ⟨x.op, (k : Nat), x.s⟩) (L'.modify a.1 fun z => ⟨z.op, ((k + x.length : Nat) : Int), z.s⟩) y m (fun i => D i || i == a.1) (fun i => by
        rw [modify_get, modify_get]
        by_cases hi : a.1 = i
        · subst hi
          rw [if_pos rfl, if_pos rfl, if_pos (by simp), hD, hz]
          simp only [Option.map_some]
          rw [sh_jump _ _ _ hzj]
          split
          · simp only [Option.map_some, (sh_op x.length z).1, (sh_op x.length z).2]
          · rfl
        · rw [if_neg hi, if_neg hi, hD i]
          have : (i == a.1) = false := beq_eq_false_iff_ne.2 (Ne.symm hi)
          rw [this, Bool.or_false]) (fun b hb => by
        obtain ⟨c, hc, hcj⟩ := ha b (List.mem_cons_of_mem _ hb)
        rw [modify_get]
        by_cases hab : a.1 = b.1
        · rw [if_pos hab, hc]; exact ⟨_, rfl, hcj⟩
        · rw [if_neg hab]; exact ⟨c, hc, hcj⟩) h
      refine ⟨y', h1, fun i => ?_⟩
      rw [h2 i, List.map_cons, List.contains_cons, Bool.or_assoc]
theorem res_jump (lab : List (List UInt8 × Nat)) : ∀ (A : List (Nat × Nat × List UInt8)) (L y : List Ci) (m : Nat), resF lab A L = (y, m, 0) → m = 0 ∧ ∀ i : Nat, (y[i]?).map jumpI = (L[i]?).map jumpI
  | [], L, y, m, h => by
    rw [resF] at h
    injection h with h h2
    injection h2 with h2 _
    subst h; subst h2
    exact ⟨rfl, fun _ => rfl⟩
  | a :: A, L, y, m, h => by
    rw [resF] at h
    split at h
    · injection h with _ h; injection h with _ h; cases h
    · obtain ⟨h1, h2⟩ := res_jump lab A _ y m h
      refine ⟨h1, fun i => ?_⟩
      rw [h2 i, modify_get]
      split
      · rw [Option.map_map]; rfl
      · rfl
theorem asm_lines2 {a : List UInt8} {x : List Ci} {n : Nat} (h : asmF a = (x, n, 0)) : ∃ p m, linesF ps0 (Lib.split a [10]) 1 = (p, m, 0) ∧ resF p.lab p.ask p.l = (x, n, 0) ∧ InvP p := by
  unfold asmF at h
  split at h
  · injection h with _ h; injection h with _ h; cases h
  · have hi := lines_inv (Lib.split a [10]) ps0 1 inv0
    split at h
    · rename_i h0
      exact ⟨_, _, by rw [← h0], h, hi⟩
    · rename_i hne
      injection h with _ h; injection h with _ h
      exact absurd h hne
theorem asm_join {a b : List UInt8} {x y : List Ci} {n m : Nat} (ha : asmF a = (x, n, 0)) (hb : asmF b = (y, m, 0)) (hN : x.length + y.length ≤ 200) (h8 : (a ++ 10 :: b).length ≤ 8192) :
    asmF (a ++ 10 :: b) = (x ++ y.map (shI x.length), 0, 0) ∨ ∃ k, asmF (a ++ 10 :: b) = ([], k, 3) := by
  obtain ⟨p, m1, hp, hpr, hpi⟩ := asm_lines2 ha
  obtain ⟨q, m2, hq, hqr, hqi⟩ := asm_lines2 hb
  have hxl := (res_right _ _ _ _ _ hpi.lab hpi.ask (fun y hy => hpi.ok y hy _ (Int.natCast_nonneg _)) hpr).1
  have hyl := (res_right _ _ _ _ _ hqi.lab hqi.ask (fun y hy => hqi.ok y hy _ (Int.natCast_nonneg _)) hqr).1
  unfold asmF
  rw [if_neg (by omega), split_two _ a b (Nat.le_refl _), lines_app _ _ _ p 1 m1 hp]
  rcases jn_lines (u := p) (Lib.split b [10]) ps0 p q 1 m2 (1 + (Lib.split a [10]).length) (jn0 p) hq (by omega) with h3 | ⟨h3, hj⟩
  · rw [if_neg (by rw [h3]; decide), h3]
    exact Or.inr ⟨_, rfl⟩
  · rw [if_pos h3]
    refine Or.inl ?_
    generalize (linesF p (Lib.split b [10]) (1 + (Lib.split a [10]).length)).1 = t at hj
    have e1 := res_left hj.la q.l p.ask p.l x n (fun a ha => by
      obtain ⟨z, hz, _⟩ := hpi.ask a ha
      exact (List.getElem?_eq_some_iff.1 hz).1) hpr
    obtain ⟨y', e2, e3⟩ := res_shift (u := q.lab) (v := t.lab) x (fun s k hs => by rw [hxl]; exact hj.lb s k hs) q.ask q.l q.l y m (fun _ => false) (fun i => by simp) hqi.ask hqr
    have e4 : y' = y.map (shI x.length) := by
      apply List.ext_getElem?
      intro i
      rw [e3 i, List.getElem?_map]
      simp only [Bool.false_or]
      split
      · rfl
      · rename_i hc
        cases hy : y[i]? with
        | none => rfl
        | some z =>
          have h1 := (res_jump _ _ _ _ _ hqr).2 i
          rw [hy] at h1
          cases hl : q.l[i]? with
          | none => rw [hl] at h1; cases h1
          | some w =>
            rw [hl] at h1
            simp only [Option.map_some, Option.some.injEq] at h1
            cases hz : jumpI z with
            | false => simp [shI, hz]
            | true =>
              rw [hz] at h1
              obtain ⟨c, hc1, hc2⟩ := hqi.jmp i w hl h1.symm
              exact absurd (by rw [List.contains_iff_mem]; exact List.mem_map.2 ⟨c, hc1, hc2⟩) hc
    rw [← e4, hj.l]
    refine res_pr _ (p.ask ++ q.ask.map fun a => (a.1 + x.length, a.2.1, a.2.2)) _ _ _ _ ?_ ?_
    · rw [hj.ask, List.map_append, List.map_map, hxl]; rfl
    · rw [res_app _ _ _ _ _ _ e1]
      exact e2
end Go.Proofs.YtigdfkpkogompaaDoor
