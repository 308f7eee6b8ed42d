/-
  A program's text is assembled as that program: the plain law's end.
-/
import Derived.Test.YtigdfkpkogompaaDoorAsP
namespace Go.Proofs.YtigdfkpkogompaaDoor

theorem split_endL : ∀ L : List (List UInt8), (∀ x ∈ L, (10 : UInt8) ∉ x) → Lib.split (endL L) [10] = L ++ [[]]
  | [], _ => split_nil 10
  | x :: L, h => by
    have e : endL (x :: L) = x ++ 10 :: endL L := by simp [endL]
    rw [e, split_app _ x (h x List.mem_cons_self), split_endL L (fun y hy => h y (List.mem_cons_of_mem _ hy))]
    rfl
theorem lines_app : ∀ (A B : List (List UInt8)) (p q : Ps) (no m : Nat), linesF p A no = (q, m, 0) → linesF p (A ++ B) no = linesF q B (no + A.length)
  | [], B, p, q, no, m, h => by
    rw [linesF] at h
    injection h with h1 _
    subst h1
    rfl
  | s :: A, B, p, q, no, m, h => by
    rw [linesF] at h
    rw [List.cons_append, linesF]
    by_cases he : (lineF p s no).2 = 0
    · rw [if_pos he] at h ⊢
      rw [lines_app A B _ q (no + 1) m h, List.length_cons]
      congr 1; omega
    · rw [if_neg he] at h
      injection h with _ h
      injection h with _ h
      exact absurd h he
def asksOf (l : List Ci) : Nat → List (Nat × List UInt8)
  | 0 => []
  | i + 1 => asksOf l i ++ (match l[i]? with | some x => (if jumpI x = true then [(i, argF x)] else []) | none => [])
theorem asksOf_mem {l : List Ci} : ∀ {i : Nat} {a : Nat × List UInt8}, a ∈ asksOf l i → ∃ x, l[a.1]? = some x ∧ jumpI x = true ∧ a.2 = argF x
  | 0, a, h => nomatch h
  | i + 1, a, h => by
    rw [asksOf] at h
    rcases List.mem_append.1 h with h | h
    · exact asksOf_mem h
    · cases e : l[i]? with
      | none => rw [e] at h; cases h
      | some x =>
        rw [e] at h
        simp only at h
        split at h
        · rename_i hj
          obtain rfl := List.mem_singleton.1 h
          exact ⟨x, e, hj, rfl⟩
        · cases h
theorem asksOf_has {l : List Ci} : ∀ {i j : Nat} {x : Ci}, j < i → l[j]? = some x → jumpI x = true → (j, argF x) ∈ asksOf l i
  | 0, j, x, h, _, _ => absurd h (Nat.not_lt_zero _)
  | i + 1, j, x, h, hx, hj => by
    rw [asksOf]
    rcases Nat.lt_succ_iff_lt_or_eq.1 h with h | rfl
    · exact List.mem_append_left _ (asksOf_has h hx hj)
    · refine List.mem_append_right _ ?_
      rw [hx]
      simp only [hj, if_true]
      exact List.mem_singleton.2 rfl
/-- What is assembled of the lines of the first places. -/
structure SI (l : List Ci) (i : Nat) (p : Ps) : Prop where
  ll : p.l = (l.take i).map jumpZ
  lab : ∀ k, p.lab.lookup (namF k) = if k < i ∧ isPl l k = true then some k else none
  ask : p.ask.map (fun a => (a.1, a.2.2)) = asksOf l i
theorem si0 (l : List Ci) : SI l 0 ps0 := ⟨rfl, fun k => by rw [if_neg (by omega)]; rfl, rfl⟩
theorem one_line {p q : Ps} {s : List UInt8} {no : Nat} (h : lineF p s no = (q, 0)) : linesF p [s] no = (q, 0, 0) := by
  rw [linesF, h]; rfl
theorem si_lab {l : List Ci} {i no : Nat} {p : Ps} (h : SI l i p) (hi : i ≤ l.length) : ∃ q, linesF p (if isPl l i = true then [namF i ++ [58]] else []) no = (q, 0, 0) ∧ q.l = p.l ∧ q.ask = p.ask ∧ ∀ k, q.lab.lookup (namF k) = if k < i + 1 ∧ isPl l k = true then some k else none := by
  have hpl : p.l.length = i := by rw [h.ll]; simp; omega
  cases hp : isPl l i with
  | false =>
    rw [if_neg (by simp)]
    refine ⟨p, rfl, rfl, rfl, fun k => ?_⟩
    rw [h.lab k]
    by_cases hk : k = i
    · subst hk; rw [hp]; simp
    · by_cases h2 : k < i
      · simp [h2, show k < i + 1 by omega]
      · rw [if_neg (by omega), if_neg (by omega)]
  | true =>
    rw [if_pos rfl]
    have hn : p.lab.lookup (namF i) = none := by rw [h.lab i, if_neg (by omega)]
    refine ⟨_, one_line (line_lab hn), rfl, rfl, fun k => ?_⟩
    rw [List.lookup_cons]
    by_cases hk : k = i
    · subst hk
      rw [beq_self_eq_true, hp, if_pos ⟨Nat.lt_succ_self _, rfl⟩, hpl]
    · have : (namF k == namF i) = false := beq_eq_false_iff_ne.2 (fun e => hk (nam_inj e))
      rw [this]
      simp only
      rw [h.lab k]
      by_cases h2 : k < i
      · simp [h2, show k < i + 1 by omega]
      · rw [if_neg (by omega), if_neg (by omega)]
theorem si_step {l : List Ci} {i no : Nat} {p : Ps} (h : SI l i p) (hi : i ≤ l.length) (hl : l.length ≤ 200) (hr : ∀ x ∈ l, rightI x (l.length : Nat) = true) : ∃ q, linesF p (prAt l i) no = (q, 0, 0) ∧ SI l (i + 1) q := by
  obtain ⟨q, h1, h2, h3, h4⟩ := si_lab (no := no) h hi
  unfold prAt
  rw [lines_app _ _ _ q no 0 h1]
  cases e : l[i]? with
  | none =>
    have hil : l.length ≤ i := List.getElem?_eq_none_iff.1 e
    refine ⟨q, rfl, ?_, h4, ?_⟩
    · rw [h2, h.ll, List.take_of_length_le hil, List.take_of_length_le (by omega)]
    · rw [h3, h.ask, asksOf, e]; simp
  | some x =>
    have hxr := hr x (List.mem_of_getElem? e)
    have hil := (List.getElem?_eq_some_iff.1 e).1
    have hql : q.l.length = i := by rw [h2, h.ll]; simp; omega
    obtain ⟨ask, h5, h6⟩ := line_ins (p := q) (no := no + (if isPl l i = true then [namF i ++ [58]] else []).length) hxr (by omega) (by omega)
    refine ⟨_, one_line h5, ?_, h4, ?_⟩
    · show q.l ++ [jumpZ x] = _
      rw [h2, h.ll, List.take_add_one, e]; simp
    · show ask.map _ = _
      rw [h6, asksOf, e, h3]
      simp only
      cases hj : jumpI x with
      | false => simpa using h.ask
      | true => simp [h.ask, hql]
theorem si_all {l : List Ci} (hl : l.length ≤ 200) (hr : ∀ x ∈ l, rightI x (l.length : Nat) = true) : ∀ i, i ≤ l.length + 1 → ∃ q, linesF ps0 (prN l i) 1 = (q, 0, 0) ∧ SI l i q
  | 0, _ => ⟨ps0, rfl, si0 l⟩
  | i + 1, hi => by
    obtain ⟨q, h1, h2⟩ := si_all hl hr i (by omega)
    obtain ⟨q2, h3, h4⟩ := si_step (no := 1 + (prN l i).length) h2 (by omega) hl hr
    refine ⟨q2, ?_, h4⟩
    have e : prN l (i + 1) = prN l i ++ prAt l i := by
      unfold prN
      rw [List.range_succ, List.flatMap_append]; simp
    rw [e, lines_app _ _ _ q 1 0 h1, h3]
/-- Numbers laid at places. -/
def setN (N : Nat → Nat) (S : List Nat) (L : List Ci) : List Ci := S.foldl (fun L i => L.modify i fun x => ⟨x.op, (N i : Nat), x.s⟩) L
theorem setN_get (N : Nat → Nat) : ∀ (S : List Nat) (L : List Ci) (j : Nat), (setN N S L)[j]? = if j ∈ S then L[j]?.map (fun x => ⟨x.op, (N j : Nat), x.s⟩) else L[j]?
  | [], L, j => by simp [setN]
  | i :: S, L, j => by
    have e : setN N (i :: S) L = setN N S (L.modify i fun x => ⟨x.op, (N i : Nat), x.s⟩) := rfl
    rw [e, setN_get N S, modify_get]
    by_cases hij : i = j
    · subst hij
      rw [if_pos rfl]
      by_cases hm : i ∈ S
      · rw [if_pos hm, if_pos (List.mem_cons_of_mem _ hm), Option.map_map]; rfl
      · rw [if_neg hm, if_pos List.mem_cons_self]
    · rw [if_neg hij]
      by_cases hm : j ∈ S
      · rw [if_pos hm, if_pos (List.mem_cons_of_mem _ hm)]
      · rw [if_neg hm, if_neg (fun h => by rcases List.mem_cons.1 h with h | h; exact hij h.symm; exact hm h)]
theorem res_set (lab : List (List UInt8 × Nat)) (N : Nat → Nat) : ∀ (A : List (Nat × Nat × List UInt8)) (L : List Ci), (∀ a ∈ A, lab.lookup a.2.2 = some (N a.1)) → resF lab A L = (setN N (A.map (·.1)) L, 0, 0)
  | [], L, _ => rfl
  | a :: A, L, h => by
    rw [resF, h a List.mem_cons_self]
    simp only
    rw [res_set lab N A _ (fun b hb => h b (List.mem_cons_of_mem _ hb))]
    rfl
theorem print_back {l : List Ci} (hl : l.length ≤ 200) (hr : ∀ x ∈ l, rightI x (l.length : Nat) = true) (h8 : (prF l).length ≤ 8192) : asmF (prF l) = (l, 0, 0) := by
  obtain ⟨q, h1, h2⟩ := si_all hl hr (l.length + 1) (Nat.le_refl _)
  have hsp : Lib.split (prF l) [10] = prN l (l.length + 1) ++ [[]] := by
    refine split_endL _ (fun x hx => ?_)
    unfold prN at hx
    obtain ⟨i, _, hx⟩ := List.mem_flatMap.1 hx
    unfold prAt at hx
    rcases List.mem_append.1 hx with hx | hx
    · split at hx
      · obtain rfl := List.mem_singleton.1 hx
        intro hm
        rcases List.mem_append.1 hm with hm | hm
        · exact sm_not (nam_sm i _ hm) 10 rfl rfl
        · simp at hm
      · cases hx
    · cases e : l[i]? with
      | none => rw [e] at hx; cases hx
      | some y =>
        rw [e] at hx
        obtain rfl := List.mem_singleton.1 hx
        exact fun hm => (ins_chars (hr y (List.mem_of_getElem? e)) (by omega) 10 hm).2 rfl
  have hls : linesF ps0 (Lib.split (prF l) [10]) 1 = (q, 0, 0) := by
    rw [hsp, lines_app _ _ _ q 1 0 h1]
    exact one_line (by unfold lineF; rw [if_pos (by decide)])
  unfold asmF
  rw [if_neg (by omega), hls, if_pos rfl]
  have hN : ∀ a ∈ q.ask, q.lab.lookup a.2.2 = some (l.getD a.1 default).n.toNat := fun a ha => by
    have hm : (a.1, a.2.2) ∈ asksOf l (l.length + 1) := by rw [← h2.ask]; exact List.mem_map_of_mem (f := fun a : Nat × Nat × List UInt8 => (a.1, a.2.2)) ha
    obtain ⟨x, hx, hj, he⟩ := asksOf_mem hm
    have hxr := hr x (List.mem_of_getElem? hx)
    obtain ⟨_, hp2, _⟩ := right_parts hxr (by omega)
    have hxn : x.n ≤ (l.length : Nat) := by
      unfold rightI at hxr
      unfold jumpI at hj
      simp only [Bool.or_eq_true, beq_iff_eq] at hj
      rcases hj with hj | hj <;> · simp [hj] at hxr; omega
    have ha2 : argF x = namF x.n.toNat := by
      unfold argF
      unfold jumpI at hj
      simp only [Bool.or_eq_true, beq_iff_eq] at hj
      rw [if_neg (by omega), if_neg (by omega), if_pos hj]
    have hg : l.getD a.1 default = x := by
      simp only at hx
      rw [List.getD_eq_getElem?_getD, hx]; rfl
    simp only at he
    rw [he, ha2, h2.lab, hg, if_pos]
    refine ⟨by omega, ?_⟩
    unfold isPl
    rw [List.any_eq_true]
    refine ⟨x, List.mem_of_getElem? hx, ?_⟩
    rw [hj]
    simp; omega
  rw [res_set q.lab (fun j => (l.getD j default).n.toNat) q.ask q.l hN]
  congr 1
  apply List.ext_getElem?
  intro j
  rw [setN_get, h2.ll, List.take_of_length_le (Nat.le_succ _), List.getElem?_map]
  cases e : l[j]? with
  | none => simp
  | some x =>
    have hmem : j ∈ q.ask.map (·.1) ↔ jumpI x = true := by
      constructor
      · intro hm
        obtain ⟨a, ha, rfl⟩ := List.mem_map.1 hm
        have hm2 : (a.1, a.2.2) ∈ asksOf l (l.length + 1) := by rw [← h2.ask]; exact List.mem_map_of_mem (f := fun a : Nat × Nat × List UInt8 => (a.1, a.2.2)) ha
        obtain ⟨y, hy, hj, _⟩ := asksOf_mem hm2
        simp only at hy
        rw [e] at hy
        injection hy with hy
        rw [hy]; exact hj
      · intro hj
        have h5 := asksOf_has (i := l.length + 1) (by have := (List.getElem?_eq_some_iff.1 e).1; omega) e hj
        rw [← h2.ask] at h5
        obtain ⟨a, ha, he⟩ := List.mem_map.1 h5
        injection he with he _
        exact List.mem_map.2 ⟨a, ha, he⟩
    cases hj : jumpI x with
    | true =>
      rw [if_pos (hmem.2 hj)]
      obtain ⟨_, hp2, _⟩ := right_parts (hr x (List.mem_of_getElem? e)) (by omega)
      have hg : l.getD j default = x := by rw [List.getD_eq_getElem?_getD, e]; rfl
      rw [hg]
      simp only [Option.map_some, jumpZ, hj, if_true]
      congr 1
      rw [Int.toNat_of_nonneg hp2.1]
    | false =>
      rw [if_neg (fun h => by rw [hmem.1 h] at hj; cases hj)]
      simp [jumpZ, hj]
end Go.Proofs.YtigdfkpkogompaaDoor
