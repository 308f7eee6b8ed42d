/-
  The codec's values as plain data, and what the chapter's functions answer.
-/
import Derived.Lib.ItoaMem
import Derived.Lib.AtoiAllCases
namespace Go.Proofs.YtbnmbncjefnpiaaDoor

/-- A value: kind, number, bytes, list. -/
inductive Vc where
  | mk (k n : Int) (b : List Nat) (l : List Vc)
namespace Vc
def k : Vc → Int | .mk k _ _ _ => k
def n : Vc → Int | .mk _ n _ _ => n
def b : Vc → List Nat | .mk _ _ b _ => b
def l : Vc → List Vc | .mk _ _ _ l => l
end Vc
theorem Vc.ind_ {p : Vc → Prop} (h : ∀ k n b l, (∀ x ∈ l, p x) → p (.mk k n b l)) (v : Vc) : p v :=
  Vc.rec (motive_1 := p) (motive_2 := fun l => ∀ x ∈ l, p x) (fun k n b l ih => h k n b l ih) (fun _ hx => nomatch hx)
    (fun a r ha hr x hx => by rcases List.mem_cons.1 hx with e | hx; · exact e ▸ ha
                              · exact hr x hx) v

/-! ### How deep, a copy -/
mutual
def depV : Vc → Nat
  | .mk k _ _ l => if k = 2 then depL l + 1 else 0
def depL : List Vc → Nat
  | [] => 0
  | x :: r => max (depV x) (depL r)
end
def depN : Nat → Vc → Nat
  | 0, v => if v.k = 2 then 1 else 0
  | m + 1, v => if v.k = 2 then (v.l.map (depN m)).foldl max 0 + 1 else 0
theorem foldl_max_min (m : Nat) (f : Vc → Nat) : ∀ (l : List Vc) (a : Nat), (∀ x ∈ l, f x = min (depV x) m) → a ≤ m → (l.map f).foldl max a = min (max a (depL l)) m
  | [], a, _, ha => by simp [depL]; omega
  | x :: r, a, h, ha => by
    have hx := h x (List.mem_cons_self ..)
    rw [List.map_cons, List.foldl_cons, foldl_max_min m f r (max a (f x)) (fun y hy => h y (List.mem_cons_of_mem _ hy)) (by omega), hx, depL]
    omega
theorem depN_eq : ∀ (m : Nat) (v : Vc), depN m v = min (depV v) (m + 1)
  | 0, .mk k n b l => by
    show (if k = 2 then 1 else 0) = _
    by_cases hk : k = 2
    · simp only [hk, if_true, depV]; omega
    · simp only [hk, if_false, depV]; omega
  | m + 1, .mk k n b l => by
    show (if k = 2 then (l.map (depN m)).foldl max 0 + 1 else 0) = _
    by_cases hk : k = 2
    · simp only [hk, if_true, depV]; rw [foldl_max_min (m + 1) (depN m) l 0 (fun x _ => depN_eq m x) (by omega)]; omega
    · simp only [hk, if_false, depV]; omega
def copN : Nat → Vc → Vc
  | 0, v => .mk v.k v.n v.b []
  | m + 1, v => .mk v.k v.n v.b (v.l.map (copN m))

/-! ### What is wrong -/
def kindB (k n : Int) (b : List Nat) (l : List Vc) : Bool :=
  if k = 0 then b.isEmpty && l.isEmpty else if k = 1 then n == 0 && l.isEmpty else if k = 2 then n == 0 && b.isEmpty else false
mutual
def chkV : Vc → Nat → Int
  | .mk k n b l, d => if kindB k n b l = false then 17 else if k = 2 ∧ 8 < d then 18 else chkL l (d + 1)
def chkL : List Vc → Nat → Int
  | [], _ => 0
  | x :: r, d => if chkV x d = 0 then chkL r d else chkV x d
end
mutual
/-- None of a wrong kind. -/
def allV : Vc → Bool
  | .mk k n b l => kindB k n b l && allL l
def allL : List Vc → Bool
  | [] => true
  | x :: r => allV x && allL r
end
theorem kind_leaf {k n : Int} {b : List Nat} {l : List Vc} (h : kindB k n b l = true) (hk : k ≠ 2) : l = [] := by
  unfold kindB at h
  split at h
  · simp at h; exact h.2
  · split at h
    · simp at h; exact h.2
    · first | (rw [if_neg hk] at h; cases h) | cases h
theorem kind_zero {k n : Int} {b : List Nat} {l : List Vc} (h : kindB k n b l = true) : k = 0 ∨ k = 1 ∨ k = 2 := by
  unfold kindB at h
  split at h
  · left; assumption
  · split at h
    · right; left; assumption
    · split at h
      · right; right; assumption
      · cases h
theorem allL_mem : ∀ {l : List Vc}, allL l = true → ∀ x ∈ l, allV x = true
  | [], _, x, hx => nomatch hx
  | y :: r, h, x, hx => by
    simp only [allL, Bool.and_eq_true] at h
    rcases List.mem_cons.1 hx with rfl | hx
    · exact h.1
    · exact allL_mem h.2 x hx
theorem depL_mem : ∀ {l : List Vc}, ∀ x ∈ l, depV x ≤ depL l
  | [], x, hx => nomatch hx
  | y :: r, x, hx => by
    simp only [depL]
    rcases List.mem_cons.1 hx with rfl | hx
    · omega
    · have := depL_mem x hx; omega
/-- Nothing is wrong just if no kind is wrong and it is not too deep. -/
theorem chkL_of (d : Nat) : ∀ (l : List Vc), (∀ x ∈ l, (allV x = true → d + depV x ≤ 9 → chkV x d = 0) ∧ (allV x = true → ¬ d + depV x ≤ 9 → chkV x d = 18)) →
    (allL l = true → d + depL l ≤ 9 → chkL l d = 0) ∧ (allL l = true → ¬ d + depL l ≤ 9 → d ≤ 9 → chkL l d = 18)
  | [], _ => ⟨fun _ _ => rfl, fun _ h hd => by simp [depL] at h; omega⟩
  | x :: r, h => by
    have hx := h x (List.mem_cons_self ..)
    have hr := chkL_of d r fun y hy => h y (List.mem_cons_of_mem _ hy)
    refine ⟨fun ha hd => ?_, fun ha hd h9 => ?_⟩
    · simp only [allL, Bool.and_eq_true] at ha
      simp only [depL] at hd
      rw [chkL, hx.1 ha.1 (by omega), if_pos rfl]
      exact hr.1 ha.2 (by omega)
    · simp only [allL, Bool.and_eq_true] at ha
      simp only [depL] at hd
      by_cases hdx : d + depV x ≤ 9
      · rw [chkL, hx.1 ha.1 hdx, if_pos rfl]
        exact hr.2 ha.2 (by omega) h9
      · rw [chkL, hx.2 ha.1 hdx]; rfl
theorem chk_of (v : Vc) : ∀ d : Nat, d ≤ 9 → (allV v = true → d + depV v ≤ 9 → chkV v d = 0) ∧ (allV v = true → ¬ d + depV v ≤ 9 → chkV v d = 18) := by
  induction v using Vc.ind_ with
  | h k n b l ih =>
    intro d hd
    refine ⟨fun ha hp => ?_, fun ha hp => ?_⟩
    · simp only [allV, Bool.and_eq_true] at ha
      rw [chkV, if_neg (by rw [ha.1]; simp)]
      by_cases hk : k = 2
      · simp only [depV, hk, if_true] at hp
        rw [if_neg (by omega)]
        refine (chkL_of (d + 1) l fun x hx => ih x hx (d + 1) (by omega)).1 ha.2 (by omega)
      · rw [if_neg (by simp [hk]), kind_leaf ha.1 hk]; rfl
    · simp only [allV, Bool.and_eq_true] at ha
      rw [chkV, if_neg (by rw [ha.1]; simp)]
      by_cases hk : k = 2
      · simp only [depV, hk, if_true] at hp
        by_cases h8 : 8 < d
        · rw [if_pos ⟨hk, h8⟩]
        · rw [if_neg (by omega)]
          exact (chkL_of (d + 1) l fun x hx => ih x hx (d + 1) (by omega)).2 ha.2 (by omega) (by omega)
      · simp only [depV, hk, if_false] at hp; omega
/-- .. and if something is, it is one of the two. -/
theorem chkL_or (d : Nat) : ∀ (l : List Vc), (∀ x ∈ l, (chkV x d = 0 ∧ allV x = true) ∨ chkV x d = 17 ∨ (chkV x d = 18 ∧ 9 < d + depV x)) →
    (chkL l d = 0 ∧ allL l = true) ∨ chkL l d = 17 ∨ (chkL l d = 18 ∧ 9 < d + depL l)
  | [], _ => .inl ⟨rfl, rfl⟩
  | x :: r, h => by
    rcases h x (List.mem_cons_self ..) with ⟨e, ha⟩ | e | ⟨e, hd⟩
    · rw [chkL, e, if_pos rfl]
      rcases chkL_or d r fun y hy => h y (List.mem_cons_of_mem _ hy) with ⟨h1, h2⟩ | h1 | ⟨h1, h2⟩
      · exact .inl ⟨h1, by simp [allL, ha, h2]⟩
      · exact .inr (.inl h1)
      · exact .inr (.inr ⟨h1, by simp only [depL]; omega⟩)
    · rw [chkL, e]; exact .inr (.inl rfl)
    · rw [chkL, e]; exact .inr (.inr ⟨rfl, by simp only [depL]; omega⟩)
theorem chk_or (v : Vc) : ∀ d : Nat, (chkV v d = 0 ∧ allV v = true) ∨ chkV v d = 17 ∨ (chkV v d = 18 ∧ 9 < d + depV v) := by
  induction v using Vc.ind_ with
  | h k n b l ih =>
    intro d
    rw [chkV]
    by_cases hk : kindB k n b l = false
    · rw [if_pos hk]; exact .inr (.inl rfl)
    · rw [if_neg hk]
      have hk' : kindB k n b l = true := by simpa using hk
      by_cases h2 : k = 2 ∧ 8 < d
      · rw [if_pos h2]; exact .inr (.inr ⟨rfl, by simp only [depV, h2.1, if_true]; omega⟩)
      · rw [if_neg h2]
        rcases chkL_or (d + 1) l fun x hx => ih x hx (d + 1) with ⟨h1, h3⟩ | h1 | ⟨h1, h3⟩
        · exact .inl ⟨h1, by simp [allV, hk', h3]⟩
        · exact .inr (.inl h1)
        · refine .inr (.inr ⟨h1, ?_⟩)
          by_cases hk2 : k = 2
          · simp only [depV, hk2, if_true]; omega
          · rw [kind_leaf hk' hk2] at h1; simp [chkL] at h1
theorem copN_all : ∀ (m : Nat) (v : Vc), allV v = true → depV v ≤ m → copN m v = v
  | 0, .mk k n b l, ha, hd => by
    simp only [allV, Bool.and_eq_true] at ha
    have hk : k ≠ 2 := fun h => by simp [depV, h] at hd
    rw [kind_leaf ha.1 hk]; rfl
  | m + 1, .mk k n b l, ha, hd => by
    simp only [allV, Bool.and_eq_true] at ha
    show Vc.mk k n b (l.map (copN m)) = _
    congr 1
    by_cases hk : k = 2
    · simp only [depV, hk, if_true] at hd
      have : l.map (copN m) = l.map id := List.map_congr_left fun x hx => copN_all m x (allL_mem ha.2 x hx) (by have := depL_mem x hx; omega)
      rw [this]; simp
    · rw [kind_leaf ha.1 hk]; rfl

/-! ### The same -/
mutual
def eqV : Vc → Vc → Bool
  | .mk k n b l, .mk k' n' b' l' => (k == k') && ((n == n') && ((b == b') && eqVs l l'))
def eqVs : List Vc → List Vc → Bool
  | [], [] => true
  | [], _ :: _ => false
  | _ :: _, [] => false
  | x :: r, y :: s => eqV x y && eqVs r s
end
theorem eqVs_iff : ∀ (l m : List Vc), (∀ x ∈ l, ∀ y, eqV x y = true ↔ x = y) → (eqVs l m = true ↔ l = m)
  | [], [], _ => by simp [eqVs]
  | [], y :: s, _ => by simp [eqVs]
  | x :: r, [], _ => by simp [eqVs]
  | x :: r, y :: s, h => by
    rw [eqVs, Bool.and_eq_true, h x (List.mem_cons_self ..), eqVs_iff r s fun z hz => h z (List.mem_cons_of_mem _ hz)]
    simp
theorem eqV_iff (v : Vc) : ∀ w, eqV v w = true ↔ v = w := by
  induction v using Vc.ind_ with
  | h k n b l ih =>
    rintro ⟨k', n', b', l'⟩
    rw [eqV, Bool.and_eq_true, Bool.and_eq_true, Bool.and_eq_true, eqVs_iff l l' ih]
    simp

/-! ### In lists -/
def atV : Vc → List Int → Option Vc
  | v, [] => some v
  | v, i :: p => if v.k = 2 ∧ 0 ≤ i ∧ i < v.l.length then (match v.l[i.toNat]? with | some x => atV x p | none => none) else none

/-! ### As bytes -/
def itN (n : Int) : List Nat := (Lib.itoa n).map (·.toNat)
mutual
def encV : Vc → List Nat
  | .mk k n b l => if k = 0 then 105 :: (itN n ++ [59]) else if k = 1 then itN b.length ++ 58 :: b else if k = 2 then 40 :: (encL l ++ [41]) else []
def encL : List Vc → List Nat
  | [] => []
  | x :: r => encV x ++ encL r
end
theorem encL_flat : ∀ l : List Vc, encL l = (l.map encV).flatten
  | [] => rfl
  | x :: r => by rw [encL, encL_flat r]; simp
theorem encL_app : ∀ l m : List Vc, encL (l ++ m) = encL l ++ encL m
  | [], m => rfl
  | x :: r, m => by show encV x ++ encL (r ++ m) = _; rw [encL_app r m, encL, List.append_assoc]

end Go.Proofs.YtbnmbncjefnpiaaDoor
