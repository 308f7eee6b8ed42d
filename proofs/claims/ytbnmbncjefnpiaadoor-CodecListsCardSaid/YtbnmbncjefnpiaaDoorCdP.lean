/-
  Plain: a number's digits; bytes that tell their value.
-/
import Derived.Test.YtbnmbncjefnpiaaDoorCdL
namespace Go.Proofs.YtbnmbncjefnpiaaDoor

def dgN (u : Nat) : List Nat := (Lib.decDigits u).map (·.toNat)
theorem dgN_small {u : Nat} (h : u < 10) : dgN u = [48 + u] := by
  unfold dgN
  rw [Lib.decDigits, dif_pos h]
  simp
  omega
theorem dgN_big {u : Nat} (h : ¬ u < 10) : dgN u = dgN (u / 10) ++ [48 + u % 10] := by
  unfold dgN
  rw [Lib.decDigits, dif_neg h]
  simp
  omega
theorem dgN_dig (u : Nat) : ∀ x ∈ dgN u, isDg x = true := by
  induction u using Nat.strongRecOn with
  | _ u ih =>
    intro x hx
    by_cases h : u < 10
    · rw [dgN_small h] at hx
      obtain rfl : x = 48 + u := by simpa using hx
      unfold isDg
      rw [decide_eq_true (by omega), decide_eq_true (by omega)]; rfl
    · rw [dgN_big h] at hx
      rcases List.mem_append.1 hx with hx | hx
      · exact ih (u / 10) (by omega) x hx
      · obtain rfl : x = 48 + u % 10 := by simpa using hx
        unfold isDg
        rw [decide_eq_true (by omega), decide_eq_true (by omega)]; rfl
/-- What the digits spell. -/
def spellN (l : List Nat) : Nat := l.foldl (fun a x => a * 10 + (x - 48)) 0
theorem spell_dgN (u : Nat) : spellN (dgN u) = u := by
  induction u using Nat.strongRecOn with
  | _ u ih =>
    by_cases h : u < 10
    · rw [dgN_small h]; simp [spellN]
    · rw [dgN_big h]
      have := ih (u / 10) (by omega)
      unfold spellN at this ⊢
      rw [List.foldl_append, this]
      simp
      omega
theorem dgN_ne (u : Nat) : dgN u ≠ [] := by
  by_cases h : u < 10
  · rw [dgN_small h]; simp
  · rw [dgN_big h]; simp
theorem itN_eq (n : Int) : itN n = if n < 0 then 45 :: dgN n.natAbs else dgN n.toNat := by
  unfold itN Lib.itoa dgN
  split <;> simp
/-- A run of digits ahead of something that is none. -/
theorem runD_app : ∀ (l r : List Nat), (∀ x ∈ l, isDg x = true) → (∀ x, r.head? = some x → isDg x = false) → runD (l ++ r) = l.length
  | [], [], _, _ => rfl
  | [], y :: r, _, h => by
    have := h y rfl
    show runD (y :: r) = 0
    rw [runD, if_neg (by rw [this]; simp)]
  | x :: l, r, h1, h2 => by
    show runD (x :: (l ++ r)) = _
    rw [runD, if_pos (h1 x (List.mem_cons_self ..)), runD_app l r (fun y hy => h1 y (List.mem_cons_of_mem _ hy)) h2]
    rfl
theorem dig_split {l m r s : List Nat} (hl : ∀ x ∈ l, isDg x = true) (hm : ∀ x ∈ m, isDg x = true) (hr : ∀ x, r.head? = some x → isDg x = false) (hs : ∀ x, s.head? = some x → isDg x = false) (h : l ++ r = m ++ s) : l = m ∧ r = s := by
  have h1 := runD_app l r hl hr
  rw [h, runD_app m s hm hs] at h1
  have h2 := List.append_inj h h1.symm
  exact h2

theorem dg_head (u : Nat) : ∃ x t, dgN u = x :: t ∧ 48 ≤ x ∧ x ≤ 57 := by
  have h := dgN_dig u
  cases e : dgN u with
  | nil => exact absurd e (dgN_ne u)
  | cons x t =>
    refine ⟨x, t, rfl, ?_⟩
    have := h x (by rw [e]; exact List.mem_cons_self ..)
    unfold isDg at this
    simpa using this
theorem itN_split {n m : Int} {c : Nat} {r s : List Nat} (hc : isDg c = false) (h : itN n ++ c :: r = itN m ++ c :: s) : n = m ∧ r = s := by
  have key : ∀ a b : Nat, dgN a ++ c :: r = dgN b ++ c :: s → a = b ∧ r = s := fun a b h => by
    have h2 := dig_split (dgN_dig a) (dgN_dig b) (fun x hx => by injection hx with hx; rw [← hx]; exact hc) (fun x hx => by injection hx with hx; rw [← hx]; exact hc) h
    refine ⟨?_, by injection h2.2⟩
    rw [← spell_dgN a, ← spell_dgN b, h2.1]
  rw [itN_eq, itN_eq] at h
  by_cases hn : n < 0 <;> by_cases hm : m < 0
  · rw [if_pos hn, if_pos hm] at h
    injection h with _ h
    have := key _ _ h
    exact ⟨by omega, this.2⟩
  · rw [if_pos hn, if_neg hm] at h
    obtain ⟨x, t, e, h1, h2⟩ := dg_head m.toNat
    rw [e] at h
    injection h with h _
    omega
  · rw [if_neg hn, if_pos hm] at h
    obtain ⟨x, t, e, h1, h2⟩ := dg_head n.toNat
    rw [e] at h
    injection h with h _
    omega
  · rw [if_neg hn, if_neg hm] at h
    have := key _ _ h
    exact ⟨by omega, this.2⟩
theorem it_head (k : Nat) : ∃ x t, itN k = x :: t ∧ 48 ≤ x ∧ x ≤ 57 := by
  rw [itN_eq, if_neg (by omega)]
  exact dg_head _
theorem enc_head {v : Vc} (h : allV v = true) : ∃ x t, encV v = x :: t ∧ ((v.k = 0 ∧ x = 105) ∨ (v.k = 1 ∧ 48 ≤ x ∧ x ≤ 57) ∨ (v.k = 2 ∧ x = 40)) := by
  obtain ⟨k, n, b, l⟩ := v
  simp only [allV, Bool.and_eq_true] at h
  rcases kind_zero h.1 with rfl | rfl | rfl
  · exact ⟨105, _, by rw [encV, if_pos rfl], .inl ⟨rfl, rfl⟩⟩
  · obtain ⟨x, t, e, h1, h2⟩ := it_head b.length
    exact ⟨x, t ++ 58 :: b, by rw [encV, if_neg (by decide), if_pos rfl, e]; rfl, .inr (.inl ⟨rfl, h1, h2⟩)⟩
  · exact ⟨40, _, by rw [encV, if_neg (by decide), if_neg (by decide), if_pos rfl], .inr (.inr ⟨rfl, rfl⟩)⟩
theorem encL_split : ∀ (l m : List Vc) (r s : List Nat), allL l = true → allL m = true → (∀ x ∈ l, ∀ (w : Vc) (r s : List Nat), allV x = true → allV w = true → encV x ++ r = encV w ++ s → x = w ∧ r = s) →
    encL l ++ 41 :: r = encL m ++ 41 :: s → l = m ∧ r = s
  | [], [], r, s, _, _, _, h => ⟨rfl, by simpa [encL] using h⟩
  | [], y :: m, r, s, _, hm, _, h => by
    simp only [allL, Bool.and_eq_true] at hm
    obtain ⟨x, t, e, hh⟩ := enc_head hm.1
    simp only [encL, e, List.nil_append, List.cons_append] at h
    injection h with h _
    omega
  | y :: m, [], r, s, hm, _, _, h => by
    simp only [allL, Bool.and_eq_true] at hm
    obtain ⟨x, t, e, hh⟩ := enc_head hm.1
    simp only [encL, e, List.nil_append, List.cons_append] at h
    injection h with h _
    omega
  | x :: l, y :: m, r, s, hl, hm, ih, h => by
    simp only [allL, Bool.and_eq_true] at hl hm
    simp only [encL, List.append_assoc] at h
    obtain ⟨e1, h2⟩ := ih x (List.mem_cons_self ..) y _ _ hl.1 hm.1 h
    obtain ⟨e2, h3⟩ := encL_split l m r s hl.2 hm.2 (fun z hz => ih z (List.mem_cons_of_mem _ hz)) h2
    exact ⟨by rw [e1, e2], h3⟩
theorem enc_split (v : Vc) : ∀ (w : Vc) (r s : List Nat), allV v = true → allV w = true → encV v ++ r = encV w ++ s → v = w ∧ r = s := by
  induction v using Vc.ind_ with
  | h k n b l ih =>
    rintro ⟨k', n', b', l'⟩ r s hv hw h
    obtain ⟨x, t, e, hx⟩ := enc_head hv
    obtain ⟨y, u, e', hy⟩ := enc_head hw
    have hxy : x = y := by
      rw [e, e'] at h
      injection h
    have hk : k = k' := by
      simp only [Vc.k] at hx hy
      omega
    subst hk
    simp only [allV, Bool.and_eq_true] at hv hw
    rcases kind_zero hv.1 with rfl | rfl | rfl
    · have h1 := hv.1
      have h2 := hw.1
      simp [kindB] at h1 h2
      simp only [encV, if_true, List.cons_append, List.append_assoc] at h
      injection h with _ h
      obtain ⟨e1, e2⟩ := itN_split (c := 59) (by decide) h
      exact ⟨by rw [e1, h1.1, h1.2, h2.1, h2.2], e2⟩
    · have h1 := hv.1
      have h2 := hw.1
      simp [kindB] at h1 h2
      rw [encV, encV, if_neg (by decide), if_pos rfl, if_neg (by decide), if_pos rfl, List.append_assoc, List.append_assoc] at h
      obtain ⟨e1, e2⟩ := itN_split (c := 58) (by decide) h
      have e3 := List.append_inj e2 (by omega)
      exact ⟨by rw [e3.1, h1.1, h1.2, h2.1, h2.2], e3.2⟩
    · have h1 := hv.1
      have h2 := hw.1
      simp [kindB] at h1 h2
      rw [encV, encV, if_neg (by decide), if_neg (by decide), if_pos rfl, if_neg (by decide), if_neg (by decide), if_pos rfl] at h
      simp only [List.cons_append, List.append_assoc, List.nil_append] at h
      injection h with _ h
      obtain ⟨e1, e2⟩ := encL_split l l' r s hv.2 hw.2 (fun z hz w r s => ih z hz w r s) h
      exact ⟨by rw [e1, h1.1, h1.2, h2.1, h2.2], e2⟩

end Go.Proofs.YtbnmbncjefnpiaaDoor
