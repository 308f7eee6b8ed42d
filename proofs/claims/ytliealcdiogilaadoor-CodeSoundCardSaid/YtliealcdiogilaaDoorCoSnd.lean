/-
  What a verified program's states say: the plain law.
-/
import Derived.Test.YtliealcdiogilaaDoorCoR
namespace Go.Proofs.YtliealcdiogilaaDoor

/-- What is known stays. -/
def MonoV (v v' : Vs) : Prop := (∀ i, v.1.getD i [] ≠ [45] → v'.1.getD i [] = v.1.getD i []) ∧ v'.1.length = v.1.length ∧ v'.2.length = v.2.length
theorem MonoV.refl (v : Vs) : MonoV v v := ⟨fun _ _ => rfl, rfl, rfl⟩
theorem MonoV.trans {a b c : Vs} (h : MonoV a b) (k : MonoV b c) : MonoV a c :=
  ⟨fun i hi => (k.1 i (by rw [h.1 i hi]; exact hi)).trans (h.1 i hi), k.2.1.trans h.2.1, k.2.2.trans h.2.2⟩
def nextI (x : Ci) (k : Nat) : List Nat := nextA x.op k ++ nextB x.op x.n.toNat
/-- A place is nowhere, or still to be looked at, or its instruction leaves what the next places hold. -/
def ClV (l : List Ci) (v : Vs) (i : Nat) : Prop :=
  v.1.getD i [] = [45] ∨ v.2.getD i false = true ∨ ∃ s, behF (v.1.getD i []) (l.getD i default).op = (s, 0) ∧ ∀ k ∈ nextI (l.getD i default) i, v.1.getD k [] = s
theorem getD_set_s (l : List (List UInt8)) (k j : Nat) (s : List UInt8) (hk : k < l.length) : (l.set k s).getD j [] = if j = k then s else l.getD j [] := by
  rw [List.getD_eq_getElem?_getD, List.getElem?_set, List.getD_eq_getElem?_getD]
  by_cases e : k = j
  · subst e
    rw [if_pos rfl, if_pos hk, if_pos rfl]; rfl
  · rw [if_neg e, if_neg (fun h => e h.symm)]
theorem reach_cases (v : Vs) (k : Nat) (s : List UInt8) : reachV v k s = v ∨ (v.1.getD k [] = [45] ∧ k < v.1.length ∧ reachV v k s = (v.1.set k s, v.2.set k true)) := by
  unfold reachV
  by_cases h : v.1.getD k [] = [45]
  · rw [if_pos h]
    refine .inr ⟨h, ?_, rfl⟩
    refine Decidable.byContradiction fun hn => ?_
    rw [List.getD_eq_getElem?_getD, List.getElem?_eq_none (by omega)] at h
    cases h
  · rw [if_neg h]; exact .inl rfl
theorem reach_mono (v : Vs) (k : Nat) (s : List UInt8) : MonoV v (reachV v k s) := by
  rcases reach_cases v k s with h | ⟨h1, h2, h⟩
  · rw [h]; exact MonoV.refl v
  · rw [h]
    refine ⟨fun i hi => ?_, by simp, by simp⟩
    show (v.1.set k s).getD i [] = _
    rw [getD_set_s _ _ _ _ h2]
    by_cases e : i = k
    · subst e; exact absurd h1 hi
    · rw [if_neg e]
theorem reach_cl {l : List Ci} {v : Vs} {i : Nat} (k : Nat) (s : List UInt8) (hl : v.2.length = v.1.length) (h : ClV l v i) : ClV l (reachV v k s) i := by
  rcases reach_cases v k s with e | ⟨h1, h2, e⟩
  · rw [e]; exact h
  · rw [e]
    by_cases hik : i = k
    · subst hik
      right; left
      show (v.2.set i true).getD i false = true
      rw [getD_set_b _ _ _ _ (by omega), if_pos rfl]
    · have hs : (v.1.set k s).getD i [] = v.1.getD i [] := by rw [getD_set_s _ _ _ _ h2, if_neg hik]
      have ht : (v.2.set k true).getD i false = v.2.getD i false := by rw [getD_set_b _ _ _ _ (by omega), if_neg hik]
      unfold ClV
      simp only [hs, ht]
      rcases h with h | h | ⟨t, h3, h4⟩
      · exact .inl h
      · exact .inr (.inl h)
      · refine .inr (.inr ⟨t, h3, fun j hj => ?_⟩)
        have h5 := h4 j hj
        rw [getD_set_s _ _ _ _ h2]
        by_cases e2 : j = k
        · subst e2
          rw [h1] at h5
          exact absurd h5.symm (nt_ne (beh_right h3).2)
        · rw [if_neg e2]; exact h5
theorem seq_all {l : List Ci} {s : List UInt8} (hs : s ≠ [45]) : ∀ (L : List Nat) (v v2 : Vs), v.2.length = v.1.length → seqV s v L = (v2, none) → MonoV v v2 ∧ (∀ k ∈ L, v2.1.getD k [] = s) ∧ ∀ i, ClV l v i → ClV l v2 i
  | [], v, v2, _, h => by
    rw [seqV] at h
    have e : v = v2 := congrArg Prod.fst h
    subst e
    exact ⟨MonoV.refl v, fun k hk => (nomatch hk), fun i h => h⟩
  | k :: r, v, v2, hl, h => by
    rw [seqV] at h
    by_cases hg : (reachV v k s).1.getD k [] = s
    · rw [if_pos hg] at h
      have hm := reach_mono v k s
      obtain ⟨h1, h2, h3⟩ := seq_all (l := l) hs r (reachV v k s) v2 (by rw [hm.2.1, hm.2.2, hl]) h
      refine ⟨hm.trans h1, fun j hj => ?_, fun i hi => h3 i (reach_cl k s hl hi)⟩
      rcases List.mem_cons.1 hj with rfl | hj
      · rw [h1.1 j (by rw [hg]; exact hs), hg]
      · exact h2 j hj
    · rw [if_neg hg] at h
      have := congrArg Prod.snd h
      cases this
/-- What a verified program's states say. -/
def SndV (l : List Ci) (r : List (List UInt8)) : Prop := ∀ i, i < l.length → r.getD i [] = [45] ∨ ∃ s, behF (r.getD i []) (l.getD i default).op = (s, 0) ∧ ∀ k ∈ nextI (l.getD i default) i, r.getD k [] = s
theorem snd_of {l : List Ci} {v : Vs} (hn : v.2.findIdx? id = none) (h : ∀ i, i < l.length → ClV l v i) : SndV l v.1 := fun i hi => by
  rcases h i hi with h | h | h
  · exact .inl h
  · exfalso
    have h1 := find_none_all' _ hn
    cases e : v.2[i]? with
    | none => rw [List.getD_eq_getElem?_getD, e] at h; cases h
    | some b =>
      rw [List.getD_eq_getElem?_getD, e] at h
      have h2 : b = true := h
      subst h2
      exact absurd (h1 true (List.mem_of_getElem? e)) (by simp)
  · exact .inr h
where
  find_none_all' : ∀ (t : List Bool), t.findIdx? id = none → ∀ x ∈ t, id x = false
    | [], _, x, hx => nomatch hx
    | a :: r, h, x, hx => by
      rw [List.findIdx?_cons] at h
      cases a
      · rw [if_neg (by simp)] at h
        rcases List.mem_cons.1 hx with rfl | hx
        · rfl
        · refine find_none_all' r ?_ x hx
          cases e : r.findIdx? id with
          | none => rfl
          | some k => rw [e] at h; cases h
      · rw [if_pos (show id true = true from rfl)] at h; cases h
theorem find_some_at : ∀ (t : List Bool) (k : Nat), t.findIdx? id = some k → t[k]? = some true
  | [], k, h => by cases h
  | a :: r, k, h => by
    rw [List.findIdx?_cons] at h
    cases a
    · rw [if_neg (by simp)] at h
      cases e : r.findIdx? id with
      | none => rw [e] at h; cases h
      | some j =>
        rw [e] at h
        obtain rfl : j + 1 = k := by simpa using h
        simpa using find_some_at r j e
    · rw [if_pos (show id true = true from rfl)] at h
      obtain rfl : 0 = k := by simpa using h
      rfl
theorem left_zero {v : Vs} (h : leftV v = 0) : v.2.findIdx? id = none := by
  cases e : v.2.findIdx? id with
  | none => rfl
  | some k =>
    have h1 := left_del (find_some_at _ _ e)
    omega
theorem del_cl {l : List Ci} {v : Vs} {i k : Nat} (hk : k < v.2.length) (hik : i ≠ k) (h : ClV l v i) : ClV l (v.1, v.2.set k false) i := by
  have ht : (v.2.set k false).getD i false = v.2.getD i false := by rw [getD_set_b _ _ _ _ hk, if_neg hik]
  unfold ClV
  simp only [ht]
  exact h
theorem ver_sound {l : List Ci} : ∀ (f : Nat) (v : Vs) (r : List (List UInt8)) (m : Nat), leftV v ≤ f → v.2.length = v.1.length → v.1.length = l.length + 1 → (∀ i, i < l.length → ClV l v i) → verV l f v = (r, m, 0) → SndV l r ∧ ∀ i, v.1.getD i [] ≠ [45] → r.getD i [] = v.1.getD i []
  | 0, v, r, m, hf, _, _, hc, h => by
    have hn := left_zero (v := v) (by omega)
    rw [ver_none hn] at h
    have e : v.1 = r := congrArg Prod.fst h
    subst e
    exact ⟨snd_of hn hc, fun _ _ => rfl⟩
  | f + 1, v, r, m, hf, hl, hl1, hc, h => by
    cases e : v.2.findIdx? id with
    | none =>
      rw [ver_none e] at h
      have e2 : v.1 = r := congrArg Prod.fst h
      subst e2
      exact ⟨snd_of e hc, fun _ _ => rfl⟩
    | some k =>
      have hk := find_some_at _ _ e
      have hkl := (List.getElem?_eq_some_iff.1 hk).1
      have hdl := left_del hk
      by_cases hkn : k = l.length
      · subst hkn
        rw [ver_end e] at h
        exact ver_sound f (v.1, v.2.set l.length false) r m (by omega) (by simp; exact hl) hl1 (fun i hi => del_cl hkl (by omega) (hc i hi)) h
      · obtain ⟨v2, o, hlk⟩ : ∃ v2 o, lookV l (v.1, v.2.set k false) k = (v2, o) := ⟨_, _, rfl⟩
        have hx : l[k]? = some (l.getD k default) := by rw [List.getD_eq_getElem?_getD, List.getElem?_eq_getElem (by omega)]; rfl
        cases o with
        | some p =>
          obtain ⟨i, er⟩ := p
          rw [ver_bad e hkn hlk] at h
          have h2 : er = 0 := congrArg (fun x => x.2.2) h
          exact absurd h2 (look_ne hx hlk)
        | none =>
          rw [ver_go e hkn hlk] at h
          obtain ⟨s, er, hb⟩ : ∃ s er, behF (v.1.getD k []) (l.getD k default).op = (s, er) := ⟨_, _, rfl⟩
          have he : er = 0 := Decidable.byContradiction fun hne => by
            rw [look_err (v := (v.1, v.2.set k false)) hx hb hne] at hlk
            have := congrArg Prod.snd hlk
            cases this
          subst he
          have hs := nt_ne (beh_right hb).2
          have hlk' := hlk
          rw [look_seq (v := (v.1, v.2.set k false)) hx hb] at hlk'
          obtain ⟨h1, h2, h3⟩ := seq_all (l := l) hs _ (v.1, v.2.set k false) v2 (by simp; exact hl) hlk'
          have hl2 := h1.2.1
          have hl3 := h1.2.2
          simp only [List.length_set] at hl2 hl3
          have hcl : ∀ i, i < l.length → ClV l v2 i := fun i hi => by
            by_cases hik : i = k
            · subst hik
              have hne : v.1.getD i [] ≠ [45] := fun hq => by
                rw [hq] at hb
                have : behF [45] (l.getD i default).op = ([], 1) := by unfold behF; rw [if_pos (Or.inl (by decide))]
                rw [this] at hb
                have := congrArg Prod.snd hb
                cases this
              right; right
              refine ⟨s, ?_, fun j hj => h2 j hj⟩
              rw [h1.1 i hne]
              exact hb
            · exact h3 i (del_cl hkl hik (hc i hi))
          obtain ⟨h4, h5⟩ := ver_sound f v2 r m (Nat.le_trans (left_look hx hlk) (by omega)) (by rw [hl2, hl3, hl]) (by rw [hl2, hl1]) hcl h
          exact ⟨h4, fun i hi => (h5 i (by rw [h1.1 i hi]; exact hi)).trans (h1.1 i hi)⟩
theorem verF_sound {l : List Ci} {r : List (List UInt8)} {m : Nat} (h : verF l = (r, m, 0)) : SndV l r ∧ r.getD 0 [] = [] := by
  have h0 : (v0 l.length).1.getD 0 [] = [] := by
    rw [v0_eq]
    show (stL l.length (l.length + 1)).getD 0 [] = []
    rw [List.getD_eq_getElem?_getD, List.getElem?_eq_getElem (by rw [stL_len]; omega)]
    simp [stL]
  have hcl : ∀ i, i < l.length → ClV l (v0 l.length) i := fun i hi => by
    rw [v0_eq]
    by_cases e : i = 0
    · subst e
      right; left
      show ((List.replicate (l.length + 1) false).set 0 true).getD 0 false = true
      rw [getD_set_b _ _ _ _ (by simp), if_pos rfl]
    · left
      show (stL l.length (l.length + 1)).getD i [] = [45]
      rw [List.getD_eq_getElem?_getD, List.getElem?_eq_getElem (by rw [stL_len]; omega)]
      simp [stL]
      omega
  obtain ⟨h1, h2⟩ := ver_sound (3 * l.length + 3) (v0 l.length) r m (left_v0 _) (by rw [v0_eq]; simp [stL_len]) (by rw [v0_eq]; simp [stL_len]) hcl h
  exact ⟨h1, by rw [h2 0 (by rw [h0]; decide), h0]⟩
end Go.Proofs.YtliealcdiogilaaDoor
