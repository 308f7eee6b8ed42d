/-
  A region that draws its order: operations that only read are taken first, under a condition that the last ones (a store into a cell that was loaded) need not keep; then a forced tail as a plain list.
-/
import Derived.Test.YtigdfkpkogompaaDoorWordsU
namespace Go.Proofs.YtigdfkpkogompaaDoor
open Go

section
variable {P : Program} {md : Region.Mode} {ops : Array Oper} {S : World → Prop} {Q : Exit → Act → World → Prop} {X : List Nat}

/-- As wpAnyH, but the operations of X need not keep S. -/
def wpAnyX (P : Program) (md : Region.Mode) (ops : Array Oper) (Q : Exit → Act → World → Prop) (S : World → Prop) (X : List Nat) : Nat → Array Bool → Act → World → Prop
  | 0, listed, a, w => Region.ready md ops listed = [] ∧ Q .normal a w
  | fuel + 1, listed, a, w =>
    (Region.ready md ops listed = [] → Q .normal a w) ∧
    ∀ i ∈ Region.ready md ops listed, wpOp P ops Q i (fun a' w' => (X.contains i = false → S w') ∧ wpAnyX P md ops Q S X fuel (listed.setIfInBounds i true) a' w') a w

theorem wpAny_of_X : ∀ (fuel : Nat) (listed : Array Bool) (a : Act) (w : World), wpAnyX P md ops Q S X fuel listed a w → wpAny P md ops Q fuel listed a w
  | 0, _, _, _, h => h
  | fuel + 1, _, _, _, h => ⟨h.1, fun i hi => wpOp_mono (fun a' w' h' => wpAny_of_X fuel _ a' w' h'.2) (h.2 i hi)⟩

/-- Operation x waits for operation i, over operations that have not come up in s. -/
def waitsB (md : Region.Mode) (ops : Array Oper) (s : Array Bool) (i : Nat) : Nat → Nat → Bool
  | 0, _ => false
  | f + 1, x => match ops[x]? with
    | none => false
    | some o => o.after.any fun e => Region.binds md e && (e.on == i || (!(s.getD e.on true) && waitsB md ops s i f e.on))

theorem not_ready_of_waits {s : Array Bool} {i : Nat} (s' : Array Bool) (hi : s'.getD i true = false) (hcl : ∀ j oj, ops[j]? = some oj → s.getD j true = false → s'.getD j false = true → ∀ e ∈ oj.after, Region.binds md e = true → s'.getD e.on false = true) :
    ∀ (f x : Nat) (o : Oper), ops[x]? = some o → waitsB md ops s i f x = true → ¬ ∀ e ∈ o.after, Region.binds md e = true → s'.getD e.on false = true
  | 0, _, _, _, h => by simp [waitsB] at h
  | f + 1, x, o, ho, h => fun hall => by
    simp only [waitsB, ho, Array.any_eq_true', Bool.and_eq_true, Bool.or_eq_true, beq_iff_eq, Bool.not_eq_true'] at h
    obtain ⟨e, he, hb, h⟩ := h
    have h1 := hall e he hb
    rcases h with h | ⟨h, hw⟩
    · rw [h, getD_both hi] at h1
      cases h1
    · cases hop : ops[e.on]? with
      | none => cases f with
        | zero => simp [waitsB] at hw
        | succ f => simp [waitsB, hop] at hw
      | some oj => exact not_ready_of_waits s' hi hcl f e.on oj hop hw (hcl e.on oj hop h h1)

/-- An operation that reads: nothing of X may come ahead of it. -/
theorem wpAnyX_firstS {s0 : Array Bool} {i : Nat} {oi : Oper} {v : Value} (hi : ops[i]? = some oi) (hsel : ∀ (j : Nat) (o : Oper) cs b, ops[j]? = some o → o.op ≠ .select cs b)
    (hQ : ∀ c a w, Q (.panic c) (a.put oi.dst v) w → Q (.panic c) a w) {n : Nat} (hx : ∀ x ∈ X, s0.getD x true = true ∨ waitsB md ops s0 i n x = true) :
    ∀ (fuel : Nat) (listed : Array Bool) (a : Act) (w : World),
      (∀ j, s0.getD j true = true → listed.getD j true = true) →
      (∀ j oj, ops[j]? = some oj → s0.getD j true = false → listed.getD j false = true → ∀ e ∈ oj.after, Region.binds md e = true → listed.getD e.on false = true) →
      (∀ j oj, ops[j]? = some oj → j ≠ i → listed.getD j true = false → (∀ e ∈ oj.after, Region.binds md e = true → e.on ≠ i) → oi.apart ops oj = true) →
      i ∈ Region.ready md ops listed → YieldsIf P ops S oi v a → S w →
      wpAnyX P md ops Q S X fuel (listed.setIfInBounds i true) (a.put oi.dst v) w → wpAnyX P md ops Q S X (fuel + 1) listed a w := by
  intro fuel
  induction fuel with
  | zero =>
    intro listed a w _ _ _ hr hy hS H
    refine ⟨fun h => (by rw [h] at hr; cases hr), fun j hj => ?_⟩
    by_cases hji : j = i
    · subst hji; exact hy.wpOp hi hS ⟨fun _ => hS, H⟩
    · have := ready_mono hj hji
      rw [H.1] at this
      cases this
  | succ fuel ih =>
    intro listed a w hsub hcl hfree hr hy hS H
    refine ⟨fun h => (by rw [h] at hr; cases hr), fun j hj => ?_⟩
    by_cases hji : j = i
    · subst hji; exact hy.wpOp hi hS ⟨fun _ => hS, H⟩
    · have h1 := H.2 j (ready_mono hj hji)
      obtain ⟨hjun, oj, hoj, hall⟩ := mem_ready.1 hj
      have hiun := (mem_ready.1 hr).1
      have hjX : X.contains j = false := by
        cases hc : X.contains j with
        | false => rfl
        | true =>
          rcases hx j (by simpa using hc) with h | h
          · rw [hsub j h] at hjun; cases hjun
          · exact absurd hall (not_ready_of_waits listed hiun hcl n j oj hoj h)
      have hnot : ∀ e ∈ oj.after, Region.binds md e = true → e.on ≠ i := fun e he hb heq => by
        have h1 := hall e he hb
        rw [heq, getD_both hiun] at h1
        cases h1
      have h2 := wpOp_putIf hoj (hfree j oj hoj hji hjun hnot) (fun cs b => hsel i oi cs b hi) (fun cs b => hsel j oj cs b hoj) hQ hy h1
      have hfree' : ∀ k ok, ops[k]? = some ok → k ≠ i → (listed.setIfInBounds j true).getD k true = false →
          (∀ e ∈ ok.after, Region.binds md e = true → e.on ≠ i) → oi.apart ops ok = true := fun k ok hk hki hun hno => by
        refine hfree k ok hk hki ?_ hno
        by_cases hjk : j = k
        · subst hjk; exact hjun
        · rw [getD_set_ne true hjk] at hun; exact hun
      have hsub' : ∀ k, s0.getD k true = true → (listed.setIfInBounds j true).getD k true = true := fun k hk => by
        by_cases hjk : j = k
        · subst hjk; rw [hsub j hk] at hjun; cases hjun
        · rw [getD_set_ne true hjk]; exact hsub k hk
      have hcl' : ∀ k ok, ops[k]? = some ok → s0.getD k true = false → (listed.setIfInBounds j true).getD k false = true → ∀ e ∈ ok.after, Region.binds md e = true → (listed.setIfInBounds j true).getD e.on false = true := fun k ok hk h0 hl e he hb => by
        by_cases hjk : j = k
        · subst hjk
          have : ok = oj := Option.some.inj (hk.symm.trans hoj)
          subst this
          exact getD_set_true (hall e he hb)
        · rw [getD_set_ne false hjk] at hl
          exact getD_set_true (hcl k ok hk h0 hl e he hb)
      refine wpOp_mono (fun a' w' h3 => ⟨h3.2.1, ih (listed.setIfInBounds j true) a' w' hsub' hcl' hfree' (ready_mono hr (Ne.symm hji)) h3.1 (h3.2.1 hjX) ?_⟩) h2
      rw [Array.setIfInBounds_comm _ _ hji]
      exact h3.2.2

/-- An operation that looks at no world: whatever may come ahead of it. -/
theorem wpAnyX_firstP {i : Nat} {oi : Oper} {v : Value} (hi : ops[i]? = some oi) (hsel : ∀ (j : Nat) (o : Oper) cs b, ops[j]? = some o → o.op ≠ .select cs b)
    (hQ : ∀ c a w, Q (.panic c) (a.put oi.dst v) w → Q (.panic c) a w) (hX : X.contains i = true) :
    ∀ (fuel : Nat) (listed : Array Bool) (a : Act) (w : World),
      (∀ j oj, ops[j]? = some oj → j ≠ i → listed.getD j true = false → (∀ e ∈ oj.after, Region.binds md e = true → e.on ≠ i) → oi.apart ops oj = true) →
      i ∈ Region.ready md ops listed → YieldsIf P ops (fun _ => True) oi v a →
      wpAnyX P md ops Q S X fuel (listed.setIfInBounds i true) (a.put oi.dst v) w → wpAnyX P md ops Q S X (fuel + 1) listed a w := by
  intro fuel
  induction fuel with
  | zero =>
    intro listed a w _ hr hy H
    refine ⟨fun h => (by rw [h] at hr; cases hr), fun j hj => ?_⟩
    by_cases hji : j = i
    · subst hji; exact hy.wpOp hi trivial ⟨fun h => absurd (h.symm.trans hX) (by simp), H⟩
    · have := ready_mono hj hji
      rw [H.1] at this
      cases this
  | succ fuel ih =>
    intro listed a w hfree hr hy H
    refine ⟨fun h => (by rw [h] at hr; cases hr), fun j hj => ?_⟩
    by_cases hji : j = i
    · subst hji; exact hy.wpOp hi trivial ⟨fun h => absurd (h.symm.trans hX) (by simp), H⟩
    · have h1 := H.2 j (ready_mono hj hji)
      obtain ⟨hjun, oj, hoj, hall⟩ := mem_ready.1 hj
      have hiun := (mem_ready.1 hr).1
      have hnot : ∀ e ∈ oj.after, Region.binds md e = true → e.on ≠ i := fun e he hb heq => by
        have h1 := hall e he hb
        rw [heq, getD_both hiun] at h1
        cases h1
      have h2 := wpOp_putIf hoj (hfree j oj hoj hji hjun hnot) (fun cs b => hsel i oi cs b hi) (fun cs b => hsel j oj cs b hoj) hQ hy h1
      have hfree' : ∀ k ok, ops[k]? = some ok → k ≠ i → (listed.setIfInBounds j true).getD k true = false →
          (∀ e ∈ ok.after, Region.binds md e = true → e.on ≠ i) → oi.apart ops ok = true := fun k ok hk hki hun hno => by
        refine hfree k ok hk hki ?_ hno
        by_cases hjk : j = k
        · subst hjk; exact hjun
        · rw [getD_set_ne true hjk] at hun; exact hun
      refine wpOp_mono (fun a' w' h3 => ⟨h3.2.1, ih (listed.setIfInBounds j true) a' w' hfree' (ready_mono hr (Ne.symm hji)) h3.1 ?_⟩) h2
      rw [Array.setIfInBounds_comm _ _ hji]
      exact h3.2.2
end

section
variable {P : Program} {md : Region.Mode} {l : List Oper} {S : World → Prop} {Q : Exit → Act → World → Prop} {X : List Nat}

/-- All of X that has not come up waits for i. -/
def lateB (md : Region.Mode) (ops : Array Oper) (X : List Nat) (s : Array Bool) (i : Nat) : Bool := X.all fun x => s.getD x true || waitsB md ops s i ops.size x

theorem wpAnyX_S {fuel i : Nat} {listed : Array Bool} {oi : Oper} {v : Value} {a : Act} {w : World} (hi : l[i]? = some oi) (hs : Region.noSelect l.toArray = true) (hf : Region.free md l.toArray listed i = true) (hr : (Region.ready md l.toArray listed).contains i = true)
    (hx : lateB md l.toArray X listed i = true) (hQ : ∀ c a w, Q (.panic c) (a.put oi.dst v) w → Q (.panic c) a w) (hy : YieldsIf P l.toArray S oi v a) (hS : S w)
    (h : wpAnyX P md l.toArray Q S X fuel (listed.setIfInBounds i true) (a.put oi.dst v) w) : wpAnyX P md l.toArray Q S X (fuel + 1) listed a w :=
  wpAnyX_firstS (s0 := listed) (n := l.toArray.size) (by simpa using hi) (Region.noSelect_spec hs) hQ (fun x hx' => by
      have := List.all_eq_true.1 hx x hx'
      simpa using this) fuel listed a w (fun _ h => h) (fun j oj _ h0 h1 => by rw [getD_both h0] at h1; cases h1) (Region.free_spec (by simpa using hi) hf) (by simpa using hr) hy hS h

theorem wpAnyX_P {fuel i : Nat} {listed : Array Bool} {oi : Oper} {v : Value} {a : Act} {w : World} (hi : l[i]? = some oi) (hs : Region.noSelect l.toArray = true) (hf : Region.free md l.toArray listed i = true) (hr : (Region.ready md l.toArray listed).contains i = true)
    (hx : X.contains i = true) (hQ : ∀ c a w, Q (.panic c) (a.put oi.dst v) w → Q (.panic c) a w) (hy : YieldsIf P l.toArray (fun _ => True) oi v a)
    (h : wpAnyX P md l.toArray Q S X fuel (listed.setIfInBounds i true) (a.put oi.dst v) w) : wpAnyX P md l.toArray Q S X (fuel + 1) listed a w :=
  wpAnyX_firstP (by simpa using hi) (Region.noSelect_spec hs) hQ hx fuel listed a w (Region.free_spec (by simpa using hi) hf) (by simpa using hr) hy h

def chainT (md : Region.Mode) (ops : Array Oper) : List Nat → Array Bool → Bool
  | [], s => (Region.ready md ops s).isEmpty
  | k :: r, s => decide (Region.ready md ops s = [k]) && chainT md ops r (s.setIfInBounds k true)

/-- The forced tail as a plain list. -/
theorem wpAnyX_tail : ∀ (tl : List Nat) (rest : List Oper) (s : Array Bool) (a : Act) (w : World), chainT md l.toArray tl s = true → tl.all (fun k => X.contains k) = true → tl.map (fun k => l[k]?) = rest.map some → wpList P l.toArray Q rest a w → ∀ fuel, fuel = tl.length → wpAnyX P md l.toArray Q S X fuel s a w
  | [], rest, s, a, w, hc, _, hm, h, fuel, hf => by
    subst hf
    have : rest = [] := by simpa using hm.symm
    subst this
    exact ⟨by simpa [chainT] using hc, h⟩
  | k :: r, rest, s, a, w, hc, hX, hm, h, fuel, hf => by
    subst hf
    cases rest with
    | nil => simp at hm
    | cons o rest =>
      simp only [List.map_cons, List.cons.injEq] at hm
      simp only [chainT, Bool.and_eq_true, decide_eq_true_eq] at hc
      simp only [List.all_cons, Bool.and_eq_true] at hX
      refine ⟨fun h0 => (by rw [hc.1] at h0; cases h0), ?_⟩
      rw [hc.1]
      intro i hi
      obtain rfl : i = k := by simpa using hi
      have h0 : l.toArray[i]? = some o := by simpa using hm.1
      have hw : wpOp P l.toArray Q i (wpList P l.toArray Q rest) a w := by unfold wpOp; simp only [h0]; exact h
      exact wpOp_mono (fun a' w' h' => ⟨fun he => absurd (he.symm.trans hX.1) (by simp), wpAnyX_tail r rest _ a' w' hc.2 hX.2 hm.2 h' _ rfl⟩) hw

theorem wpAnyX_tailF (tl : List Nat) {s : Array Bool} {a : Act} {w : World} {fuel : Nat} (hc : chainT md l.toArray tl s = true) (hX : tl.all (fun k => X.contains k) = true) (hsome : tl.all (fun k => (l[k]?).isSome) = true) (hf : fuel = tl.length)
    (h : wpList P l.toArray Q (tl.filterMap fun k => l[k]?) a w) : wpAnyX P md l.toArray Q S X fuel s a w := by
  refine wpAnyX_tail tl _ s a w hc hX ?_ h fuel hf
  clear hc hX hf h
  induction tl with
  | nil => rfl
  | cons k r ih =>
    simp only [List.all_cons, Bool.and_eq_true] at hsome
    obtain ⟨o, ho⟩ := Option.isSome_iff_exists.1 hsome.1
    simp only [List.map_cons, List.filterMap_cons, ho]
    rw [ih hsome.2]

theorem wpAnyX_oneL {k f : Nat} {s : Array Bool} {o : Oper} {a : Act} {w : World} (ho : l[k]? = some o) (hr : Region.ready md l.toArray s = [k]) (hg : o.guard = none)
    (h : o.wp P a w (fun a' w' => (X.contains k = false → S w') ∧ wpAnyX P md l.toArray Q S X f (s.setIfInBounds k true) a' w') Q) : wpAnyX P md l.toArray Q S X (f + 1) s a w := by
  refine ⟨fun h0 => (by rw [hr] at h0; cases h0), ?_⟩
  rw [hr]
  intro i hi
  obtain rfl : i = k := by simpa using hi
  exact wpOp_ofL ho hg h

theorem wpAnyX_twoL {i j f : Nat} {s : Array Bool} {o o' : Oper} {a : Act} {w : World} (ho : l[i]? = some o) (ho' : l[j]? = some o') (hr : Region.ready md l.toArray s = [i, j]) (hg : o.guard = none) (hg' : o'.guard = none)
    (h : o.wp P a w (fun a' w' => (X.contains i = false → S w') ∧ wpAnyX P md l.toArray Q S X f (s.setIfInBounds i true) a' w') Q)
    (h' : o'.wp P a w (fun a' w' => (X.contains j = false → S w') ∧ wpAnyX P md l.toArray Q S X f (s.setIfInBounds j true) a' w') Q) : wpAnyX P md l.toArray Q S X (f + 1) s a w := by
  refine ⟨fun h0 => (by rw [hr] at h0; cases h0), ?_⟩
  rw [hr]
  intro k hk
  simp only [List.mem_cons, List.not_mem_nil, or_false] at hk
  rcases hk with rfl | rfl
  · exact wpOp_ofL ho hg h
  · exact wpOp_ofL ho' hg' h'

theorem wp_region_X {id : Nat} {a : Act} {w : World} (S : World → Prop) (X : List Nat) (hm : P.follows .mixedOrders = true) (hS : S w.drew)
    (h : S w.drew → wpAnyX P .any l.toArray (NoPanic Q) S X l.length (Array.replicate l.length false) a w.drew) : (Code.region id l.toArray true).wp P Q a w := by
  refine wp_region_noPanic ?_
  refine wp_region_any hm ?_
  have := wpAny_of_X _ _ _ _ (h hS)
  simpa using this
end
end Go.Proofs.YtigdfkpkogompaaDoor
