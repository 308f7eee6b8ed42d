/-
  A region that draws its order, operation by operation, by hand: the operations as a list.
  A region that draws its order: operations that only read are taken first, under a condition that the last ones (a store into a cell that was loaded) need not keep; then a forced tail as a plain list.
  The contracts of archive.copied, Find's predicate, slices.IndexFunc at entries, Find.
-/
import Derived.Test.YticcphppnmoogaaDoorBm4

namespace Go.Proofs.YticcphppnmoogaaDoor
open Go

section
variable {P : Program} {md : Region.Mode} {S : World → Prop} {Q : Exit → Act → World → Prop} {l : List Oper} {s : Array Bool} {a : Act} {w : World} {f : Nat}

theorem wpAnyH_takeL {i : Nat} {o : Oper} {v : Value} (ho : l[i]? = some o) (hs : Region.noSelect l.toArray = true) (hf : Region.free md l.toArray s i = true) (hr : (Region.ready md l.toArray s).contains i = true)
    (hQ : ∀ c a w, Q (.panic c) (a.put o.dst v) w → Q (.panic c) a w) (hy : YieldsIf P l.toArray S o v a) (hS : S w) (h : wpAnyH P md l.toArray Q S f (s.setIfInBounds i true) (a.put o.dst v) w) : wpAnyH P md l.toArray Q S (f + 1) s a w :=
  wpAnyH_take (by simpa using ho) hs hf hr hQ hy hS h

theorem wpOp_ofL {i : Nat} {o : Oper} {K : Act → World → Prop} (hi : l[i]? = some o) (hg : o.guard = none) (h : o.wp P a w K Q) : wpOp P l.toArray Q i K a w := by
  have hw : Region.wanted o (yielded l.toArray a.tmps) = true := by simp [Region.wanted, hg]
  have hi' : l.toArray[i]? = some o := by simpa using hi
  unfold wpOp
  simp only [hi', hw, if_true]
  exact .inl h

theorem wpAnyH_oneL {k : Nat} {o : Oper} (ho : l[k]? = some o) (hr : Region.ready md l.toArray s = [k]) (hg : o.guard = none)
    (h : o.wp P a w (fun a' w' => S w' ∧ wpAnyH P md l.toArray Q S f (s.setIfInBounds k true) a' w') Q) : wpAnyH P md l.toArray Q S (f + 1) s a w := by
  refine wpAnyH_all hr (by simp) fun i hi => ?_
  obtain rfl : i = k := by simpa using hi
  exact wpOp_ofL ho hg h

theorem wpAnyH_twoL {i j : Nat} {o o' : Oper} (ho : l[i]? = some o) (ho' : l[j]? = some o') (hr : Region.ready md l.toArray s = [i, j]) (hg : o.guard = none) (hg' : o'.guard = none)
    (h : o.wp P a w (fun a' w' => S w' ∧ wpAnyH P md l.toArray Q S f (s.setIfInBounds i true) a' w') Q)
    (h' : o'.wp P a w (fun a' w' => S w' ∧ wpAnyH P md l.toArray Q S f (s.setIfInBounds j true) a' w') Q) : wpAnyH P md l.toArray Q S (f + 1) s a w := by
  refine wpAnyH_all hr (by simp) fun k hk => ?_
  simp only [List.mem_cons, List.not_mem_nil, or_false] at hk
  rcases hk with rfl | rfl
  · exact wpOp_ofL ho hg h
  · exact wpOp_ofL ho' hg' h'

theorem wp_of_run {o : Oper} {K : Act → World → Prop} {v : Value} {w' : World} (hrun : (execOp a.eval o).run P w = .ok (.value v) w') (h : K (a.put o.dst v) w') : o.wp P a w K Q := by
  unfold Oper.wp; rw [hrun]; exact h
theorem wp_of_skip {o : Oper} {K : Act → World → Prop} {w' : World} (hrun : (execOp a.eval o).run P w = .ok .skip w') (h : K (a.put o.dst undef) w') : o.wp P a w K Q := by
  unfold Oper.wp; rw [hrun]; exact h
end

end Go.Proofs.YticcphppnmoogaaDoor

namespace Go.Proofs.YticcphppnmoogaaDoor
open Go

section
variable {P : Program} {md : Region.Mode} {ops : Array Oper} {S : World → Prop} {Q : Exit → Act → World → Prop} {X : List Nat}

/-- As wpAnyH, but the operations of X need not keep S. -/
def wpAnyX (P : Program) (md : Region.Mode) (ops : Array Oper) (Q : Exit → Act → World → Prop) (S : World → Prop) (X : List Nat) : Nat → Array Bool → Act → World → Prop
  | 0, listed, a, w => Region.ready md ops listed = [] ∧ Q .normal a w
  | fuel + 1, listed, a, w =>
    (Region.ready md ops listed = [] → Q .normal a w) ∧
    ∀ i ∈ Region.ready md ops listed, wpOp P ops Q i (fun a' w' => (X.contains i = false → S w') ∧ wpAnyX P md ops Q S X fuel (listed.setIfInBounds i true) a' w') a w

theorem wpAny_of_X : ∀ (fuel : Nat) (listed : Array Bool) (a : Act) (w : World), wpAnyX P md ops Q S X fuel listed a w → wpAny P md ops Q fuel listed a w
  | 0, _, _, _, h => h
  | fuel + 1, _, _, _, h => ⟨h.1, fun i hi => wpOp_mono (fun a' w' h' => wpAny_of_X fuel _ a' w' h'.2) (h.2 i hi)⟩

/-- Operation x waits for operation i, over operations that have not come up in s. -/
def waitsB (md : Region.Mode) (ops : Array Oper) (s : Array Bool) (i : Nat) : Nat → Nat → Bool
  | 0, _ => false
  | f + 1, x => match ops[x]? with
    | none => false
    | some o => o.after.any fun e => Region.binds md e && (e.on == i || (!(s.getD e.on true) && waitsB md ops s i f e.on))

theorem not_ready_of_waits {s : Array Bool} {i : Nat} (s' : Array Bool) (hi : s'.getD i true = false) (hcl : ∀ j oj, ops[j]? = some oj → s.getD j true = false → s'.getD j false = true → ∀ e ∈ oj.after, Region.binds md e = true → s'.getD e.on false = true) :
    ∀ (f x : Nat) (o : Oper), ops[x]? = some o → waitsB md ops s i f x = true → ¬ ∀ e ∈ o.after, Region.binds md e = true → s'.getD e.on false = true
  | 0, _, _, _, h => by simp [waitsB] at h
  | f + 1, x, o, ho, h => fun hall => by
    simp only [waitsB, ho, Array.any_eq_true', Bool.and_eq_true, Bool.or_eq_true, beq_iff_eq, Bool.not_eq_true'] at h
    obtain ⟨e, he, hb, h⟩ := h
    have h1 := hall e he hb
    rcases h with h | ⟨h, hw⟩
    · rw [h, getD_both hi] at h1
      cases h1
    · cases hop : ops[e.on]? with
      | none => cases f with
        | zero => simp [waitsB] at hw
        | succ f => simp [waitsB, hop] at hw
      | some oj => exact not_ready_of_waits s' hi hcl f e.on oj hop hw (hcl e.on oj hop h h1)

/-- An operation that reads: nothing of X may come ahead of it. -/
theorem wpAnyX_firstS {s0 : Array Bool} {i : Nat} {oi : Oper} {v : Value} (hi : ops[i]? = some oi) (hsel : ∀ (j : Nat) (o : Oper) cs b, ops[j]? = some o → o.op ≠ .select cs b)
    (hQ : ∀ c a w, Q (.panic c) (a.put oi.dst v) w → Q (.panic c) a w) {n : Nat} (hx : ∀ x ∈ X, s0.getD x true = true ∨ waitsB md ops s0 i n x = true) :
    ∀ (fuel : Nat) (listed : Array Bool) (a : Act) (w : World),
      (∀ j, s0.getD j true = true → listed.getD j true = true) →
      (∀ j oj, ops[j]? = some oj → s0.getD j true = false → listed.getD j false = true → ∀ e ∈ oj.after, Region.binds md e = true → listed.getD e.on false = true) →
      (∀ j oj, ops[j]? = some oj → j ≠ i → listed.getD j true = false → (∀ e ∈ oj.after, Region.binds md e = true → e.on ≠ i) → oi.apart ops oj = true) →
      i ∈ Region.ready md ops listed → YieldsIf P ops S oi v a → S w →
      wpAnyX P md ops Q S X fuel (listed.setIfInBounds i true) (a.put oi.dst v) w → wpAnyX P md ops Q S X (fuel + 1) listed a w := by
  intro fuel
  induction fuel with
  | zero =>
    intro listed a w _ _ _ hr hy hS H
    refine ⟨fun h => (by rw [h] at hr; cases hr), fun j hj => ?_⟩
    by_cases hji : j = i
    · subst hji; exact hy.wpOp hi hS ⟨fun _ => hS, H⟩
    · have := ready_mono hj hji
      rw [H.1] at this
      cases this
  | succ fuel ih =>
    intro listed a w hsub hcl hfree hr hy hS H
    refine ⟨fun h => (by rw [h] at hr; cases hr), fun j hj => ?_⟩
    by_cases hji : j = i
    · subst hji; exact hy.wpOp hi hS ⟨fun _ => hS, H⟩
    · have h1 := H.2 j (ready_mono hj hji)
      obtain ⟨hjun, oj, hoj, hall⟩ := mem_ready.1 hj
      have hiun := (mem_ready.1 hr).1
      have hjX : X.contains j = false := by
        cases hc : X.contains j with
        | false => rfl
        | true =>
          rcases hx j (by simpa using hc) with h | h
          · rw [hsub j h] at hjun; cases hjun
          · exact absurd hall (not_ready_of_waits listed hiun hcl n j oj hoj h)
      have hnot : ∀ e ∈ oj.after, Region.binds md e = true → e.on ≠ i := fun e he hb heq => by
        have h1 := hall e he hb
        rw [heq, getD_both hiun] at h1
        cases h1
      have h2 := wpOp_putIf hoj (hfree j oj hoj hji hjun hnot) (fun cs b => hsel i oi cs b hi) (fun cs b => hsel j oj cs b hoj) hQ hy h1
      have hfree' : ∀ k ok, ops[k]? = some ok → k ≠ i → (listed.setIfInBounds j true).getD k true = false →
          (∀ e ∈ ok.after, Region.binds md e = true → e.on ≠ i) → oi.apart ops ok = true := fun k ok hk hki hun hno => by
        refine hfree k ok hk hki ?_ hno
        by_cases hjk : j = k
        · subst hjk; exact hjun
        · rw [getD_set_ne true hjk] at hun; exact hun
      have hsub' : ∀ k, s0.getD k true = true → (listed.setIfInBounds j true).getD k true = true := fun k hk => by
        by_cases hjk : j = k
        · subst hjk; rw [hsub j hk] at hjun; cases hjun
        · rw [getD_set_ne true hjk]; exact hsub k hk
      have hcl' : ∀ k ok, ops[k]? = some ok → s0.getD k true = false → (listed.setIfInBounds j true).getD k false = true → ∀ e ∈ ok.after, Region.binds md e = true → (listed.setIfInBounds j true).getD e.on false = true := fun k ok hk h0 hl e he hb => by
        by_cases hjk : j = k
        · subst hjk
          have : ok = oj := Option.some.inj (hk.symm.trans hoj)
          subst this
          exact getD_set_true (hall e he hb)
        · rw [getD_set_ne false hjk] at hl
          exact getD_set_true (hcl k ok hk h0 hl e he hb)
      refine wpOp_mono (fun a' w' h3 => ⟨h3.2.1, ih (listed.setIfInBounds j true) a' w' hsub' hcl' hfree' (ready_mono hr (Ne.symm hji)) h3.1 (h3.2.1 hjX) ?_⟩) h2
      rw [Array.setIfInBounds_comm _ _ hji]
      exact h3.2.2

/-- An operation that looks at no world: whatever may come ahead of it. -/
theorem wpAnyX_firstP {i : Nat} {oi : Oper} {v : Value} (hi : ops[i]? = some oi) (hsel : ∀ (j : Nat) (o : Oper) cs b, ops[j]? = some o → o.op ≠ .select cs b)
    (hQ : ∀ c a w, Q (.panic c) (a.put oi.dst v) w → Q (.panic c) a w) (hX : X.contains i = true) :
    ∀ (fuel : Nat) (listed : Array Bool) (a : Act) (w : World),
      (∀ j oj, ops[j]? = some oj → j ≠ i → listed.getD j true = false → (∀ e ∈ oj.after, Region.binds md e = true → e.on ≠ i) → oi.apart ops oj = true) →
      i ∈ Region.ready md ops listed → YieldsIf P ops (fun _ => True) oi v a →
      wpAnyX P md ops Q S X fuel (listed.setIfInBounds i true) (a.put oi.dst v) w → wpAnyX P md ops Q S X (fuel + 1) listed a w := by
  intro fuel
  induction fuel with
  | zero =>
    intro listed a w _ hr hy H
    refine ⟨fun h => (by rw [h] at hr; cases hr), fun j hj => ?_⟩
    by_cases hji : j = i
    · subst hji; exact hy.wpOp hi trivial ⟨fun h => absurd (h.symm.trans hX) (by simp), H⟩
    · have := ready_mono hj hji
      rw [H.1] at this
      cases this
  | succ fuel ih =>
    intro listed a w hfree hr hy H
    refine ⟨fun h => (by rw [h] at hr; cases hr), fun j hj => ?_⟩
    by_cases hji : j = i
    · subst hji; exact hy.wpOp hi trivial ⟨fun h => absurd (h.symm.trans hX) (by simp), H⟩
    · have h1 := H.2 j (ready_mono hj hji)
      obtain ⟨hjun, oj, hoj, hall⟩ := mem_ready.1 hj
      have hiun := (mem_ready.1 hr).1
      have hnot : ∀ e ∈ oj.after, Region.binds md e = true → e.on ≠ i := fun e he hb heq => by
        have h1 := hall e he hb
        rw [heq, getD_both hiun] at h1
        cases h1
      have h2 := wpOp_putIf hoj (hfree j oj hoj hji hjun hnot) (fun cs b => hsel i oi cs b hi) (fun cs b => hsel j oj cs b hoj) hQ hy h1
      have hfree' : ∀ k ok, ops[k]? = some ok → k ≠ i → (listed.setIfInBounds j true).getD k true = false →
          (∀ e ∈ ok.after, Region.binds md e = true → e.on ≠ i) → oi.apart ops ok = true := fun k ok hk hki hun hno => by
        refine hfree k ok hk hki ?_ hno
        by_cases hjk : j = k
        · subst hjk; exact hjun
        · rw [getD_set_ne true hjk] at hun; exact hun
      refine wpOp_mono (fun a' w' h3 => ⟨h3.2.1, ih (listed.setIfInBounds j true) a' w' hfree' (ready_mono hr (Ne.symm hji)) h3.1 ?_⟩) h2
      rw [Array.setIfInBounds_comm _ _ hji]
      exact h3.2.2
end

section
variable {P : Program} {md : Region.Mode} {l : List Oper} {S : World → Prop} {Q : Exit → Act → World → Prop} {X : List Nat}

/-- All of X that has not come up waits for i. -/
def lateB (md : Region.Mode) (ops : Array Oper) (X : List Nat) (s : Array Bool) (i : Nat) : Bool := X.all fun x => s.getD x true || waitsB md ops s i ops.size x

theorem wpAnyX_S {fuel i : Nat} {listed : Array Bool} {oi : Oper} {v : Value} {a : Act} {w : World} (hi : l[i]? = some oi) (hs : Region.noSelect l.toArray = true) (hf : Region.free md l.toArray listed i = true) (hr : (Region.ready md l.toArray listed).contains i = true)
    (hx : lateB md l.toArray X listed i = true) (hQ : ∀ c a w, Q (.panic c) (a.put oi.dst v) w → Q (.panic c) a w) (hy : YieldsIf P l.toArray S oi v a) (hS : S w)
    (h : wpAnyX P md l.toArray Q S X fuel (listed.setIfInBounds i true) (a.put oi.dst v) w) : wpAnyX P md l.toArray Q S X (fuel + 1) listed a w :=
  wpAnyX_firstS (s0 := listed) (n := l.toArray.size) (by simpa using hi) (Region.noSelect_spec hs) hQ (fun x hx' => by
      have := List.all_eq_true.1 hx x hx'
      simpa using this) fuel listed a w (fun _ h => h) (fun j oj _ h0 h1 => by rw [getD_both h0] at h1; cases h1) (Region.free_spec (by simpa using hi) hf) (by simpa using hr) hy hS h

theorem wpAnyX_P {fuel i : Nat} {listed : Array Bool} {oi : Oper} {v : Value} {a : Act} {w : World} (hi : l[i]? = some oi) (hs : Region.noSelect l.toArray = true) (hf : Region.free md l.toArray listed i = true) (hr : (Region.ready md l.toArray listed).contains i = true)
    (hx : X.contains i = true) (hQ : ∀ c a w, Q (.panic c) (a.put oi.dst v) w → Q (.panic c) a w) (hy : YieldsIf P l.toArray (fun _ => True) oi v a)
    (h : wpAnyX P md l.toArray Q S X fuel (listed.setIfInBounds i true) (a.put oi.dst v) w) : wpAnyX P md l.toArray Q S X (fuel + 1) listed a w :=
  wpAnyX_firstP (by simpa using hi) (Region.noSelect_spec hs) hQ hx fuel listed a w (Region.free_spec (by simpa using hi) hf) (by simpa using hr) hy h

def chainT (md : Region.Mode) (ops : Array Oper) : List Nat → Array Bool → Bool
  | [], s => (Region.ready md ops s).isEmpty
  | k :: r, s => decide (Region.ready md ops s = [k]) && chainT md ops r (s.setIfInBounds k true)

/-- The forced tail as a plain list. -/
theorem wpAnyX_tail : ∀ (tl : List Nat) (rest : List Oper) (s : Array Bool) (a : Act) (w : World), chainT md l.toArray tl s = true → tl.all (fun k => X.contains k) = true → tl.map (fun k => l[k]?) = rest.map some → wpList P l.toArray Q rest a w → ∀ fuel, fuel = tl.length → wpAnyX P md l.toArray Q S X fuel s a w
  | [], rest, s, a, w, hc, _, hm, h, fuel, hf => by
    subst hf
    have : rest = [] := by simpa using hm.symm
    subst this
    exact ⟨by simpa [chainT] using hc, h⟩
  | k :: r, rest, s, a, w, hc, hX, hm, h, fuel, hf => by
    subst hf
    cases rest with
    | nil => simp at hm
    | cons o rest =>
      simp only [List.map_cons, List.cons.injEq] at hm
      simp only [chainT, Bool.and_eq_true, decide_eq_true_eq] at hc
      simp only [List.all_cons, Bool.and_eq_true] at hX
      refine ⟨fun h0 => (by rw [hc.1] at h0; cases h0), ?_⟩
      rw [hc.1]
      intro i hi
      obtain rfl : i = k := by simpa using hi
      have h0 : l.toArray[i]? = some o := by simpa using hm.1
      have hw : wpOp P l.toArray Q i (wpList P l.toArray Q rest) a w := by unfold wpOp; simp only [h0]; exact h
      exact wpOp_mono (fun a' w' h' => ⟨fun he => absurd (he.symm.trans hX.1) (by simp), wpAnyX_tail r rest _ a' w' hc.2 hX.2 hm.2 h' _ rfl⟩) hw

theorem wpAnyX_tailF (tl : List Nat) {s : Array Bool} {a : Act} {w : World} {fuel : Nat} (hc : chainT md l.toArray tl s = true) (hX : tl.all (fun k => X.contains k) = true) (hsome : tl.all (fun k => (l[k]?).isSome) = true) (hf : fuel = tl.length)
    (h : wpList P l.toArray Q (tl.filterMap fun k => l[k]?) a w) : wpAnyX P md l.toArray Q S X fuel s a w := by
  refine wpAnyX_tail tl _ s a w hc hX ?_ h fuel hf
  clear hc hX hf h
  induction tl with
  | nil => rfl
  | cons k r ih =>
    simp only [List.all_cons, Bool.and_eq_true] at hsome
    obtain ⟨o, ho⟩ := Option.isSome_iff_exists.1 hsome.1
    simp only [List.map_cons, List.filterMap_cons, ho]
    rw [ih hsome.2]

theorem wpAnyX_oneL {k f : Nat} {s : Array Bool} {o : Oper} {a : Act} {w : World} (ho : l[k]? = some o) (hr : Region.ready md l.toArray s = [k]) (hg : o.guard = none)
    (h : o.wp P a w (fun a' w' => (X.contains k = false → S w') ∧ wpAnyX P md l.toArray Q S X f (s.setIfInBounds k true) a' w') Q) : wpAnyX P md l.toArray Q S X (f + 1) s a w := by
  refine ⟨fun h0 => (by rw [hr] at h0; cases h0), ?_⟩
  rw [hr]
  intro i hi
  obtain rfl : i = k := by simpa using hi
  exact wpOp_ofL ho hg h

theorem wpAnyX_twoL {i j f : Nat} {s : Array Bool} {o o' : Oper} {a : Act} {w : World} (ho : l[i]? = some o) (ho' : l[j]? = some o') (hr : Region.ready md l.toArray s = [i, j]) (hg : o.guard = none) (hg' : o'.guard = none)
    (h : o.wp P a w (fun a' w' => (X.contains i = false → S w') ∧ wpAnyX P md l.toArray Q S X f (s.setIfInBounds i true) a' w') Q)
    (h' : o'.wp P a w (fun a' w' => (X.contains j = false → S w') ∧ wpAnyX P md l.toArray Q S X f (s.setIfInBounds j true) a' w') Q) : wpAnyX P md l.toArray Q S X (f + 1) s a w := by
  refine ⟨fun h0 => (by rw [hr] at h0; cases h0), ?_⟩
  rw [hr]
  intro k hk
  simp only [List.mem_cons, List.not_mem_nil, or_false] at hk
  rcases hk with rfl | rfl
  · exact wpOp_ofL ho hg h
  · exact wpOp_ofL ho' hg' h'

theorem wp_region_X {id : Nat} {a : Act} {w : World} (S : World → Prop) (X : List Nat) (hm : P.follows .mixedOrders = true) (hS : S w.drew)
    (h : S w.drew → wpAnyX P .any l.toArray (NoPanic Q) S X l.length (Array.replicate l.length false) a w.drew) : (Code.region id l.toArray true).wp P Q a w := by
  refine wp_region_noPanic ?_
  refine wp_region_any hm ?_
  have := wpAny_of_X _ _ _ _ (h hS)
  simpa using this
end
end Go.Proofs.YticcphppnmoogaaDoor

namespace Go.Proofs.YticcphppnmoogaaDoor
open Go.RowKit
attribute [local go_sem ↓] Go.wp_at_zero Go.wp_at_succ

theorem wp_of_call {P : Program} {o : Oper} {a : Act} {w : World} {K : Act → World → Prop} {Q : Exit → Act → World → Prop} {f : FuncId} {args : Array Value} {R : Ending → World → Prop} (hrun : (execOp a.eval o).run P w = .ok (.enter f args) w)
    (hc : Calls P f args w R) (h : ∀ e w', R e w' → ∃ v, e = .returned v ∧ K (a.put o.dst v) w') : o.wp P a w K Q := by
  unfold Oper.wp
  rw [hrun]
  refine hc.mono fun e w' hr => ?_
  obtain ⟨v, rfl, hk⟩ := h e w' hr
  exact hk
/-- A whole row stored over a whole row. -/
theorem wpList_store_all {P : Program} {ops : Array Oper} {rest : List Oper} {op : Oper} {a : Act} {w : World} {Q : Exit → Act → World → Prop} (hgd : op.guard = none) (ty : TypeId) (x y : Operand) (ho : op.op = .store ty x y)
    (g : Nat) (t : TypeId) (l vs : List Value) (hB : Blk w g t l.toArray) (hx : a.eval x = .pointer (some ⟨g, 0, none⟩)) (hy : a.eval y = .agg vs.toArray)
    (hl : vs.length = l.length) (hi : (P.info? ty).map (·.size) = some vs.length) (h1 : ∀ v ∈ vs, v.oneCell' = true)
    (h : ∀ w', Blk w' g t vs.toArray → w.grownBy w' (some g) → w'.heap.size = w.heap.size → wpList P ops Q rest (a.put op.dst undef) w') : wpList P ops Q (op :: rest) a w := by
  refine wpList_store_blk hgd ty x y ho g 0 t l vs hB hx hy (by omega) hi h1 fun w' h2 h3 h4 => ?_
  have e : l.take 0 ++ vs ++ l.drop (0 + vs.length) = vs := by simp [hl]
  rw [e] at h2
  exact h w' h2 h3 h4
theorem four_one (a b c d : Value) (ha : a.oneCell' = true) (hb : b.oneCell' = true) (hc : c.oneCell' = true) (hd : d.oneCell' = true) : ∀ v ∈ [a, b, c, d], v.oneCell' = true := by
  intro v hv
  simp only [List.mem_cons, List.not_mem_nil, or_false] at hv
  rcases hv with rfl | rfl | rfl | rfl <;> assumption
section
variable {ops : Array Oper} {rest : List Oper} {op : Oper} {a : Act} {w : World} {Q : Exit → Act → World → Prop} {g : Nat}
theorem ld_en {cs : Array Value} (hB : Blk w g 34 cs) (hgd : op.guard = none) (x : Operand) (ho : op.op = .load 34 x) (hx : a.eval x = .pointer (some ⟨g, 0, none⟩)) (hs : cs.size = 4)
    (h : wpList Tryd.prog ops Q rest (a.put op.dst (.agg cs)) w) : wpList Tryd.prog ops Q (op :: rest) a w :=
  wpList_load_row hgd 34 x ho g hx 34 cs (0, 0) _ hB Tryd.underlying34 rfl (by rw [enSize, hs]) h
theorem st_en {cs : Array Value} (hB : Blk w g 34 cs) (hgd : op.guard = none) (x y : Operand) (ho : op.op = .store 34 x y) (pa : Option Addr) (pl pc : Nat) (k m : Int) (da : Option Addr) (dl dc : Nat)
    (hx : a.eval x = .pointer (some ⟨g, 0, none⟩)) (hy : a.eval y = .agg #[.slice pa pl pc, .int .i64 k, .int .i64 m, .slice da dl dc]) (hs : cs.size = 4)
    (h : ∀ w', Blk w' g 34 #[.slice pa pl pc, .int .i64 k, .int .i64 m, .slice da dl dc] → w.grownBy w' (some g) → w'.heap.size = w.heap.size → wpList Tryd.prog ops Q rest (a.put op.dst undef) w') : wpList Tryd.prog ops Q (op :: rest) a w :=
  wpList_store_all hgd 34 x y ho g 34 cs.toList [.slice pa pl pc, .int .i64 k, .int .i64 m, .slice da dl dc] hB hx hy (by simp [hs]) enSize (four_one _ _ _ _ rfl rfl rfl rfl) h
end

theorem ownCapS {w : World} {base n size c : Nat} {e : TypeId} {A : Option Addr} {xs : List Value} (h : w.ownsRow base e size (.slice A n c) n xs) : n ≤ c ∧ c ≤ 9223372036854775807 := by
  obtain ⟨A', c', e, h1, h2⟩ := ownCap h
  injection e with _ _ e
  subst e
  unfold maxLen at h2
  exact ⟨h1, by omega⟩
/-- Its two slices are rows of the call's own. -/
structure ExOwn (w : World) (base : Nat) (x : Ex) : Prop where
  path : w.ownsRow base 9 1 (.slice x.pa x.e.path.length x.pc) x.e.path.length (strV x.e.path)
  data : w.ownsRow base 5 1 (.slice x.da x.e.data.length x.dc) x.e.data.length (u8s x.e.data)
  plen : x.e.path.length ≤ 100
  slen : ∀ s ∈ x.e.path, s.size ≤ 1000
  dlen : x.e.data.length ≤ 100000
  byte : ∀ b ∈ x.e.data, b < 256
theorem ExOwn.ok {w : World} {base : Nat} {x : Ex} (h : ExOwn w base x) : ExOk w w.heap.size x :=
  ⟨Reads.of_own h.path, Reads.of_own h.data, ownCapS h.path, ownCapS h.data, h.plen, h.slen, h.dlen, h.byte⟩
theorem ExOwn.far {w w' : World} {base g : Nat} {x : Ex} (h : ExOwn w base x) (hg : w.grownBy w' (some g)) (hb : g < base) : ExOwn w' base x :=
  ⟨h.path.kept hg (ownNe h.path hb), h.data.kept hg (ownNe h.data hb), h.plen, h.slen, h.dlen, h.byte⟩
theorem ExOwn.be {w w' : World} {base : Nat} {x : Ex} (h : ExOwn w base x) (hb : Below w.heap.size w w') : ExOwn w' base x :=
  ⟨own_below h.path hb, own_below h.data hb, h.plen, h.slen, h.dlen, h.byte⟩
theorem ExOwn.mono {w : World} {b b' : Nat} {x : Ex} (h : ExOwn w b x) (hb : b' ≤ b) : ExOwn w b' x :=
  ⟨own_mono h.path hb, own_mono h.data hb, h.plen, h.slen, h.dlen, h.byte⟩

def CopyPost (w : World) (e0 : En) (e : Ending) (w' : World) : Prop := ∃ x' : Ex, e = .returned (.agg (exC x').toArray) ∧ x'.e = e0 ∧ ExOwn w' w.heap.size x' ∧ Below w.heap.size w w'

set_option maxRecDepth 100000 in
set_option maxHeartbeats 2000000 in
theorem copied_any (x : Ex) (w : World) (hx : ExOk w w.heap.size x) : Calls Tryd.prog 25 #[.agg (exC x).toArray] w (CopyPost w x.e) := by
  obtain ⟨⟨p, k, m, d⟩, pa, pc, da, dc⟩ := x
  have hp : Reads w w.heap.size 1 pa p.length (strV p) := hx.path
  have hd : Reads w w.heap.size 1 da d.length (u8s d) := hx.data
  have hpl : p.length ≤ 100 := hx.plen
  have hdl : d.length ≤ 100000 := hx.dlen
  have HX := Sl.mk hx
  clear hx
  show Calls Tryd.prog 25 #[.agg #[.slice pa p.length pc, .int .i64 k, .int .i64 m, .slice da d.length dc]] w _
  obtain ⟨pl, hple⟩ : ∃ pl, p.length = pl := ⟨_, rfl⟩
  obtain ⟨dl, hdle⟩ : ∃ dl, d.length = dl := ⟨_, rfl⟩
  have HPL := Sl.mk hple
  have HDL := Sl.mk hdle
  rw [hple] at hp hpl ⊢
  rw [hdle] at hd hdl ⊢
  clear hple hdle
  obtain ⟨w0, hw0⟩ : ∃ w0, (w.alloc (.cells #[.slice pa pl pc, .int .i64 k, .int .i64 m, .slice da dl dc] 34)).alloc (.cells #[.slice none 0 0, .int .i64 0, .int .i64 0, .slice none 0 0] 34) = w0 := ⟨_, rfl⟩
  have hE0 : Below w.heap.size w w0 := by rw [← hw0]; exact below_al (below_al (Below.refl _ _) _) _
  have hX0 : Blk w0 w.heap.size 34 #[.slice pa pl pc, .int .i64 k, .int .i64 m, .slice da dl dc] := by rw [← hw0]; exact (Blk.new _ _ _).alloc _
  have hZ0 : Blk w0 (w.heap.size + 1) 34 #[.slice none 0 0, .int .i64 0, .int .i64 0, .slice none 0 0] := by rw [← hw0]; exact Blk.new' (by simp)
  have hs0 : w0.heap.size = w.heap.size + 2 := by rw [← hw0]; simp
  go_enter Tryd.func25, Tryd.ntmps25
  go_wp2_with fail
  clear hw0
  obtain ⟨wd, hwd⟩ : ∃ wd, w0.drew = wd := ⟨_, rfl⟩
  have hXd : Blk wd w.heap.size 34 #[.slice pa pl pc, .int .i64 k, .int .i64 m, .slice da dl dc] := by rw [← hwd]; exact hX0.drew
  have hZd : Blk wd (w.heap.size + 1) 34 #[.slice none 0 0, .int .i64 0, .int .i64 0, .slice none 0 0] := by rw [← hwd]; exact hZ0.drew
  have hEd : Below w.heap.size w wd := by rw [← hwd]; exact hE0.drew
  have hsd : wd.heap.size = w.heap.size + 2 := by rw [← hwd]; exact hs0
  have HSF : Sl (∀ W, Below wd.heap.size wd W → W.cell? ⟨w.heap.size, 0, none⟩ = some (.slice pa pl pc) ∧ W.cell? ⟨w.heap.size, 3, none⟩ = some (.slice da dl dc)) := Sl.mk (fun W hW =>
    ⟨(hXd.below hW hXd.lt).cell 0, (hXd.below hW hXd.lt).cell 3⟩)
  refine wp_region_X (fun W => Below wd.heap.size wd W) [7, 8, 9] (by kernel_rfl) (by rw [hwd]; exact Below.refl _ _) (fun hS => ?_)
  rw [hwd] at hS ⊢
  clear hwd hX0 hZ0 hE0 hs0
  have eg1 : ∀ args w, (callFunc 38 args).run Tryd.prog w = .ok (.enter 38 args) w := enters_of Tryd.func38 (by kernel_rfl) rfl
  have eg2 : ∀ args w, (callFunc 39 args).run Tryd.prog w = .ok (.enter 39 args) w := enters_of Tryd.func39 (by kernel_rfl) rfl
  refine wpAnyX_S (i := 0) (v := ?_) rfl (by kernel_rfl) (by kernel_rfl) (by kernel_rfl) (by kernel_rfl) (fun _ _ _ h => h) (Or.inl ⟨by rfl, ?_⟩) hS ?_
  rotate_left 1
  · (intro w' hw'; (first | rw [hw'] | (have hw2 := HSF.out w' hw') | skip); go_simp; (try with_reducible rfl))
  simp only [Act.put, List.setIfInBounds_toArray, List.set_cons_zero, List.set_cons_succ]
  refine wpAnyX_S (i := 3) (v := ?_) rfl (by kernel_rfl) (by kernel_rfl) (by kernel_rfl) (by kernel_rfl) (fun _ _ _ h => h) (Or.inl ⟨by rfl, ?_⟩) hS ?_
  rotate_left 1
  · (intro w' hw'; (first | rw [hw'] | (have hw2 := HSF.out w' hw') | skip); go_simp; (try with_reducible rfl))
  simp only [Act.put, List.setIfInBounds_toArray, List.set_cons_zero, List.set_cons_succ]
  refine wpAnyX_S (i := 1) (v := ?_) rfl (by kernel_rfl) (by kernel_rfl) (by kernel_rfl) (by kernel_rfl) (fun _ _ _ h => h) (Or.inl ⟨by rfl, ?_⟩) hS ?_
  rotate_left 1
  · (intro w' hw'; (first | rw [hw'] | (have hw2 := HSF.out w' hw') | skip); go_simp; (try with_reducible rfl))
  simp only [Act.put, List.setIfInBounds_toArray, List.set_cons_zero, List.set_cons_succ]
  refine wpAnyX_S (i := 4) (v := ?_) rfl (by kernel_rfl) (by kernel_rfl) (by kernel_rfl) (by kernel_rfl) (fun _ _ _ h => h) (Or.inl ⟨by rfl, ?_⟩) hS ?_
  rotate_left 1
  · (intro w' hw'; (first | rw [hw'] | (have hw2 := HSF.out w' hw') | skip); go_simp; (try with_reducible rfl))
  simp only [Act.put, List.setIfInBounds_toArray, List.set_cons_zero, List.set_cons_succ]
  refine wpAnyX_oneL (k := 2) rfl (by kernel_rfl) rfl ?_
  refine wp_of_call (f := 38) (args := #[.slice pa pl pc]) (by go_simp) (sclone_any pa pl pc p wd (by omega) ((hp.below hEd).more (by omega))) (fun e w1 hq => ?_)
  obtain ⟨v1, rfl, hown1, hB1⟩ := hq
  obtain ⟨A1, c1, rfl⟩ := ownForm hown1
  refine ⟨_, rfl, fun _ => hB1, ?_⟩
  simp only [Act.put, List.setIfInBounds_toArray, List.set_cons_zero, List.set_cons_succ]
  have hS1 : Below wd.heap.size wd w1 := hB1
  clear hS
  have hS := hS1
  refine wpAnyX_S (i := 6) (v := ?_) rfl (by kernel_rfl) (by kernel_rfl) (by kernel_rfl) (by kernel_rfl) (fun _ _ _ h => h) (Or.inl ⟨by rfl, ?_⟩) hS ?_
  rotate_left 1
  · (intro w' hw'; (first | rw [hw'] | (have hw2 := HSF.out w' hw') | skip); go_simp; (try with_reducible rfl))
  simp only [Act.put, List.setIfInBounds_toArray, List.set_cons_zero, List.set_cons_succ]
  refine wpAnyX_oneL (k := 5) rfl (by kernel_rfl) rfl ?_
  refine wp_of_call (f := 39) (args := #[.slice da dl dc]) (by go_simp) (bclone_any da dl dc d w1 (by omega) (((hd.below hEd).more (by omega)).below hB1 |>.more hB1.size)) (fun e w2 hq => ?_)
  obtain ⟨v2, rfl, hown2, hB2⟩ := hq
  obtain ⟨A2, c2, rfl⟩ := ownForm hown2
  refine ⟨_, rfl, fun _ => below_tr hB1 hB2, ?_⟩
  simp only [Act.put, List.setIfInBounds_toArray, List.set_cons_zero, List.set_cons_succ]
  refine wpAnyX_tailF [7, 8, 9] (by kernel_rfl) (by rfl) (by rfl) (by rfl) ?_
  simp only [List.filterMap_cons, List.filterMap_nil, List.getElem?_cons_succ, List.getElem?_cons_zero]
  have hB12 := below_tr hB1 hB2
  have hX2 := hXd.below hB12 hXd.lt
  have hZ2 := hZd.below hB12 hZd.lt
  have hE2 : Below w.heap.size w w2 := below_tr hEd hB12
  have ho1 := own_below hown1 hB2
  have ho2 := own_mono (b' := wd.heap.size) hown2 hB1.size
  clear hS hS1 hB1 hB2 hB12 hown1 hown2 hEd hXd hZd HSF hp hd
  have c0 := hX2.cell 0
  have f0 := hX2.frozen 0
  have f3 := hX2.frozen 3
  have c3 := hX2.cell 3
  have hX3 : Blk (w2.setCell ⟨w.heap.size, 0, none⟩ (.slice A1 pl c1)) w.heap.size 34 #[.slice A1 pl c1, .int .i64 k, .int .i64 m, .slice da dl dc] := blk_set _ _ _ _ 0 _ _ hX2 rfl
  have hX4 : Blk ((w2.setCell ⟨w.heap.size, 0, none⟩ (.slice A1 pl c1)).setCell ⟨w.heap.size, 3, none⟩ (.slice A2 dl c2)) w.heap.size 34 #[.slice A1 pl c1, .int .i64 k, .int .i64 m, .slice A2 dl c2] := blk_set _ _ _ _ 3 _ _ hX3 rfl
  have hG4 : w2.grownBy ((w2.setCell ⟨w.heap.size, 0, none⟩ (.slice A1 pl c1)).setCell ⟨w.heap.size, 3, none⟩ (.slice A2 dl c2)) (some w.heap.size) := only_setCell (only_setCell (only_refl _ _) _ _) _ _
  have hZ4 := blk_only hZ2 hG4 (by omega)
  have HG4 := Sl.mk hG4
  have HO := Sl.mk (And.intro ho1 ho2)
  have HE2 := Sl.mk hE2
  clear ho1 ho2 hG4 hZ2 hX2 hX3 hE2
  go_wp2_with fail
  refine NoPanic.normal ?_
  go_wp2_with (first | refine ld_en hX4 rfl (.tmp 1) rfl rfl rfl ?_ | refine st_en hZ4 rfl (.tmp 2) (.tmp 11) rfl A1 pl c1 k m A2 dl c2 rfl rfl rfl ?_)
  intro w5 hZ5 hG5 _
  obtain ⟨ho1, ho2⟩ := HO.out
  have ho1' := (ho1.kept HG4.out (ownNe ho1 (by omega))).kept hG5 (ownNe ho1 (by omega))
  have ho2' := (ho2.kept HG4.out (ownNe ho2 (by omega))).kept hG5 (ownNe ho2 (by omega))
  have hE4 := below_only HE2.out HG4.out HE2.out.size (Nat.le_refl _)
  have hE5 := below_only hE4 hG5 hE4.size (by omega)
  have HF := Sl.mk (And.intro hE5 (And.intro ho1' ho2'))
  clear ho1 ho2 ho1' ho2' hE4 hE5 hG5 hX4 hZ4
  go_wp2_with fail
  refine bodyPost_ret (res_cell Tryd.results25 _ _ _ rfl hZ5 Tryd.underlying34 enSize) rfl ?_
  obtain ⟨hE5, ho1, ho2⟩ := HF.out
  have hx := HX.out
  refine ⟨⟨⟨p, k, m, d⟩, A1, c1, A2, c2⟩, ?_, rfl, ?_, hE5⟩
  · show Ending.returned (.agg #[.slice A1 pl c1, .int .i64 k, .int .i64 m, .slice A2 dl c2]) = .returned (.agg #[.slice A1 p.length c1, .int .i64 k, .int .i64 m, .slice A2 d.length c2])
    rw [HPL.out, HDL.out]
  · rw [← HPL.out] at ho1
    rw [← HDL.out] at ho2
    exact ⟨own_mono ho1 (by omega), own_mono ho2 (by omega), hx.plen, hx.slen, hx.dlen, hx.byte⟩

end Go.Proofs.YticcphppnmoogaaDoor
