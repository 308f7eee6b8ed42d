/-
  A region that draws its order: operations that only read are taken first, under a condition that the last ones (a store into a cell that was loaded) need not keep; then a forced tail as a plain list.
  The contracts of creelref05.parts and Parse.
  A region that draws its order: a web of operations that make memory, in whatever order they come: each has its own word of what it leaves, which later memory keeps.
-/
import Derived.Test.YtmgblbkmbiiofaaDoorMd7
import Derived.Test.YtmgblbkmbiiofaaDoorMd1

namespace Go.Proofs.YtmgblbkmbiiofaaDoor
open Go

section
variable {P : Program} {md : Region.Mode} {ops : Array Oper} {S : World → Prop} {Q : Exit → Act → World → Prop} {X : List Nat}

/-- As wpAnyH, but the operations of X need not keep S. -/
def wpAnyX (P : Program) (md : Region.Mode) (ops : Array Oper) (Q : Exit → Act → World → Prop) (S : World → Prop) (X : List Nat) : Nat → Array Bool → Act → World → Prop
  | 0, listed, a, w => Region.ready md ops listed = [] ∧ Q .normal a w
  | fuel + 1, listed, a, w =>
    (Region.ready md ops listed = [] → Q .normal a w) ∧
    ∀ i ∈ Region.ready md ops listed, wpOp P ops Q i (fun a' w' => (X.contains i = false → S w') ∧ wpAnyX P md ops Q S X fuel (listed.setIfInBounds i true) a' w') a w

theorem wpAny_of_X : ∀ (fuel : Nat) (listed : Array Bool) (a : Act) (w : World), wpAnyX P md ops Q S X fuel listed a w → wpAny P md ops Q fuel listed a w
  | 0, _, _, _, h => h
  | fuel + 1, _, _, _, h => ⟨h.1, fun i hi => wpOp_mono (fun a' w' h' => wpAny_of_X fuel _ a' w' h'.2) (h.2 i hi)⟩

/-- Operation x waits for operation i, over operations that have not come up in s. -/
def waitsB (md : Region.Mode) (ops : Array Oper) (s : Array Bool) (i : Nat) : Nat → Nat → Bool
  | 0, _ => false
  | f + 1, x => match ops[x]? with
    | none => false
    | some o => o.after.any fun e => Region.binds md e && (e.on == i || (!(s.getD e.on true) && waitsB md ops s i f e.on))

theorem not_ready_of_waits {s : Array Bool} {i : Nat} (s' : Array Bool) (hi : s'.getD i true = false) (hcl : ∀ j oj, ops[j]? = some oj → s.getD j true = false → s'.getD j false = true → ∀ e ∈ oj.after, Region.binds md e = true → s'.getD e.on false = true) :
    ∀ (f x : Nat) (o : Oper), ops[x]? = some o → waitsB md ops s i f x = true → ¬ ∀ e ∈ o.after, Region.binds md e = true → s'.getD e.on false = true
  | 0, _, _, _, h => by simp [waitsB] at h
  | f + 1, x, o, ho, h => fun hall => by
    simp only [waitsB, ho, Array.any_eq_true', Bool.and_eq_true, Bool.or_eq_true, beq_iff_eq, Bool.not_eq_true'] at h
    obtain ⟨e, he, hb, h⟩ := h
    have h1 := hall e he hb
    rcases h with h | ⟨h, hw⟩
    · rw [h, getD_both hi] at h1
      cases h1
    · cases hop : ops[e.on]? with
      | none => cases f with
        | zero => simp [waitsB] at hw
        | succ f => simp [waitsB, hop] at hw
      | some oj => exact not_ready_of_waits s' hi hcl f e.on oj hop hw (hcl e.on oj hop h h1)

/-- An operation that reads: nothing of X may come ahead of it. -/
theorem wpAnyX_firstS {s0 : Array Bool} {i : Nat} {oi : Oper} {v : Value} (hi : ops[i]? = some oi) (hsel : ∀ (j : Nat) (o : Oper) cs b, ops[j]? = some o → o.op ≠ .select cs b)
    (hQ : ∀ c a w, Q (.panic c) (a.put oi.dst v) w → Q (.panic c) a w) {n : Nat} (hx : ∀ x ∈ X, s0.getD x true = true ∨ waitsB md ops s0 i n x = true) :
    ∀ (fuel : Nat) (listed : Array Bool) (a : Act) (w : World),
      (∀ j, s0.getD j true = true → listed.getD j true = true) →
      (∀ j oj, ops[j]? = some oj → s0.getD j true = false → listed.getD j false = true → ∀ e ∈ oj.after, Region.binds md e = true → listed.getD e.on false = true) →
      (∀ j oj, ops[j]? = some oj → j ≠ i → listed.getD j true = false → (∀ e ∈ oj.after, Region.binds md e = true → e.on ≠ i) → oi.apart ops oj = true) →
      i ∈ Region.ready md ops listed → YieldsIf P ops S oi v a → S w →
      wpAnyX P md ops Q S X fuel (listed.setIfInBounds i true) (a.put oi.dst v) w → wpAnyX P md ops Q S X (fuel + 1) listed a w := by
  intro fuel
  induction fuel with
  | zero =>
    intro listed a w _ _ _ hr hy hS H
    refine ⟨fun h => (by rw [h] at hr; cases hr), fun j hj => ?_⟩
    by_cases hji : j = i
    · subst hji; exact hy.wpOp hi hS ⟨fun _ => hS, H⟩
    · have := ready_mono hj hji
      rw [H.1] at this
      cases this
  | succ fuel ih =>
    intro listed a w hsub hcl hfree hr hy hS H
    refine ⟨fun h => (by rw [h] at hr; cases hr), fun j hj => ?_⟩
    by_cases hji : j = i
    · subst hji; exact hy.wpOp hi hS ⟨fun _ => hS, H⟩
    · have h1 := H.2 j (ready_mono hj hji)
      obtain ⟨hjun, oj, hoj, hall⟩ := mem_ready.1 hj
      have hiun := (mem_ready.1 hr).1
      have hjX : X.contains j = false := by
        cases hc : X.contains j with
        | false => rfl
        | true =>
          rcases hx j (by simpa using hc) with h | h
          · rw [hsub j h] at hjun; cases hjun
          · exact absurd hall (not_ready_of_waits listed hiun hcl n j oj hoj h)
      have hnot : ∀ e ∈ oj.after, Region.binds md e = true → e.on ≠ i := fun e he hb heq => by
        have h1 := hall e he hb
        rw [heq, getD_both hiun] at h1
        cases h1
      have h2 := wpOp_putIf hoj (hfree j oj hoj hji hjun hnot) (fun cs b => hsel i oi cs b hi) (fun cs b => hsel j oj cs b hoj) hQ hy h1
      have hfree' : ∀ k ok, ops[k]? = some ok → k ≠ i → (listed.setIfInBounds j true).getD k true = false →
          (∀ e ∈ ok.after, Region.binds md e = true → e.on ≠ i) → oi.apart ops ok = true := fun k ok hk hki hun hno => by
        refine hfree k ok hk hki ?_ hno
        by_cases hjk : j = k
        · subst hjk; exact hjun
        · rw [getD_set_ne true hjk] at hun; exact hun
      have hsub' : ∀ k, s0.getD k true = true → (listed.setIfInBounds j true).getD k true = true := fun k hk => by
        by_cases hjk : j = k
        · subst hjk; rw [hsub j hk] at hjun; cases hjun
        · rw [getD_set_ne true hjk]; exact hsub k hk
      have hcl' : ∀ k ok, ops[k]? = some ok → s0.getD k true = false → (listed.setIfInBounds j true).getD k false = true → ∀ e ∈ ok.after, Region.binds md e = true → (listed.setIfInBounds j true).getD e.on false = true := fun k ok hk h0 hl e he hb => by
        by_cases hjk : j = k
        · subst hjk
          have : ok = oj := Option.some.inj (hk.symm.trans hoj)
          subst this
          exact getD_set_true (hall e he hb)
        · rw [getD_set_ne false hjk] at hl
          exact getD_set_true (hcl k ok hk h0 hl e he hb)
      refine wpOp_mono (fun a' w' h3 => ⟨h3.2.1, ih (listed.setIfInBounds j true) a' w' hsub' hcl' hfree' (ready_mono hr (Ne.symm hji)) h3.1 (h3.2.1 hjX) ?_⟩) h2
      rw [Array.setIfInBounds_comm _ _ hji]
      exact h3.2.2

/-- An operation that looks at no world: whatever may come ahead of it. -/
theorem wpAnyX_firstP {i : Nat} {oi : Oper} {v : Value} (hi : ops[i]? = some oi) (hsel : ∀ (j : Nat) (o : Oper) cs b, ops[j]? = some o → o.op ≠ .select cs b)
    (hQ : ∀ c a w, Q (.panic c) (a.put oi.dst v) w → Q (.panic c) a w) (hX : X.contains i = true) :
    ∀ (fuel : Nat) (listed : Array Bool) (a : Act) (w : World),
      (∀ j oj, ops[j]? = some oj → j ≠ i → listed.getD j true = false → (∀ e ∈ oj.after, Region.binds md e = true → e.on ≠ i) → oi.apart ops oj = true) →
      i ∈ Region.ready md ops listed → YieldsIf P ops (fun _ => True) oi v a →
      wpAnyX P md ops Q S X fuel (listed.setIfInBounds i true) (a.put oi.dst v) w → wpAnyX P md ops Q S X (fuel + 1) listed a w := by
  intro fuel
  induction fuel with
  | zero =>
    intro listed a w _ hr hy H
    refine ⟨fun h => (by rw [h] at hr; cases hr), fun j hj => ?_⟩
    by_cases hji : j = i
    · subst hji; exact hy.wpOp hi trivial ⟨fun h => absurd (h.symm.trans hX) (by simp), H⟩
    · have := ready_mono hj hji
      rw [H.1] at this
      cases this
  | succ fuel ih =>
    intro listed a w hfree hr hy H
    refine ⟨fun h => (by rw [h] at hr; cases hr), fun j hj => ?_⟩
    by_cases hji : j = i
    · subst hji; exact hy.wpOp hi trivial ⟨fun h => absurd (h.symm.trans hX) (by simp), H⟩
    · have h1 := H.2 j (ready_mono hj hji)
      obtain ⟨hjun, oj, hoj, hall⟩ := mem_ready.1 hj
      have hiun := (mem_ready.1 hr).1
      have hnot : ∀ e ∈ oj.after, Region.binds md e = true → e.on ≠ i := fun e he hb heq => by
        have h1 := hall e he hb
        rw [heq, getD_both hiun] at h1
        cases h1
      have h2 := wpOp_putIf hoj (hfree j oj hoj hji hjun hnot) (fun cs b => hsel i oi cs b hi) (fun cs b => hsel j oj cs b hoj) hQ hy h1
      have hfree' : ∀ k ok, ops[k]? = some ok → k ≠ i → (listed.setIfInBounds j true).getD k true = false →
          (∀ e ∈ ok.after, Region.binds md e = true → e.on ≠ i) → oi.apart ops ok = true := fun k ok hk hki hun hno => by
        refine hfree k ok hk hki ?_ hno
        by_cases hjk : j = k
        · subst hjk; exact hjun
        · rw [getD_set_ne true hjk] at hun; exact hun
      refine wpOp_mono (fun a' w' h3 => ⟨h3.2.1, ih (listed.setIfInBounds j true) a' w' hfree' (ready_mono hr (Ne.symm hji)) h3.1 ?_⟩) h2
      rw [Array.setIfInBounds_comm _ _ hji]
      exact h3.2.2
end

section
variable {P : Program} {md : Region.Mode} {l : List Oper} {S : World → Prop} {Q : Exit → Act → World → Prop} {X : List Nat}

/-- All of X that has not come up waits for i. -/
def lateB (md : Region.Mode) (ops : Array Oper) (X : List Nat) (s : Array Bool) (i : Nat) : Bool := X.all fun x => s.getD x true || waitsB md ops s i ops.size x

theorem wpAnyX_S {fuel i : Nat} {listed : Array Bool} {oi : Oper} {v : Value} {a : Act} {w : World} (hi : l[i]? = some oi) (hs : Region.noSelect l.toArray = true) (hf : Region.free md l.toArray listed i = true) (hr : (Region.ready md l.toArray listed).contains i = true)
    (hx : lateB md l.toArray X listed i = true) (hQ : ∀ c a w, Q (.panic c) (a.put oi.dst v) w → Q (.panic c) a w) (hy : YieldsIf P l.toArray S oi v a) (hS : S w)
    (h : wpAnyX P md l.toArray Q S X fuel (listed.setIfInBounds i true) (a.put oi.dst v) w) : wpAnyX P md l.toArray Q S X (fuel + 1) listed a w :=
  wpAnyX_firstS (s0 := listed) (n := l.toArray.size) (by simpa using hi) (Region.noSelect_spec hs) hQ (fun x hx' => by
      have := List.all_eq_true.1 hx x hx'
      simpa using this) fuel listed a w (fun _ h => h) (fun j oj _ h0 h1 => by rw [getD_both h0] at h1; cases h1) (Region.free_spec (by simpa using hi) hf) (by simpa using hr) hy hS h

theorem wpAnyX_P {fuel i : Nat} {listed : Array Bool} {oi : Oper} {v : Value} {a : Act} {w : World} (hi : l[i]? = some oi) (hs : Region.noSelect l.toArray = true) (hf : Region.free md l.toArray listed i = true) (hr : (Region.ready md l.toArray listed).contains i = true)
    (hx : X.contains i = true) (hQ : ∀ c a w, Q (.panic c) (a.put oi.dst v) w → Q (.panic c) a w) (hy : YieldsIf P l.toArray (fun _ => True) oi v a)
    (h : wpAnyX P md l.toArray Q S X fuel (listed.setIfInBounds i true) (a.put oi.dst v) w) : wpAnyX P md l.toArray Q S X (fuel + 1) listed a w :=
  wpAnyX_firstP (by simpa using hi) (Region.noSelect_spec hs) hQ hx fuel listed a w (Region.free_spec (by simpa using hi) hf) (by simpa using hr) hy h

def chainT (md : Region.Mode) (ops : Array Oper) : List Nat → Array Bool → Bool
  | [], s => (Region.ready md ops s).isEmpty
  | k :: r, s => decide (Region.ready md ops s = [k]) && chainT md ops r (s.setIfInBounds k true)

/-- The forced tail as a plain list. -/
theorem wpAnyX_tail : ∀ (tl : List Nat) (rest : List Oper) (s : Array Bool) (a : Act) (w : World), chainT md l.toArray tl s = true → tl.all (fun k => X.contains k) = true → tl.map (fun k => l[k]?) = rest.map some → wpList P l.toArray Q rest a w → ∀ fuel, fuel = tl.length → wpAnyX P md l.toArray Q S X fuel s a w
  | [], rest, s, a, w, hc, _, hm, h, fuel, hf => by
    subst hf
    have : rest = [] := by simpa using hm.symm
    subst this
    exact ⟨by simpa [chainT] using hc, h⟩
  | k :: r, rest, s, a, w, hc, hX, hm, h, fuel, hf => by
    subst hf
    cases rest with
    | nil => simp at hm
    | cons o rest =>
      simp only [List.map_cons, List.cons.injEq] at hm
      simp only [chainT, Bool.and_eq_true, decide_eq_true_eq] at hc
      simp only [List.all_cons, Bool.and_eq_true] at hX
      refine ⟨fun h0 => (by rw [hc.1] at h0; cases h0), ?_⟩
      rw [hc.1]
      intro i hi
      obtain rfl : i = k := by simpa using hi
      have h0 : l.toArray[i]? = some o := by simpa using hm.1
      have hw : wpOp P l.toArray Q i (wpList P l.toArray Q rest) a w := by unfold wpOp; simp only [h0]; exact h
      exact wpOp_mono (fun a' w' h' => ⟨fun he => absurd (he.symm.trans hX.1) (by simp), wpAnyX_tail r rest _ a' w' hc.2 hX.2 hm.2 h' _ rfl⟩) hw

theorem wpAnyX_tailF (tl : List Nat) {s : Array Bool} {a : Act} {w : World} {fuel : Nat} (hc : chainT md l.toArray tl s = true) (hX : tl.all (fun k => X.contains k) = true) (hsome : tl.all (fun k => (l[k]?).isSome) = true) (hf : fuel = tl.length)
    (h : wpList P l.toArray Q (tl.filterMap fun k => l[k]?) a w) : wpAnyX P md l.toArray Q S X fuel s a w := by
  refine wpAnyX_tail tl _ s a w hc hX ?_ h fuel hf
  clear hc hX hf h
  induction tl with
  | nil => rfl
  | cons k r ih =>
    simp only [List.all_cons, Bool.and_eq_true] at hsome
    obtain ⟨o, ho⟩ := Option.isSome_iff_exists.1 hsome.1
    simp only [List.map_cons, List.filterMap_cons, ho]
    rw [ih hsome.2]

theorem wpAnyX_oneL {k f : Nat} {s : Array Bool} {o : Oper} {a : Act} {w : World} (ho : l[k]? = some o) (hr : Region.ready md l.toArray s = [k]) (hg : o.guard = none)
    (h : o.wp P a w (fun a' w' => (X.contains k = false → S w') ∧ wpAnyX P md l.toArray Q S X f (s.setIfInBounds k true) a' w') Q) : wpAnyX P md l.toArray Q S X (f + 1) s a w := by
  refine ⟨fun h0 => (by rw [hr] at h0; cases h0), ?_⟩
  rw [hr]
  intro i hi
  obtain rfl : i = k := by simpa using hi
  exact wpOp_ofL ho hg h

theorem wpAnyX_twoL {i j f : Nat} {s : Array Bool} {o o' : Oper} {a : Act} {w : World} (ho : l[i]? = some o) (ho' : l[j]? = some o') (hr : Region.ready md l.toArray s = [i, j]) (hg : o.guard = none) (hg' : o'.guard = none)
    (h : o.wp P a w (fun a' w' => (X.contains i = false → S w') ∧ wpAnyX P md l.toArray Q S X f (s.setIfInBounds i true) a' w') Q)
    (h' : o'.wp P a w (fun a' w' => (X.contains j = false → S w') ∧ wpAnyX P md l.toArray Q S X f (s.setIfInBounds j true) a' w') Q) : wpAnyX P md l.toArray Q S X (f + 1) s a w := by
  refine ⟨fun h0 => (by rw [hr] at h0; cases h0), ?_⟩
  rw [hr]
  intro k hk
  simp only [List.mem_cons, List.not_mem_nil, or_false] at hk
  rcases hk with rfl | rfl
  · exact wpOp_ofL ho hg h
  · exact wpOp_ofL ho' hg' h'

theorem wp_region_X {id : Nat} {a : Act} {w : World} (S : World → Prop) (X : List Nat) (hm : P.follows .mixedOrders = true) (hS : S w.drew)
    (h : S w.drew → wpAnyX P .any l.toArray (NoPanic Q) S X l.length (Array.replicate l.length false) a w.drew) : (Code.region id l.toArray true).wp P Q a w := by
  refine wp_region_noPanic ?_
  refine wp_region_any hm ?_
  have := wpAny_of_X _ _ _ _ (h hS)
  simpa using this
end
end Go.Proofs.YtmgblbkmbiiofaaDoor

namespace Go.Proofs.YtmgblbkmbiiofaaDoor
open Go.RowKit
attribute [local go_sem ↓] Go.wp_at_zero Go.wp_at_succ

theorem str_cut (s : ByteArray) (a b : Nat) (x y : Int) (hx : x = a) (hy : y = b) (h1 : a ≤ b) (h2 : b ≤ s.size) (w : World) :
    (Instr.slice 9 (.string s) (some (.int .i64 x)) (some (.int .i64 y)) none).run Tryd.prog w = .ok (.string (s.extract a b)) w := by
  subst hx hy
  rw [run_slice_string_if w 9 s .i64 .i64 (a : Int) (b : Int) Tryd.underlying9, if_pos ⟨by omega, by omega⟩, if_pos ⟨by omega, by omega⟩]
  have e : (b : Int).toNat = b := by omega
  rw [e]; rfl

/-- What the rest of the bytes makes of the parts so far. -/
def PartsSt (s : ByteArray) (q : List ByteArray) (T : ByteArray) (i : Nat) : Prop :=
  ∀ x t, Lib.split (s.data.toList.drop i) [47] = x :: t → Lib.split s.data.toList [47] = q.map (·.data.toList) ++ (T.data.toList ++ x) :: t
theorem parts_start (s : ByteArray) : PartsSt s [] ⟨#[]⟩ 0 := fun x t h => by simpa using h
theorem parts_slash {s : ByteArray} {q : List ByteArray} {T : ByteArray} {i : Nat} {c : UInt8} (h : PartsSt s q T i) (hc : s.data.toList[i]? = some c) (h47 : c = 47) : PartsSt s (q ++ [T]) ⟨#[]⟩ (i + 1) := fun x t hx => by
  have h1 := h [] (x :: t) (by rw [drop_cons1 hc, h47, split_eq, hx])
  rw [h1]; simp
theorem extract_one {s : ByteArray} {i : Nat} {c : UInt8} (hc : s.data.toList[i]? = some c) : (s.extract i (i + 1)).data.toList = [c] := by
  rw [ByteArray.data_extract, Array.toList_extract]
  simp only [List.extract_eq_take_drop]
  rw [drop_cons1 hc]
  simp
theorem parts_sign {s : ByteArray} {q : List ByteArray} {T : ByteArray} {i : Nat} {c : UInt8} (h : PartsSt s q T i) (hc : s.data.toList[i]? = some c) (h47 : c ≠ 47) : PartsSt s q (T ++ s.extract i (i + 1)) (i + 1) := fun x t hx => by
  obtain ⟨y, u, e1, e2⟩ := split_ne (s.data.toList.drop (i + 1)) h47
  rw [hx] at e1
  injection e1 with e3 e4
  subst e3 e4
  have h1 := h (c :: x) t (by rw [drop_cons1 hc, e2])
  rw [h1, ba_data, extract_one hc]; simp
theorem parts_end {s : ByteArray} {q : List ByteArray} {T : ByteArray} {i : Nat} (h : PartsSt s q T i) (hi : s.size ≤ i) : partsF s = q ++ [T] := by
  apply map_data_inj
  rw [parts_data]
  have hd : s.data.toList.drop i = [] := List.drop_of_length_le (by simpa using hi)
  have h1 := h [] [] (by rw [hd, split_nil])
  rw [h1]; simp

def PartsPost (w : World) (s : ByteArray) (e : Ending) (w' : World) : Prop :=
  ∃ A c, e = .returned (.slice A (partsF s).length c) ∧ w'.ownsRow w.heap.size 9 1 (.slice A (partsF s).length c) (partsF s).length (strV (partsF s)) ∧ Below w.heap.size w w'


end Go.Proofs.YtmgblbkmbiiofaaDoor

namespace Go.Proofs.YtmgblbkmbiiofaaDoor
open Go Go.RowKit

def subsF : List Nat → List (List Nat)
  | [] => [[]]
  | k :: r => subsF r ++ (subsF r).map (k :: ·)
theorem filter_subs (p : Nat → Bool) : ∀ F : List Nat, F.filter p ∈ subsF F
  | [] => by simp [subsF]
  | k :: r => by
    have h := filter_subs p r
    simp only [subsF, List.filter_cons, List.mem_append, List.mem_map]
    split
    · exact .inr ⟨_, h, rfl⟩
    · exact .inl h
def setL (D : List Nat) (s : Array Bool) : Array Bool := D.foldl (fun s k => s.setIfInBounds k true) s
def putL (dst : Nat → Nat) (σ : Nat → Value) (D : List Nat) (a : Act) : Act := D.foldl (fun a k => a.put (some (dst k)) (σ k)) a
theorem put_comm (a : Act) {i j : Nat} (h : i ≠ j) (v u : Value) : (a.put (some i) v).put (some j) u = (a.put (some j) u).put (some i) v := by
  simp only [Act.put]; rw [Array.setIfInBounds_comm _ _ h]
theorem setL_in : ∀ (D : List Nat) (s : Array Bool) (k : Nat), k ∉ D → (setL D s).setIfInBounds k true = setL D (s.setIfInBounds k true)
  | [], _, _, _ => rfl
  | j :: D, s, k, h => by
    simp only [List.mem_cons, not_or] at h
    show (setL D (s.setIfInBounds j true)).setIfInBounds k true = setL D ((s.setIfInBounds k true).setIfInBounds j true)
    rw [setL_in D _ k h.2, Array.setIfInBounds_comm _ _ (Ne.symm h.1)]
theorem putL_in (dst : Nat → Nat) (σ : Nat → Value) : ∀ (D : List Nat) (a : Act) (t : Nat) (v : Value), (∀ j ∈ D, dst j ≠ t) → (putL dst σ D a).put (some t) v = putL dst σ D (a.put (some t) v)
  | [], _, _, _, _ => rfl
  | j :: D, a, t, v, h => by
    show (putL dst σ D (a.put (some (dst j)) (σ j))).put (some t) v = putL dst σ D ((a.put (some t) v).put (some (dst j)) (σ j))
    rw [putL_in dst σ D _ t v (fun i hi => h i (List.mem_cons_of_mem _ hi)), put_comm a (h j (List.mem_cons_self ..))]
theorem putL_congr (dst : Nat → Nat) {σ σ' : Nat → Value} : ∀ (D : List Nat) (a : Act), (∀ j ∈ D, σ j = σ' j) → putL dst σ D a = putL dst σ' D a
  | [], _, _ => rfl
  | j :: D, a, h => by
    show putL dst σ D (a.put (some (dst j)) (σ j)) = putL dst σ' D (a.put (some (dst j)) (σ' j))
    rw [h j (List.mem_cons_self ..), putL_congr dst D _ (fun i hi => h i (List.mem_cons_of_mem _ hi))]
theorem putL_app (dst : Nat → Nat) (σ : Nat → Value) (D E : List Nat) (a : Act) : putL dst σ (D ++ E) a = putL dst σ E (putL dst σ D a) := by simp [putL]
theorem setL_app (D E : List Nat) (s : Array Bool) : setL (D ++ E) s = setL E (setL D s) := by simp [setL]
theorem put_eval_ne (a : Act) {i t : Nat} (h : i ≠ t) (v : Value) : (a.put (some i) v).eval (.tmp t) = a.eval (.tmp t) := by
  simp only [Act.put, Act.eval, Array.getD_eq_getD_getElem?]
  rw [Array.getElem?_setIfInBounds_ne h]
theorem put_eval_eq (a : Act) {t : Nat} (h : t < a.tmps.size) (v : Value) : (a.put (some t) v).eval (.tmp t) = v := by
  simp [Act.put, Act.eval, h]
theorem put_size (a : Act) (i : Nat) (v : Value) : (a.put (some i) v).tmps.size = a.tmps.size := by simp [Act.put]
theorem putL_eval_ne (dst : Nat → Nat) (σ : Nat → Value) : ∀ (D : List Nat) (a : Act) (t : Nat), (∀ j ∈ D, dst j ≠ t) → (putL dst σ D a).eval (.tmp t) = a.eval (.tmp t)
  | [], _, _, _ => rfl
  | j :: D, a, t, h => by
    show (putL dst σ D (a.put (some (dst j)) (σ j))).eval _ = _
    rw [putL_eval_ne dst σ D _ t (fun i hi => h i (List.mem_cons_of_mem _ hi)), put_eval_ne a (h j (List.mem_cons_self ..))]
theorem putL_eval_eq (dst : Nat → Nat) (σ : Nat → Value) : ∀ (D : List Nat) (a : Act) (k : Nat), k ∈ D → (∀ i ∈ D, ∀ j ∈ D, dst i = dst j → i = j) → dst k < a.tmps.size → (putL dst σ D a).eval (.tmp (dst k)) = σ k
  | [], _, _, h, _, _ => by cases h
  | j :: D, a, k, h, hd, hs => by
    show (putL dst σ D (a.put (some (dst j)) (σ j))).eval _ = _
    by_cases hk : k ∈ D
    · exact putL_eval_eq dst σ D _ k hk (fun i hi j hj => hd i (List.mem_cons_of_mem _ hi) j (List.mem_cons_of_mem _ hj)) (by rw [put_size]; exact hs)
    · obtain rfl : k = j := by
        rcases List.mem_cons.1 h with h | h
        · exact h
        · exact absurd h hk
      rw [putL_eval_ne dst σ D _ _ (fun i hi he => hk (by
        have := hd i (List.mem_cons_of_mem _ hi) k (List.mem_cons_self ..) he
        rwa [this] at hi)), put_eval_eq a hs]

/-- A slot's value, as the walk writes it. -/
theorem ev_at {a : Act} {t : Nat} {v : Value} (h : a.eval (.tmp t) = v) : a.tmps[t]?.getD undef = v := by
  rw [← h]; simp [Act.eval]

def webB (md : Region.Mode) (ops : Array Oper) (s : Array Bool) (F : List Nat) (deps : Nat → List Nat) : Bool :=
  (subsF F).all fun D => D == F || !(D.all fun k => (deps k).all fun j => D.contains j) || (!(Region.ready md ops (setL D s)).isEmpty && (Region.ready md ops (setL D s)).all fun k => F.contains k && !D.contains k && (deps k).all fun j => D.contains j)
def webB0 (md : Region.Mode) (ops : Array Oper) (s : Array Bool) (F : List Nat) (deps : Nat → List Nat) : Bool :=
  (subsF F).all fun D => D == F || (!(Region.ready md ops (setL D s)).isEmpty && (Region.ready md ops (setL D s)).all fun k => F.contains k && !D.contains k && (deps k).all fun j => D.contains j)

section
variable {P : Program} {md : Region.Mode} {l : List Oper} {Q : Exit → Act → World → Prop} {X : List Nat} {B : Nat} {wd : World}

theorem split_at {F : List Nat} {k : Nat} (h : k ∈ F) (hn : F.Nodup) : ∃ F1 F2, F = F1 ++ k :: F2 ∧ k ∉ F1 ∧ k ∉ F2 := by
  obtain ⟨F1, F2, rfl⟩ := List.append_of_mem h
  rw [List.nodup_append] at hn
  refine ⟨F1, F2, rfl, fun h1 => ?_, fun h2 => ?_⟩
  · exact hn.2.2 k h1 k (List.mem_cons_self ..) rfl
  · exact (List.nodup_cons.1 hn.2.1).1 h2

theorem wpAnyX_web (F : List Nat) (dst : Nat → Nat) (deps : Nat → List Nat) (Post : Nat → Value → World → Prop) (s0 : Array Bool) (a0 : Act) (N f : Nat)
    (hweb : webB md l.toArray s0 F deps = true) (hnd : F.Nodup) (hdd : ∀ i ∈ F, ∀ j ∈ F, dst i = dst j → i = j) (hop : (F.all fun k => (l[k]?).isSome && ((l[k]?).getD default).guard.isNone) = true)
    (hN : a0.tmps.size = N) (hsz : ∀ k ∈ F, dst k < N)
    (hst : ∀ k ∈ F, ∀ v w w', Below wd.heap.size wd w → Post k v w → Below w.heap.size w w' → Post k v w')
    (hstep : ∀ k ∈ F, ∀ (a : Act) (w : World) (σ : Nat → Value), Below wd.heap.size wd w → (∀ t, (∀ j ∈ F, dst j ≠ t) → a.eval (.tmp t) = a0.eval (.tmp t)) → (∀ j ∈ deps k, a.eval (.tmp (dst j)) = σ j ∧ Post j (σ j) w) →
      ((l[k]?).getD default).wp P a w (fun a' w' => ∃ v, a' = a.put (some (dst k)) v ∧ Below w.heap.size w w' ∧ Post k v w') Q)
    (hfin : ∀ (σ : Nat → Value) (w : World), Below wd.heap.size wd w → (∀ k ∈ F, Post k (σ k) w) → wpAnyX P md l.toArray Q (fun W => Below wd.heap.size wd W) X f (setL F s0) (putL dst σ F a0) w) :
    ∀ w, Below wd.heap.size wd w → wpAnyX P md l.toArray Q (fun W => Below wd.heap.size wd W) X (f + F.length) s0 a0 w := by
  have main : ∀ (r : Nat) (p : Nat → Bool) (σ : Nat → Value) (w : World), (F.filter p).length + r = F.length → Below wd.heap.size wd w → (∀ k ∈ F, p k = true → Post k (σ k) w) → (∀ k ∈ F, p k = true → ∀ j ∈ deps k, j ∈ F ∧ p j = true) →
      wpAnyX P md l.toArray Q (fun W => Below wd.heap.size wd W) X (f + r) (setL (F.filter p) s0) (putL dst σ (F.filter p) a0) w := by
    intro r
    induction r with
    | zero =>
      intro p σ w hl hb hp _
      have hF : F.filter p = F := List.filter_eq_self.2 (List.length_filter_eq_length_iff.1 (by omega))
      rw [hF]
      exact hfin σ w hb (fun k hk => hp k hk (List.length_filter_eq_length_iff.1 (by omega) k hk))
    | succ r ih =>
      intro p σ w hl hb hp hcl
      have hw := List.all_eq_true.1 hweb _ (filter_subs p F)
      have hne : ¬ (F.filter p = F) := fun e => by rw [e] at hl; omega
      have hcd : ((F.filter p).all fun k => (deps k).all fun j => (F.filter p).contains j) = true := by
        rw [List.all_eq_true]
        intro k hk
        rw [List.all_eq_true]
        intro j hj
        have h := hcl k (List.mem_filter.1 hk).1 (List.mem_filter.1 hk).2 j hj
        simpa using List.mem_filter.2 h
      rw [hcd] at hw
      simp only [Bool.not_true, Bool.or_false, Bool.or_eq_true, beq_iff_eq, hne, false_or, Bool.and_eq_true, Bool.not_eq_true', List.isEmpty_eq_false_iff, List.all_eq_true] at hw
      obtain ⟨h1, h2⟩ := hw
      refine ⟨fun h0 => absurd h0 h1, fun k hk => ?_⟩
      obtain ⟨⟨hkF, hkD⟩, hdep⟩ := h2 k hk
      have hkF : k ∈ F := by simpa using hkF
      have hpk : p k = false := by
        cases e : p k with
        | false => rfl
        | true => exact absurd (List.mem_filter.2 ⟨hkF, e⟩) (by simpa using hkD)
      have hdep : ∀ j ∈ deps k, j ∈ F ∧ p j = true := fun j hj => List.mem_filter.1 (by simpa using hdep j hj)
      obtain ⟨F1, F2, hFF, hk1, hk2⟩ := split_at hkF hnd
      have hok := List.all_eq_true.1 hop k hkF
      simp only [Bool.and_eq_true] at hok
      obtain ⟨o, ho⟩ := Option.isSome_iff_exists.1 hok.1
      have ho' : (l[k]?).getD default = o := by rw [ho]; rfl
      have hgo : o.guard = none := by rw [← ho']; exact Option.isNone_iff_eq_none.1 hok.2
      refine wpOp_ofL ho hgo ?_
      rw [← ho']
      have hs := hstep k hkF (putL dst σ (F.filter p) a0) w σ hb
        (fun t ht => putL_eval_ne dst σ _ a0 t (fun j hj => ht j (List.mem_filter.1 hj).1))
        (fun j hj => ⟨putL_eval_eq dst σ _ a0 j (List.mem_filter.2 (hdep j hj)) (fun i hi j hj => hdd i (List.mem_filter.1 hi).1 j (List.mem_filter.1 hj).1) (by rw [hN]; exact hsz j (hdep j hj).1), hp j (hdep j hj).1 (hdep j hj).2⟩)
      refine Oper.wp_mono (fun a' w' h => ?_) hs
      obtain ⟨v, rfl, hbw, hpost⟩ := h
      have hbb : Below wd.heap.size wd w' := below_tr hb hbw
      refine ⟨fun _ => hbb, ?_⟩
      let p' : Nat → Bool := fun j => p j || j == k
      let σ' : Nat → Value := fun j => if j = k then v else σ j
      have e1 : F.filter p = F1.filter p ++ F2.filter p := by rw [hFF, List.filter_append, List.filter_cons, hpk]; rfl
      have q1 : ∀ E : List Nat, k ∉ E → E.filter p' = E.filter p := fun E hE => List.filter_congr fun x hx => by
        have : x ≠ k := fun e => hE (e ▸ hx)
        simp [p', this]
      have e2 : F.filter p' = F1.filter p ++ k :: F2.filter p := by
        rw [hFF, List.filter_append, List.filter_cons, q1 F1 hk1, q1 F2 hk2]
        simp [p']
      have hd2 : ∀ j ∈ F2.filter p, dst j ≠ dst k := fun j hj he => by
        have hjF : j ∈ F := by rw [hFF]; exact List.mem_append_right _ (List.mem_cons_of_mem _ (List.mem_filter.1 hj).1)
        have := hdd j hjF k hkF he
        rw [this] at hj
        exact hk2 (List.mem_filter.1 hj).1
      have e3 : (setL (F.filter p) s0).setIfInBounds k true = setL (F.filter p') s0 := by
        rw [e1, e2, setL_app, setL_app]
        exact setL_in _ _ _ (fun h => hk2 (List.mem_filter.1 h).1)
      have c1 : ∀ E : List Nat, k ∉ E → ∀ a, putL dst σ' E a = putL dst σ E a := fun E hE a => putL_congr dst E a fun j hj => by
        have : j ≠ k := fun e => hE (e ▸ hj)
        simp [σ', this]
      have e4 : (putL dst σ (F.filter p) a0).put (some (dst k)) v = putL dst σ' (F.filter p') a0 := by
        rw [e1, e2, putL_app, putL_app, putL_in dst σ _ _ _ _ hd2]
        show _ = putL dst σ' (F2.filter p) ((putL dst σ' (F1.filter p) a0).put (some (dst k)) (σ' k))
        rw [c1 _ (fun h => hk1 (List.mem_filter.1 h).1), c1 _ (fun h => hk2 (List.mem_filter.1 h).1)]
        simp [σ']
      rw [e3, e4]
      refine ih p' σ' w' ?_ hbb (fun j hj hpj => ?_) (fun j hj hpj i hi => ?_)
      · rw [e2]; rw [e1] at hl; simp only [List.length_append, List.length_cons] at *; omega
      · by_cases hjk : j = k
        · subst hjk
          simp only [σ', if_true]
          exact hpost
        · have : p j = true := by simpa [p', hjk] using hpj
          simp only [σ', if_neg hjk]
          exact hst j hj _ w w' hb (hp j hj this) hbw
      · by_cases hjk : j = k
        · subst hjk
          have h := hdep i hi
          exact ⟨h.1, by simp [p', h.2]⟩
        · have hpj : p j = true := by simpa [p', hjk] using hpj
          have h := hcl j hj hpj i hi
          exact ⟨h.1, by simp [p', h.2]⟩
  intro w hb
  have e0 : F.filter (fun _ => false) = [] := List.filter_eq_nil_iff.2 (fun _ _ => by simp)
  have h := main F.length (fun _ => false) (fun _ => undef) w (by rw [e0]; simp) hb (fun k _ h => by cases h) (fun k _ h => by cases h)
  rw [e0] at h
  exact h

/-- As the web, with one word of all that stands so far. -/
theorem wpAnyX_inv {S : World → Prop} (F : List Nat) (dst : Nat → Nat) (deps : Nat → List Nat) (Inv : (Nat → Bool) → (Nat → Value) → World → Prop) (s0 : Array Bool) (a0 : Act) (N f : Nat)
    (hweb : webB0 md l.toArray s0 F deps = true) (hnd : F.Nodup) (hdd : ∀ i ∈ F, ∀ j ∈ F, dst i = dst j → i = j) (hop : (F.all fun k => (l[k]?).isSome && ((l[k]?).getD default).guard.isNone) = true)
    (hN : a0.tmps.size = N) (hsz : ∀ k ∈ F, dst k < N) (hS : ∀ p σ w, Inv p σ w → S w)
    (hstep : ∀ k ∈ F, ∀ (a : Act) (w : World) (p : Nat → Bool) (σ : Nat → Value), Inv p σ w → p k = false → (∀ t, (∀ j ∈ F, dst j ≠ t) → a.eval (.tmp t) = a0.eval (.tmp t)) → (∀ j ∈ deps k, a.eval (.tmp (dst j)) = σ j ∧ p j = true) →
      ((l[k]?).getD default).wp P a w (fun a' w' => ∃ v, a' = a.put (some (dst k)) v ∧ Inv (fun j => p j || j == k) (fun j => if j = k then v else σ j) w') Q)
    (hfin : ∀ (p : Nat → Bool) (σ : Nat → Value) (w : World), Inv p σ w → (∀ k ∈ F, p k = true) → wpAnyX P md l.toArray Q S X f (setL F s0) (putL dst σ F a0) w) :
    ∀ w σ0, Inv (fun _ => false) σ0 w → wpAnyX P md l.toArray Q S X (f + F.length) s0 a0 w := by
  have main : ∀ (r : Nat) (p : Nat → Bool) (σ : Nat → Value) (w : World), (F.filter p).length + r = F.length → Inv p σ w →
      wpAnyX P md l.toArray Q S X (f + r) (setL (F.filter p) s0) (putL dst σ (F.filter p) a0) w := by
    intro r
    induction r with
    | zero =>
      intro p σ w hl hp
      have hF : F.filter p = F := List.filter_eq_self.2 (List.length_filter_eq_length_iff.1 (by omega))
      rw [hF]
      exact hfin p σ w hp (fun k hk => List.length_filter_eq_length_iff.1 (by omega) k hk)
    | succ r ih =>
      intro p σ w hl hp
      have hw := List.all_eq_true.1 hweb _ (filter_subs p F)
      have hne : ¬ (F.filter p = F) := fun e => by rw [e] at hl; omega
      simp only [Bool.or_eq_true, beq_iff_eq, hne, false_or, Bool.and_eq_true, Bool.not_eq_true', List.isEmpty_eq_false_iff, List.all_eq_true] at hw
      obtain ⟨h1, h2⟩ := hw
      refine ⟨fun h0 => absurd h0 h1, fun k hk => ?_⟩
      obtain ⟨⟨hkF, hkD⟩, hdep⟩ := h2 k hk
      have hkF : k ∈ F := by simpa using hkF
      have hpk : p k = false := by
        cases e : p k with
        | false => rfl
        | true => exact absurd (List.mem_filter.2 ⟨hkF, e⟩) (by simpa using hkD)
      have hdep : ∀ j ∈ deps k, j ∈ F ∧ p j = true := fun j hj => List.mem_filter.1 (by simpa using hdep j hj)
      obtain ⟨F1, F2, hFF, hk1, hk2⟩ := split_at hkF hnd
      have hok := List.all_eq_true.1 hop k hkF
      simp only [Bool.and_eq_true] at hok
      obtain ⟨o, ho⟩ := Option.isSome_iff_exists.1 hok.1
      have ho' : (l[k]?).getD default = o := by rw [ho]; rfl
      have hgo : o.guard = none := by rw [← ho']; exact Option.isNone_iff_eq_none.1 hok.2
      refine wpOp_ofL ho hgo ?_
      rw [← ho']
      have hs := hstep k hkF (putL dst σ (F.filter p) a0) w p σ hp hpk
        (fun t ht => putL_eval_ne dst σ _ a0 t (fun j hj => ht j (List.mem_filter.1 hj).1))
        (fun j hj => ⟨putL_eval_eq dst σ _ a0 j (List.mem_filter.2 (hdep j hj)) (fun i hi j hj => hdd i (List.mem_filter.1 hi).1 j (List.mem_filter.1 hj).1) (by rw [hN]; exact hsz j (hdep j hj).1), (hdep j hj).2⟩)
      refine Oper.wp_mono (fun a' w' h => ?_) hs
      obtain ⟨v, rfl, hinv⟩ := h
      refine ⟨fun _ => hS _ _ _ hinv, ?_⟩
      let p' : Nat → Bool := fun j => p j || j == k
      let σ' : Nat → Value := fun j => if j = k then v else σ j
      have e1 : F.filter p = F1.filter p ++ F2.filter p := by rw [hFF, List.filter_append, List.filter_cons, hpk]; rfl
      have q1 : ∀ E : List Nat, k ∉ E → E.filter p' = E.filter p := fun E hE => List.filter_congr fun x hx => by
        have : x ≠ k := fun e => hE (e ▸ hx)
        simp [p', this]
      have e2 : F.filter p' = F1.filter p ++ k :: F2.filter p := by
        rw [hFF, List.filter_append, List.filter_cons, q1 F1 hk1, q1 F2 hk2]
        simp [p']
      have hd2 : ∀ j ∈ F2.filter p, dst j ≠ dst k := fun j hj he => by
        have hjF : j ∈ F := by rw [hFF]; exact List.mem_append_right _ (List.mem_cons_of_mem _ (List.mem_filter.1 hj).1)
        have := hdd j hjF k hkF he
        rw [this] at hj
        exact hk2 (List.mem_filter.1 hj).1
      have e3 : (setL (F.filter p) s0).setIfInBounds k true = setL (F.filter p') s0 := by
        rw [e1, e2, setL_app, setL_app]
        exact setL_in _ _ _ (fun h => hk2 (List.mem_filter.1 h).1)
      have c1 : ∀ E : List Nat, k ∉ E → ∀ a, putL dst σ' E a = putL dst σ E a := fun E hE a => putL_congr dst E a fun j hj => by
        have : j ≠ k := fun e => hE (e ▸ hj)
        simp [σ', this]
      have e4 : (putL dst σ (F.filter p) a0).put (some (dst k)) v = putL dst σ' (F.filter p') a0 := by
        rw [e1, e2, putL_app, putL_app, putL_in dst σ _ _ _ _ hd2]
        show _ = putL dst σ' (F2.filter p) ((putL dst σ' (F1.filter p) a0).put (some (dst k)) (σ' k))
        rw [c1 _ (fun h => hk1 (List.mem_filter.1 h).1), c1 _ (fun h => hk2 (List.mem_filter.1 h).1)]
        simp [σ']
      rw [e3, e4]
      refine ih p' σ' w' ?_ hinv
      rw [e2]; rw [e1] at hl; simp only [List.length_append, List.length_cons] at *; omega
  intro w σ0 h0
  have e0 : F.filter (fun _ => false) = [] := List.filter_eq_nil_iff.2 (fun _ _ => by simp)
  have h := main F.length (fun _ => false) σ0 w (by rw [e0]; simp) h0
  rw [e0] at h
  exact h
end
end Go.Proofs.YtmgblbkmbiiofaaDoor
