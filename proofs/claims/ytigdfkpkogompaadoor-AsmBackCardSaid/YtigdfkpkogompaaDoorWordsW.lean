/-
  A region that draws its order: a web of operations that make memory, in whatever order they come: each has its own word of what it leaves, which later memory keeps.
-/
import Derived.Test.YtigdfkpkogompaaDoorWordsV
import Derived.Test.YtigdfkpkogompaaDoorWords
namespace Go.Proofs.YtigdfkpkogompaaDoor
open Go Go.RowKit

def subsF : List Nat → List (List Nat)
  | [] => [[]]
  | k :: r => subsF r ++ (subsF r).map (k :: ·)
theorem filter_subs (p : Nat → Bool) : ∀ F : List Nat, F.filter p ∈ subsF F
  | [] => by simp [subsF]
  | k :: r => by
    have h := filter_subs p r
    simp only [subsF, List.filter_cons, List.mem_append, List.mem_map]
    split
    · exact .inr ⟨_, h, rfl⟩
    · exact .inl h
def setL (D : List Nat) (s : Array Bool) : Array Bool := D.foldl (fun s k => s.setIfInBounds k true) s
def putL (dst : Nat → Nat) (σ : Nat → Value) (D : List Nat) (a : Act) : Act := D.foldl (fun a k => a.put (some (dst k)) (σ k)) a
theorem put_comm (a : Act) {i j : Nat} (h : i ≠ j) (v u : Value) : (a.put (some i) v).put (some j) u = (a.put (some j) u).put (some i) v := by
  simp only [Act.put]; rw [Array.setIfInBounds_comm _ _ h]
theorem setL_in : ∀ (D : List Nat) (s : Array Bool) (k : Nat), k ∉ D → (setL D s).setIfInBounds k true = setL D (s.setIfInBounds k true)
  | [], _, _, _ => rfl
  | j :: D, s, k, h => by
    simp only [List.mem_cons, not_or] at h
    show (setL D (s.setIfInBounds j true)).setIfInBounds k true = setL D ((s.setIfInBounds k true).setIfInBounds j true)
    rw [setL_in D _ k h.2, Array.setIfInBounds_comm _ _ (Ne.symm h.1)]
theorem putL_in (dst : Nat → Nat) (σ : Nat → Value) : ∀ (D : List Nat) (a : Act) (t : Nat) (v : Value), (∀ j ∈ D, dst j ≠ t) → (putL dst σ D a).put (some t) v = putL dst σ D (a.put (some t) v)
  | [], _, _, _, _ => rfl
  | j :: D, a, t, v, h => by
    show (putL dst σ D (a.put (some (dst j)) (σ j))).put (some t) v = putL dst σ D ((a.put (some t) v).put (some (dst j)) (σ j))
    rw [putL_in dst σ D _ t v (fun i hi => h i (List.mem_cons_of_mem _ hi)), put_comm a (h j (List.mem_cons_self ..))]
theorem putL_congr (dst : Nat → Nat) {σ σ' : Nat → Value} : ∀ (D : List Nat) (a : Act), (∀ j ∈ D, σ j = σ' j) → putL dst σ D a = putL dst σ' D a
  | [], _, _ => rfl
  | j :: D, a, h => by
    show putL dst σ D (a.put (some (dst j)) (σ j)) = putL dst σ' D (a.put (some (dst j)) (σ' j))
    rw [h j (List.mem_cons_self ..), putL_congr dst D _ (fun i hi => h i (List.mem_cons_of_mem _ hi))]
theorem putL_app (dst : Nat → Nat) (σ : Nat → Value) (D E : List Nat) (a : Act) : putL dst σ (D ++ E) a = putL dst σ E (putL dst σ D a) := by simp [putL]
theorem setL_app (D E : List Nat) (s : Array Bool) : setL (D ++ E) s = setL E (setL D s) := by simp [setL]
theorem put_eval_ne (a : Act) {i t : Nat} (h : i ≠ t) (v : Value) : (a.put (some i) v).eval (.tmp t) = a.eval (.tmp t) := by
  simp only [Act.put, Act.eval, Array.getD_eq_getD_getElem?]
  rw [Array.getElem?_setIfInBounds_ne h]
theorem put_eval_eq (a : Act) {t : Nat} (h : t < a.tmps.size) (v : Value) : (a.put (some t) v).eval (.tmp t) = v := by
  simp [Act.put, Act.eval, h]
theorem put_size (a : Act) (i : Nat) (v : Value) : (a.put (some i) v).tmps.size = a.tmps.size := by simp [Act.put]
theorem putL_eval_ne (dst : Nat → Nat) (σ : Nat → Value) : ∀ (D : List Nat) (a : Act) (t : Nat), (∀ j ∈ D, dst j ≠ t) → (putL dst σ D a).eval (.tmp t) = a.eval (.tmp t)
  | [], _, _, _ => rfl
  | j :: D, a, t, h => by
    show (putL dst σ D (a.put (some (dst j)) (σ j))).eval _ = _
    rw [putL_eval_ne dst σ D _ t (fun i hi => h i (List.mem_cons_of_mem _ hi)), put_eval_ne a (h j (List.mem_cons_self ..))]
theorem putL_eval_eq (dst : Nat → Nat) (σ : Nat → Value) : ∀ (D : List Nat) (a : Act) (k : Nat), k ∈ D → (∀ i ∈ D, ∀ j ∈ D, dst i = dst j → i = j) → dst k < a.tmps.size → (putL dst σ D a).eval (.tmp (dst k)) = σ k
  | [], _, _, h, _, _ => by cases h
  | j :: D, a, k, h, hd, hs => by
    show (putL dst σ D (a.put (some (dst j)) (σ j))).eval _ = _
    by_cases hk : k ∈ D
    · exact putL_eval_eq dst σ D _ k hk (fun i hi j hj => hd i (List.mem_cons_of_mem _ hi) j (List.mem_cons_of_mem _ hj)) (by rw [put_size]; exact hs)
    · obtain rfl : k = j := by
        rcases List.mem_cons.1 h with h | h
        · exact h
        · exact absurd h hk
      rw [putL_eval_ne dst σ D _ _ (fun i hi he => hk (by
        have := hd i (List.mem_cons_of_mem _ hi) k (List.mem_cons_self ..) he
        rwa [this] at hi)), put_eval_eq a hs]

/-- A slot's value, as the walk writes it. -/
theorem ev_at {a : Act} {t : Nat} {v : Value} (h : a.eval (.tmp t) = v) : a.tmps[t]?.getD undef = v := by
  rw [← h]; simp [Act.eval]

def webB (md : Region.Mode) (ops : Array Oper) (s : Array Bool) (F : List Nat) (deps : Nat → List Nat) : Bool :=
  (subsF F).all fun D => D == F || !(D.all fun k => (deps k).all fun j => D.contains j) || (!(Region.ready md ops (setL D s)).isEmpty && (Region.ready md ops (setL D s)).all fun k => F.contains k && !D.contains k && (deps k).all fun j => D.contains j)
def webB0 (md : Region.Mode) (ops : Array Oper) (s : Array Bool) (F : List Nat) (deps : Nat → List Nat) : Bool :=
  (subsF F).all fun D => D == F || (!(Region.ready md ops (setL D s)).isEmpty && (Region.ready md ops (setL D s)).all fun k => F.contains k && !D.contains k && (deps k).all fun j => D.contains j)

section
variable {P : Program} {md : Region.Mode} {l : List Oper} {Q : Exit → Act → World → Prop} {X : List Nat} {B : Nat} {wd : World}

theorem split_at {F : List Nat} {k : Nat} (h : k ∈ F) (hn : F.Nodup) : ∃ F1 F2, F = F1 ++ k :: F2 ∧ k ∉ F1 ∧ k ∉ F2 := by
  obtain ⟨F1, F2, rfl⟩ := List.append_of_mem h
  rw [List.nodup_append] at hn
  refine ⟨F1, F2, rfl, fun h1 => ?_, fun h2 => ?_⟩
  · exact hn.2.2 k h1 k (List.mem_cons_self ..) rfl
  · exact (List.nodup_cons.1 hn.2.1).1 h2

theorem wpAnyX_web (F : List Nat) (dst : Nat → Nat) (deps : Nat → List Nat) (Post : Nat → Value → World → Prop) (s0 : Array Bool) (a0 : Act) (N f : Nat)
    (hweb : webB md l.toArray s0 F deps = true) (hnd : F.Nodup) (hdd : ∀ i ∈ F, ∀ j ∈ F, dst i = dst j → i = j) (hop : (F.all fun k => (l[k]?).isSome && ((l[k]?).getD default).guard.isNone) = true)
    (hN : a0.tmps.size = N) (hsz : ∀ k ∈ F, dst k < N)
    (hst : ∀ k ∈ F, ∀ v w w', Below wd.heap.size wd w → Post k v w → Below w.heap.size w w' → Post k v w')
    (hstep : ∀ k ∈ F, ∀ (a : Act) (w : World) (σ : Nat → Value), Below wd.heap.size wd w → (∀ t, (∀ j ∈ F, dst j ≠ t) → a.eval (.tmp t) = a0.eval (.tmp t)) → (∀ j ∈ deps k, a.eval (.tmp (dst j)) = σ j ∧ Post j (σ j) w) →
      ((l[k]?).getD default).wp P a w (fun a' w' => ∃ v, a' = a.put (some (dst k)) v ∧ Below w.heap.size w w' ∧ Post k v w') Q)
    (hfin : ∀ (σ : Nat → Value) (w : World), Below wd.heap.size wd w → (∀ k ∈ F, Post k (σ k) w) → wpAnyX P md l.toArray Q (fun W => Below wd.heap.size wd W) X f (setL F s0) (putL dst σ F a0) w) :
    ∀ w, Below wd.heap.size wd w → wpAnyX P md l.toArray Q (fun W => Below wd.heap.size wd W) X (f + F.length) s0 a0 w := by
  have main : ∀ (r : Nat) (p : Nat → Bool) (σ : Nat → Value) (w : World), (F.filter p).length + r = F.length → Below wd.heap.size wd w → (∀ k ∈ F, p k = true → Post k (σ k) w) → (∀ k ∈ F, p k = true → ∀ j ∈ deps k, j ∈ F ∧ p j = true) →
      wpAnyX P md l.toArray Q (fun W => Below wd.heap.size wd W) X (f + r) (setL (F.filter p) s0) (putL dst σ (F.filter p) a0) w := by
    intro r
    induction r with
    | zero =>
      intro p σ w hl hb hp _
      have hF : F.filter p = F := List.filter_eq_self.2 (List.length_filter_eq_length_iff.1 (by omega))
      rw [hF]
      exact hfin σ w hb (fun k hk => hp k hk (List.length_filter_eq_length_iff.1 (by omega) k hk))
    | succ r ih =>
      intro p σ w hl hb hp hcl
      have hw := List.all_eq_true.1 hweb _ (filter_subs p F)
      have hne : ¬ (F.filter p = F) := fun e => by rw [e] at hl; omega
      have hcd : ((F.filter p).all fun k => (deps k).all fun j => (F.filter p).contains j) = true := by
        rw [List.all_eq_true]
        intro k hk
        rw [List.all_eq_true]
        intro j hj
        have h := hcl k (List.mem_filter.1 hk).1 (List.mem_filter.1 hk).2 j hj
        simpa using List.mem_filter.2 h
      rw [hcd] at hw
      simp only [Bool.not_true, Bool.or_false, Bool.or_eq_true, beq_iff_eq, hne, false_or, Bool.and_eq_true, Bool.not_eq_true', List.isEmpty_eq_false_iff, List.all_eq_true] at hw
      obtain ⟨h1, h2⟩ := hw
      refine ⟨fun h0 => absurd h0 h1, fun k hk => ?_⟩
      obtain ⟨⟨hkF, hkD⟩, hdep⟩ := h2 k hk
      have hkF : k ∈ F := by simpa using hkF
      have hpk : p k = false := by
        cases e : p k with
        | false => rfl
        | true => exact absurd (List.mem_filter.2 ⟨hkF, e⟩) (by simpa using hkD)
      have hdep : ∀ j ∈ deps k, j ∈ F ∧ p j = true := fun j hj => List.mem_filter.1 (by simpa using hdep j hj)
      obtain ⟨F1, F2, hFF, hk1, hk2⟩ := split_at hkF hnd
      have hok := List.all_eq_true.1 hop k hkF
      simp only [Bool.and_eq_true] at hok
      obtain ⟨o, ho⟩ := Option.isSome_iff_exists.1 hok.1
      have ho' : (l[k]?).getD default = o := by rw [ho]; rfl
      have hgo : o.guard = none := by rw [← ho']; exact Option.isNone_iff_eq_none.1 hok.2
      refine wpOp_ofL ho hgo ?_
      rw [← ho']
      have hs := hstep k hkF (putL dst σ (F.filter p) a0) w σ hb
        (fun t ht => putL_eval_ne dst σ _ a0 t (fun j hj => ht j (List.mem_filter.1 hj).1))
        (fun j hj => ⟨putL_eval_eq dst σ _ a0 j (List.mem_filter.2 (hdep j hj)) (fun i hi j hj => hdd i (List.mem_filter.1 hi).1 j (List.mem_filter.1 hj).1) (by rw [hN]; exact hsz j (hdep j hj).1), hp j (hdep j hj).1 (hdep j hj).2⟩)
      refine Oper.wp_mono (fun a' w' h => ?_) hs
      obtain ⟨v, rfl, hbw, hpost⟩ := h
      have hbb : Below wd.heap.size wd w' := below_tr hb hbw
      refine ⟨fun _ => hbb, ?_⟩
      let p' : Nat → Bool := fun j => p j || j == k
      let σ' : Nat → Value := fun j => if j = k then v else σ j
      have e1 : F.filter p = F1.filter p ++ F2.filter p := by rw [hFF, List.filter_append, List.filter_cons, hpk]; rfl
      have q1 : ∀ E : List Nat, k ∉ E → E.filter p' = E.filter p := fun E hE => List.filter_congr fun x hx => by
        have : x ≠ k := fun e => hE (e ▸ hx)
        simp [p', this]
      have e2 : F.filter p' = F1.filter p ++ k :: F2.filter p := by
        rw [hFF, List.filter_append, List.filter_cons, q1 F1 hk1, q1 F2 hk2]
        simp [p']
      have hd2 : ∀ j ∈ F2.filter p, dst j ≠ dst k := fun j hj he => by
        have hjF : j ∈ F := by rw [hFF]; exact List.mem_append_right _ (List.mem_cons_of_mem _ (List.mem_filter.1 hj).1)
        have := hdd j hjF k hkF he
        rw [this] at hj
        exact hk2 (List.mem_filter.1 hj).1
      have e3 : (setL (F.filter p) s0).setIfInBounds k true = setL (F.filter p') s0 := by
        rw [e1, e2, setL_app, setL_app]
        exact setL_in _ _ _ (fun h => hk2 (List.mem_filter.1 h).1)
      have c1 : ∀ E : List Nat, k ∉ E → ∀ a, putL dst σ' E a = putL dst σ E a := fun E hE a => putL_congr dst E a fun j hj => by
        have : j ≠ k := fun e => hE (e ▸ hj)
        simp [σ', this]
      have e4 : (putL dst σ (F.filter p) a0).put (some (dst k)) v = putL dst σ' (F.filter p') a0 := by
        rw [e1, e2, putL_app, putL_app, putL_in dst σ _ _ _ _ hd2]
        show _ = putL dst σ' (F2.filter p) ((putL dst σ' (F1.filter p) a0).put (some (dst k)) (σ' k))
        rw [c1 _ (fun h => hk1 (List.mem_filter.1 h).1), c1 _ (fun h => hk2 (List.mem_filter.1 h).1)]
        simp [σ']
      rw [e3, e4]
      refine ih p' σ' w' ?_ hbb (fun j hj hpj => ?_) (fun j hj hpj i hi => ?_)
      · rw [e2]; rw [e1] at hl; simp only [List.length_append, List.length_cons] at *; omega
      · by_cases hjk : j = k
        · subst hjk
          simp only [σ', if_true]
          exact hpost
        · have : p j = true := by simpa [p', hjk] using hpj
          simp only [σ', if_neg hjk]
          exact hst j hj _ w w' hb (hp j hj this) hbw
      · by_cases hjk : j = k
        · subst hjk
          have h := hdep i hi
          exact ⟨h.1, by simp [p', h.2]⟩
        · have hpj : p j = true := by simpa [p', hjk] using hpj
          have h := hcl j hj hpj i hi
          exact ⟨h.1, by simp [p', h.2]⟩
  intro w hb
  have e0 : F.filter (fun _ => false) = [] := List.filter_eq_nil_iff.2 (fun _ _ => by simp)
  have h := main F.length (fun _ => false) (fun _ => undef) w (by rw [e0]; simp) hb (fun k _ h => by cases h) (fun k _ h => by cases h)
  rw [e0] at h
  exact h

/-- As the web, with one word of all that stands so far. -/
theorem wpAnyX_inv {S : World → Prop} (F : List Nat) (dst : Nat → Nat) (deps : Nat → List Nat) (Inv : (Nat → Bool) → (Nat → Value) → World → Prop) (s0 : Array Bool) (a0 : Act) (N f : Nat)
    (hweb : webB0 md l.toArray s0 F deps = true) (hnd : F.Nodup) (hdd : ∀ i ∈ F, ∀ j ∈ F, dst i = dst j → i = j) (hop : (F.all fun k => (l[k]?).isSome && ((l[k]?).getD default).guard.isNone) = true)
    (hN : a0.tmps.size = N) (hsz : ∀ k ∈ F, dst k < N) (hS : ∀ p σ w, Inv p σ w → S w)
    (hstep : ∀ k ∈ F, ∀ (a : Act) (w : World) (p : Nat → Bool) (σ : Nat → Value), Inv p σ w → p k = false → (∀ t, (∀ j ∈ F, dst j ≠ t) → a.eval (.tmp t) = a0.eval (.tmp t)) → (∀ j ∈ deps k, a.eval (.tmp (dst j)) = σ j ∧ p j = true) →
      ((l[k]?).getD default).wp P a w (fun a' w' => ∃ v, a' = a.put (some (dst k)) v ∧ Inv (fun j => p j || j == k) (fun j => if j = k then v else σ j) w') Q)
    (hfin : ∀ (p : Nat → Bool) (σ : Nat → Value) (w : World), Inv p σ w → (∀ k ∈ F, p k = true) → wpAnyX P md l.toArray Q S X f (setL F s0) (putL dst σ F a0) w) :
    ∀ w σ0, Inv (fun _ => false) σ0 w → wpAnyX P md l.toArray Q S X (f + F.length) s0 a0 w := by
  have main : ∀ (r : Nat) (p : Nat → Bool) (σ : Nat → Value) (w : World), (F.filter p).length + r = F.length → Inv p σ w →
      wpAnyX P md l.toArray Q S X (f + r) (setL (F.filter p) s0) (putL dst σ (F.filter p) a0) w := by
    intro r
    induction r with
    | zero =>
      intro p σ w hl hp
      have hF : F.filter p = F := List.filter_eq_self.2 (List.length_filter_eq_length_iff.1 (by omega))
      rw [hF]
      exact hfin p σ w hp (fun k hk => List.length_filter_eq_length_iff.1 (by omega) k hk)
    | succ r ih =>
      intro p σ w hl hp
      have hw := List.all_eq_true.1 hweb _ (filter_subs p F)
      have hne : ¬ (F.filter p = F) := fun e => by rw [e] at hl; omega
      simp only [Bool.or_eq_true, beq_iff_eq, hne, false_or, Bool.and_eq_true, Bool.not_eq_true', List.isEmpty_eq_false_iff, List.all_eq_true] at hw
      obtain ⟨h1, h2⟩ := hw
      refine ⟨fun h0 => absurd h0 h1, fun k hk => ?_⟩
      obtain ⟨⟨hkF, hkD⟩, hdep⟩ := h2 k hk
      have hkF : k ∈ F := by simpa using hkF
      have hpk : p k = false := by
        cases e : p k with
        | false => rfl
        | true => exact absurd (List.mem_filter.2 ⟨hkF, e⟩) (by simpa using hkD)
      have hdep : ∀ j ∈ deps k, j ∈ F ∧ p j = true := fun j hj => List.mem_filter.1 (by simpa using hdep j hj)
      obtain ⟨F1, F2, hFF, hk1, hk2⟩ := split_at hkF hnd
      have hok := List.all_eq_true.1 hop k hkF
      simp only [Bool.and_eq_true] at hok
      obtain ⟨o, ho⟩ := Option.isSome_iff_exists.1 hok.1
      have ho' : (l[k]?).getD default = o := by rw [ho]; rfl
      have hgo : o.guard = none := by rw [← ho']; exact Option.isNone_iff_eq_none.1 hok.2
      refine wpOp_ofL ho hgo ?_
      rw [← ho']
      have hs := hstep k hkF (putL dst σ (F.filter p) a0) w p σ hp hpk
        (fun t ht => putL_eval_ne dst σ _ a0 t (fun j hj => ht j (List.mem_filter.1 hj).1))
        (fun j hj => ⟨putL_eval_eq dst σ _ a0 j (List.mem_filter.2 (hdep j hj)) (fun i hi j hj => hdd i (List.mem_filter.1 hi).1 j (List.mem_filter.1 hj).1) (by rw [hN]; exact hsz j (hdep j hj).1), (hdep j hj).2⟩)
      refine Oper.wp_mono (fun a' w' h => ?_) hs
      obtain ⟨v, rfl, hinv⟩ := h
      refine ⟨fun _ => hS _ _ _ hinv, ?_⟩
      let p' : Nat → Bool := fun j => p j || j == k
      let σ' : Nat → Value := fun j => if j = k then v else σ j
      have e1 : F.filter p = F1.filter p ++ F2.filter p := by rw [hFF, List.filter_append, List.filter_cons, hpk]; rfl
      have q1 : ∀ E : List Nat, k ∉ E → E.filter p' = E.filter p := fun E hE => List.filter_congr fun x hx => by
        have : x ≠ k := fun e => hE (e ▸ hx)
        simp [p', this]
      have e2 : F.filter p' = F1.filter p ++ k :: F2.filter p := by
        rw [hFF, List.filter_append, List.filter_cons, q1 F1 hk1, q1 F2 hk2]
        simp [p']
      have hd2 : ∀ j ∈ F2.filter p, dst j ≠ dst k := fun j hj he => by
        have hjF : j ∈ F := by rw [hFF]; exact List.mem_append_right _ (List.mem_cons_of_mem _ (List.mem_filter.1 hj).1)
        have := hdd j hjF k hkF he
        rw [this] at hj
        exact hk2 (List.mem_filter.1 hj).1
      have e3 : (setL (F.filter p) s0).setIfInBounds k true = setL (F.filter p') s0 := by
        rw [e1, e2, setL_app, setL_app]
        exact setL_in _ _ _ (fun h => hk2 (List.mem_filter.1 h).1)
      have c1 : ∀ E : List Nat, k ∉ E → ∀ a, putL dst σ' E a = putL dst σ E a := fun E hE a => putL_congr dst E a fun j hj => by
        have : j ≠ k := fun e => hE (e ▸ hj)
        simp [σ', this]
      have e4 : (putL dst σ (F.filter p) a0).put (some (dst k)) v = putL dst σ' (F.filter p') a0 := by
        rw [e1, e2, putL_app, putL_app, putL_in dst σ _ _ _ _ hd2]
        show _ = putL dst σ' (F2.filter p) ((putL dst σ' (F1.filter p) a0).put (some (dst k)) (σ' k))
        rw [c1 _ (fun h => hk1 (List.mem_filter.1 h).1), c1 _ (fun h => hk2 (List.mem_filter.1 h).1)]
        simp [σ']
      rw [e3, e4]
      refine ih p' σ' w' ?_ hinv
      rw [e2]; rw [e1] at hl; simp only [List.length_append, List.length_cons] at *; omega
  intro w σ0 h0
  have e0 : F.filter (fun _ => false) = [] := List.filter_eq_nil_iff.2 (fun _ _ => by simp)
  have h := main F.length (fun _ => false) σ0 w (by rw [e0]; simp) h0
  rw [e0] at h
  exact h
end
end Go.Proofs.YtigdfkpkogompaaDoor
