/-
  The lowest key of the verifier's map; the plain side of the places' states.
-/
import Derived.Test.YtliealcdiogilaaDoorCoO
import Derived.Deep.LoopGhost
import Derived.Shelf.SlIterI.Collect
namespace Go.Proofs.YtliealcdiogilaaDoor
open Go.RowKit
attribute [local go_sem ↓] Go.wp_at_zero Go.wp_at_succ

/-! ### The lowest key -/
theorem foldl_min_le : ∀ (l : List Int) (a : Int), l.foldl min a ≤ a ∧ (∀ x ∈ l, l.foldl min a ≤ x) ∧ (l.foldl min a = a ∨ l.foldl min a ∈ l)
  | [], a => ⟨Int.le_refl _, (by intro x h; cases h), Or.inl rfl⟩
  | x :: r, a => by
    obtain ⟨h1, h2, h3⟩ := foldl_min_le r (min a x)
    rw [List.foldl_cons]
    refine ⟨by omega, fun y hy => ?_, ?_⟩
    · rcases List.mem_cons.1 hy with rfl | hy
      · omega
      · exact h2 y hy
    · rcases h3 with h | h
      · rw [h]
        by_cases hc : a ≤ x
        · exact .inl (by omega)
        · exact .inr (by rw [show min a x = x by omega]; exact List.mem_cons_self ..)
      · exact .inr (List.mem_cons_of_mem _ h)
theorem minOf_mem {l : List Int} (h : l ≠ []) : Lib.minOf l ∈ l ∧ ∀ x ∈ l, Lib.minOf l ≤ x := by
  obtain ⟨x, r, rfl⟩ := List.exists_cons_of_ne_nil h
  have e : Lib.minOf (x :: r) = r.foldl min x := by
    unfold Lib.minOf
    rw [List.headD_cons, List.foldl_cons, show min x x = x by omega]
  rw [e]
  obtain ⟨h1, h2, h3⟩ := foldl_min_le r x
  refine ⟨?_, fun y hy => ?_⟩
  · rcases h3 with h | h
    · rw [h]; exact List.mem_cons_self ..
    · exact List.mem_cons_of_mem _ h
  · rcases List.mem_cons.1 hy with rfl | hy
    · exact h1
    · exact h2 y hy
theorem keys_mem {w : World} {b n : Nat} {D : DataW Unit} (h : w.ownsMap Tryd.prog 3 boolR b n D) (x : Int) : x ∈ Go.intKeys D ↔ Maps.has D (.int .i64 x) = true := by
  obtain ⟨es, rfl, hk⟩ := h.keysOf
  have hk2 : ∀ p ∈ es, ∃ y, p.1 = Lit.int .i64 y := fun p hp => by
    obtain ⟨v, hv⟩ := hk p hp
    obtain ⟨y, _, hy, _⟩ := Maps.keyOf_i64 Tryd.underlying3 hv
    exact ⟨y, hy⟩
  rw [Maps.has_eq, List.any_eq_true]
  show x ∈ es.map (fun p : Lit × DataW Unit => Go.intOf p.1) ↔ _
  rw [List.mem_map]
  constructor
  · rintro ⟨p, hp, rfl⟩
    obtain ⟨a, ha⟩ := hk2 p hp
    exact ⟨p, hp, by rw [ha]; simp [Lit.sameKey, Go.intOf]⟩
  · rintro ⟨p, hp, hs⟩
    obtain ⟨a, ha⟩ := hk2 p hp
    rw [ha] at hs
    exact ⟨p, hp, by rw [ha]; simpa [Lit.sameKey, Go.intOf] using hs⟩
theorem keys_size {w : World} {b n : Nat} {D : DataW Unit} (h : w.ownsMap Tryd.prog 3 boolR b n D) : (Go.intKeys D).length = Maps.size D := by
  obtain ⟨es, rfl, _⟩ := h.keysOf
  show (es.map _).length = es.length
  simp
theorem todo_none {w : World} {b n : Nat} {D : DataW Unit} {todo : List Bool} (h : w.ownsMap Tryd.prog 3 boolR b n D) (hk : KeysIn D todo) (hs : Maps.size D = 0) : todo.findIdx? id = none := by
  rw [← keys_size h] at hs
  have h0 := List.eq_nil_of_length_eq_zero hs
  refine find_no _ _ fun j y hj hy => ?_
  cases y
  · rfl
  · have h1 : Maps.has D (.int .i64 (j : Int)) = true := (hk j).2 ⟨j, rfl, by rw [List.getD_eq_getElem?_getD, hy]; rfl⟩
    rw [← keys_mem h, h0] at h1
    cases h1
theorem todo_min {w : World} {b n : Nat} {D : DataW Unit} {todo : List Bool} (h : w.ownsMap Tryd.prog 3 boolR b n D) (hk : KeysIn D todo) (hs : 0 < Maps.size D) {ss : List Int} (hp : ss.Perm (Go.intKeys D)) :
    ss ≠ [] ∧ ∃ at_ : Nat, Lib.minOf ss = at_ ∧ at_ < todo.length ∧ todo.findIdx? id = some at_ ∧ todo[at_]? = some true := by
  have hl := hp.length_eq
  rw [keys_size h] at hl
  have hne : ss ≠ [] := by rintro rfl; simp at hl; omega
  obtain ⟨h1, h2⟩ := minOf_mem hne
  have h3 := (keys_mem h _).1 (hp.mem_iff.1 h1)
  obtain ⟨k, hk1, hk2⟩ := (hk _).1 h3
  have hkl : todo[k]? = some true := by
    rw [List.getD_eq_getElem?_getD] at hk2
    cases e : todo[k]? with
    | none => rw [e] at hk2; cases hk2
    | some y => rw [e] at hk2; rw [show y = true from hk2]
  have hlt := (List.getElem?_eq_some_iff.1 hkl).1
  refine ⟨hne, k, hk1, hlt, ?_, hkl⟩
  refine find_first _ _ k true hkl rfl fun j y hj hy => ?_
  cases y
  · rfl
  · have h4 : Maps.has D (.int .i64 (j : Int)) = true := (hk j).2 ⟨j, rfl, by rw [List.getD_eq_getElem?_getD, hy]; rfl⟩
    have h5 := h2 _ (hp.mem_iff.2 ((keys_mem h _).2 h4))
    rw [hk1] at h5
    omega

/-! ### The calls -/
theorem keys_any (mb : Nat) (w : World) :
    Calls Tryd.prog 47 #[.map (some mb)] w fun e w' => e = .returned (.func (.func 70) #[] #[.pointer (some ⟨w.heap.size, 0, none⟩)]) ∧ w' = w.alloc (.cells #[.map (some mb)] 88) :=
  callsIn_wide.1 (AnyZI.keys_in laysKeysA Fence.wide 5 trivial rfl (some mb) w)
theorem collect_any (Bm mb nn : Nat) (D : DataW Unit) (w : World) (hBm : Bm < w.heap.size) (hm : w.cell? ⟨Bm, 0, none⟩ = some (.map (some mb))) (ho : w.ownsMap Tryd.prog 3 boolR mb nn D) (hs : Maps.size D ≤ 1000000) :
    Calls Tryd.prog 46 #[.func (.func 70) #[] #[.pointer (some ⟨Bm, 0, none⟩)]] w fun e w' => ∃ (v : Value) (ss : List Int), e = .returned v ∧ ss.Perm (Go.intKeys D) ∧ w'.ownsRow w.heap.size 3 1 v ss.length (ss.map Go.encZ) ∧ (v = .slice none 0 0 ↔ ss = []) ∧ Below w.heap.size w w' :=
  callsIn_wide.1 (AnyZI.collect_in laysCollA Fence.wide 5 trivial trivial rfl (by decide) 70 #[.pointer (some ⟨Bm, 0, none⟩)] trivial (laysKeysA.f10.enters rfl) _ (Maps.size D) (by unfold maxLen; omega) (by omega) w
    (AnyZI.keys_gives { laysKeysA with } Fence.wide 3 trivial rfl (by decide) Bm mb nn D w hBm hm ho))

/-! ### The places' states, plain -/
theorem left_reach {v : Vs} {k : Nat} {s : List UInt8} (hs : s ≠ [45]) : leftV (reachV v k s) ≤ leftV v := by
  unfold reachV
  by_cases h : v.1.getD k [] = [45]
  · rw [if_pos h]
    have hk : k < v.1.length := by
      refine Decidable.byContradiction fun hn => ?_
      rw [List.getD_eq_getElem?_getD, List.getElem?_eq_none (by omega)] at h
      cases h
    have h1 := count_set hk h hs
    have h2 : (v.2.set k true).countP id ≤ v.2.countP id + 1 := by
      by_cases hk2 : k < v.2.length
      · rw [List.countP_set hk2]
        simp only [id]
        split <;> split <;> omega
      · rw [List.set_eq_of_length_le (by omega)]; omega
    unfold leftV
    simp only
    omega
  · rw [if_neg h]; exact Nat.le_refl _
theorem left_look {l : List Ci} {v v2 : Vs} {k : Nat} {x : Ci} (hx : l[k]? = some x) (h : lookV l v k = (v2, none)) : leftV v2 ≤ leftV v := by
  obtain ⟨op, m, q⟩ := x
  obtain ⟨s, e, hb⟩ : ∃ s e, behF (v.1.getD k []) op = (s, e) := ⟨_, _, rfl⟩
  by_cases he : e = 0
  · subst he
    have hs := nt_ne (beh_right hb).2
    by_cases h1 : op = 0 ∨ op = 21
    · rw [look_stop hx hb h1] at h
      have h2 : _ = v2 := congrArg Prod.fst h
      rw [← h2]
      exact Nat.le_refl _
    · by_cases h11 : op = 11
      · subst h11
        rw [look_jump hx hb] at h
        have h2 : _ = v2 := congrArg Prod.fst h
        rw [← h2]
        exact left_reach hs
      · by_cases h12 : op = 12
        · subst h12
          rw [look_none hx hb] at h
          by_cases hg : (reachV v (k + 1) s).1.getD (k + 1) [] = s
          · rw [if_pos hg] at h
            have h2 : _ = v2 := congrArg Prod.fst h
            rw [← h2]
            exact Nat.le_trans (left_reach hs) (left_reach hs)
          · rw [if_neg hg] at h
            have h2 := congrArg Prod.snd h
            cases h2
        · rw [look_next hx hb (fun e => h1 (.inl e)) h11 h12 (fun e => h1 (.inr e))] at h
          have h2 : _ = v2 := congrArg Prod.fst h
          rw [← h2]
          exact left_reach hs
  · rw [look_err hx hb he] at h
    have h2 := congrArg Prod.snd h
    cases h2
theorem look_ne {l : List Ci} {v v2 : Vs} {k i : Nat} {e : Int} {x : Ci} (hx : l[k]? = some x) (h : lookV l v k = (v2, some (i, e))) : e ≠ 0 := by
  obtain ⟨op, m, q⟩ := x
  obtain ⟨s, e', hb⟩ : ∃ s e, behF (v.1.getD k []) op = (s, e) := ⟨_, _, rfl⟩
  have fin : ∀ (c : Prop) [Decidable c] (j : Nat), (if c then none else some (j, (17 : Int))) = some (i, e) → e ≠ 0 := fun c _ j h => by
    by_cases hc : c
    · rw [if_pos hc] at h; cases h
    · rw [if_neg hc] at h; cases h; decide
  by_cases he : e' = 0
  · subst he
    by_cases h1 : op = 0 ∨ op = 21
    · rw [look_stop hx hb h1] at h
      have h2 := congrArg Prod.snd h
      cases h2
    · by_cases h11 : op = 11
      · subst h11
        rw [look_jump hx hb] at h
        exact fin _ _ (congrArg Prod.snd h)
      · by_cases h12 : op = 12
        · subst h12
          rw [look_none hx hb] at h
          by_cases hg : (reachV v (k + 1) s).1.getD (k + 1) [] = s
          · rw [if_pos hg] at h
            exact fin _ _ (congrArg Prod.snd h)
          · rw [if_neg hg] at h
            have h2 := congrArg Prod.snd h
            cases h2; decide
        · rw [look_next hx hb (fun e => h1 (.inl e)) h11 h12 (fun e => h1 (.inr e))] at h
          exact fin _ _ (congrArg Prod.snd h)
  · rw [look_err hx hb he] at h
    have h2 := congrArg Prod.snd h
    cases h2
    exact he
theorem left_del {v : Vs} {k : Nat} (h : v.2[k]? = some true) : leftV (v.1, v.2.set k false) + 1 = leftV v := by
  obtain ⟨hk, h2⟩ := List.getElem?_eq_some_iff.1 h
  have hp : 0 < v.2.countP id := List.countP_pos_iff.2 ⟨true, List.mem_of_getElem? h, rfl⟩
  unfold leftV
  simp only
  rw [List.countP_set hk, h2]
  simp only [id, if_true, Bool.false_eq_true, if_false]
  omega
/-- What a verifier begins with. -/
def v0 (n : Nat) : Vs := reachV (List.replicate (n + 1) [45], List.replicate (n + 1) false) 0 []
def verF (l : List Ci) : List (List UInt8) × Nat × Int := verV l (3 * l.length + 3) (v0 l.length)
theorem left_v0 (n : Nat) : leftV (v0 n) ≤ 3 * n + 3 := by
  refine Nat.le_trans (left_reach (by decide)) ?_
  unfold leftV
  simp only
  have h1 := List.countP_le_length (p := fun x : List UInt8 => x == [45]) (l := List.replicate (n + 1) [45])
  have h2 := List.countP_le_length (p := id) (l := List.replicate (n + 1) false)
  rw [List.length_replicate] at h1 h2
  omega
theorem ver_none {l : List Ci} {f : Nat} {v : Vs} (h : v.2.findIdx? id = none) : verV l f v = (v.1, l.length, 0) := by
  cases f with
  | zero => rfl
  | succ f => unfold verV; rw [h]
theorem ver_end {l : List Ci} {f : Nat} {v : Vs} (h : v.2.findIdx? id = some l.length) : verV l (f + 1) v = verV l f (v.1, v.2.set l.length false) := by
  rw [verV, h]; simp only; rw [if_pos trivial]
theorem ver_bad {l : List Ci} {f k i : Nat} {v v2 : Vs} {e : Int} (h : v.2.findIdx? id = some k) (hk : k ≠ l.length) (hl : lookV l (v.1, v.2.set k false) k = (v2, some (i, e))) : verV l (f + 1) v = ([], i, e) := by
  rw [verV, h]; simp only; rw [if_neg hk, hl]
theorem ver_go {l : List Ci} {f k : Nat} {v v2 : Vs} (h : v.2.findIdx? id = some k) (hk : k ≠ l.length) (hl : lookV l (v.1, v.2.set k false) k = (v2, none)) : verV l (f + 1) v = verV l f v2 := by
  rw [verV, h]; simp only; rw [if_neg hk, hl]
end Go.Proofs.YtliealcdiogilaaDoor
