/-
  Plain: what Build answers.
-/
import Derived.Test.YtbnmbncjefnpiaaDoorCdQ
namespace Go.Proofs.YtbnmbncjefnpiaaDoor

/-- A token: kind, number, bytes. -/
structure Tk where
  k : Int
  n : Int
  b : List Nat
def Tk.b100 (t : Tk) : List Nat := t.b.take 100
/-- Which of the five it is. -/
def Tk.r (t : Tk) : Nat := (t.k % 18446744073709551616).toNat % 5
/-- The open lists (the top first), whether all is right, how deep. -/
structure Bs where
  s : List (List Vc)
  ok : Bool
  d : Nat
def leafT (t : Tk) : Vc := if t.r = 0 then .mk 0 t.n [] [] else if t.r = 1 then .mk 1 0 t.b100 [] else .mk t.n t.n t.b100 []
def addT (v : Vc) : List (List Vc) → List (List Vc)
  | [] => []
  | l :: r => (l ++ [v]) :: r
def closeT : List (List Vc) → List (List Vc)
  | l :: p :: r => (p ++ [.mk 2 0 [] l]) :: r
  | s => s
def stepB (q : Bs) (t : Tk) : Bs :=
  if t.r = 0 ∨ t.r = 1 then ⟨addT (leafT t) q.s, q.ok, q.d⟩
  else if t.r = 2 then ⟨[] :: q.s, q.ok, max q.d (q.s.length + 1)⟩
  else if t.r = 3 then ⟨closeT q.s, q.ok, q.d⟩
  else ⟨addT (leafT t) q.s, q.ok && (decide (t.n = 0) && decide (t.b100 = [])), if t.n = 2 then max q.d (q.s.length + 1) else q.d⟩
def runB : List Tk → Bs := fun l => (l.take 60).foldl stepB ⟨[[]], true, 1⟩
def endB : Nat → List (List Vc) → List (List Vc)
  | 0, s => s
  | n + 1, s => endB n (closeT s)
def topB (s : List (List Vc)) : List Vc := (endB (s.length - 1) s).headD []
def valB (l : List Tk) : Vc := .mk 2 0 [] (topB (runB l).s)

/-! ### How deep -/
def dS : List (List Vc) → Nat
  | [] => 0
  | l :: r => max (r.length + 1 + depL l) (dS r)
def aS : List (List Vc) → Bool
  | [] => true
  | l :: r => allL l && aS r
def eS : List (List Vc) → Nat
  | [] => 0
  | l :: r => (encL l).length + 2 + eS r
theorem depL_app : ∀ (l m : List Vc), depL (l ++ m) = max (depL l) (depL m)
  | [], m => by simp [depL]
  | x :: r, m => by
    show depL (x :: (r ++ m)) = _
    rw [depL, depL_app r m, depL, Nat.max_assoc]
theorem allL_app : ∀ (l m : List Vc), allL (l ++ m) = (allL l && allL m)
  | [], m => by simp [allL]
  | x :: r, m => by
    show allL (x :: (r ++ m)) = _
    rw [allL, allL_app r m, allL, Bool.and_assoc]
theorem dS_add (v : Vc) : ∀ s : List (List Vc), s ≠ [] → dS (addT v s) = max (dS s) (s.length + depV v)
  | [], h => absurd rfl h
  | l :: r, _ => by
    simp only [addT, dS, depL_app, depL, List.length_cons]
    omega
theorem aS_add (v : Vc) : ∀ s : List (List Vc), s ≠ [] → aS (addT v s) = (aS s && allV v)
  | [], h => absurd rfl h
  | l :: r, _ => by
    simp only [addT, aS, allL_app, allL, Bool.and_true]
    cases allL l <;> cases aS r <;> cases allV v <;> rfl
theorem eS_add (v : Vc) : ∀ s : List (List Vc), s ≠ [] → eS (addT v s) = eS s + (encV v).length
  | [], h => absurd rfl h
  | l :: r, _ => by
    simp only [addT, eS, encL_app, encL, List.length_append, List.append_nil]
    omega
theorem add_len (v : Vc) (s : List (List Vc)) : (addT v s).length = s.length := by cases s <;> rfl
theorem close_eq : ∀ s : List (List Vc), dS (closeT s) = dS s ∧ aS (closeT s) = aS s ∧ eS (closeT s) = eS s
  | [] => ⟨rfl, rfl, rfl⟩
  | [_] => ⟨rfl, rfl, rfl⟩
  | l :: p :: r => by
    have h1 : depV (.mk 2 0 [] l) = depL l + 1 := by rw [depV, if_pos rfl]
    have h2 : allV (.mk 2 0 [] l) = allL l := by rw [allV]; simp [kindB]
    have h3 : (encV (.mk 2 0 [] l)).length = (encL l).length + 2 := by rw [encV, if_neg (by decide), if_neg (by decide), if_pos rfl]; simp
    refine ⟨?_, ?_, ?_⟩
    · simp only [closeT, dS, depL_app, depL, h1, List.length_cons]; omega
    · simp only [closeT, aS, allL_app, allL, h2, Bool.and_true]
      cases allL l <;> cases allL p <;> cases aS r <;> rfl
    · simp only [closeT, eS, encL_app, encL, List.length_append, h3, List.append_nil]; omega
theorem close_len : ∀ s : List (List Vc), (closeT s).length = if 2 ≤ s.length then s.length - 1 else s.length
  | [] => rfl
  | [_] => rfl
  | _ :: _ :: r => by simp [closeT]
theorem close_ne (s : List (List Vc)) (h : s ≠ []) : closeT s ≠ [] := by
  match s, h with
  | [_], _ => simp [closeT]
  | _ :: _ :: _, _ => simp [closeT]
theorem end_eq : ∀ (n : Nat) (s : List (List Vc)), dS (endB n s) = dS s ∧ aS (endB n s) = aS s ∧ eS (endB n s) = eS s
  | 0, _ => ⟨rfl, rfl, rfl⟩
  | n + 1, s => by
    have h1 := end_eq n (closeT s)
    have h2 := close_eq s
    exact ⟨h1.1.trans h2.1, h1.2.1.trans h2.2.1, h1.2.2.trans h2.2.2⟩
theorem end_len : ∀ (n : Nat) (s : List (List Vc)), n < s.length → (endB n s).length = s.length - n
  | 0, _, _ => rfl
  | n + 1, s, h => by
    have h1 := close_len s
    rw [if_pos (by omega)] at h1
    rw [endB, end_len n (closeT s) (by omega), h1]
    omega
theorem top_one {s : List (List Vc)} (h : s ≠ []) : ∃ l, endB (s.length - 1) s = [l] ∧ topB s = l ∧ dS s = 1 + depL l ∧ aS s = allL l ∧ eS s = (encL l).length + 2 := by
  have hp : 0 < s.length := List.length_pos_iff.2 h
  have h1 := end_len (s.length - 1) s (by omega)
  have h2 := end_eq (s.length - 1) s
  have h3 : ∃ l, endB (s.length - 1) s = [l] := List.length_eq_one_iff.1 (by omega)
  obtain ⟨l, e⟩ := h3
  refine ⟨l, e, by unfold topB; rw [e]; rfl, ?_, ?_, ?_⟩
  · rw [← h2.1, e]; simp [dS]
  · rw [← h2.2.1, e]; simp [aS]
  · rw [← h2.2.2, e]; simp [eS]
/-! ### The invariant of the run -/
structure Inv (q : Bs) (k : Nat) : Prop where
  ne : q.s ≠ []
  d : q.d = dS q.s
  ok : q.ok = aS q.s
  e : eS q.s ≤ 104 * k + 2
  few : ∀ l ∈ q.s, l.length ≤ k
  len : q.s.length ≤ k + 1
theorem dg_few : ∀ (u : Nat), u < 10 → (dgN u).length = 1 := fun u h => by rw [dgN_small h]; rfl
theorem dgN_len : ∀ (m u : Nat), u < 10 ^ (m + 1) → (dgN u).length ≤ m + 1
  | 0, u, h => by rw [dg_few u (by omega)]; exact Nat.le_refl _
  | m + 1, u, h => by
    by_cases h10 : u < 10
    · rw [dg_few u h10]; omega
    · rw [dgN_big h10, List.length_append]
      have := dgN_len m (u / 10) (by rw [Nat.pow_succ] at h; exact Nat.div_lt_of_lt_mul (by rw [Nat.mul_comm]; exact h))
      simp; omega
theorem itN_len {n : Int} (h0 : -9223372036854775808 ≤ n) (h1 : n ≤ 9223372036854775807) : (itN n).length ≤ 20 := by
  rw [itN_eq]
  split
  · rw [List.length_cons]
    have := dgN_len 18 n.natAbs (by omega)
    omega
  · have := dgN_len 18 n.toNat (by omega)
    omega
theorem itN_len3 {n : Nat} (h1 : n ≤ 100) : (itN n).length ≤ 3 := by
  rw [itN_eq, if_neg (by omega)]
  exact dgN_len 2 _ (by omega)
theorem leaf_enc (t : Tk) (h0 : -9223372036854775808 ≤ t.n) (h1 : t.n ≤ 9223372036854775807) : (encV (leafT t)).length ≤ 104 := by
  have hb : t.b100.length ≤ 100 := by unfold Tk.b100; simp; omega
  have h3 := itN_len3 hb
  have h4 := itN_len h0 h1
  have h5 : (itN 0).length ≤ 20 := itN_len (by omega) (by omega)
  unfold leafT
  split
  · rw [encV, if_pos rfl]; simp; omega
  · split
    · rw [encV, if_neg (by decide), if_pos rfl]; simp; omega
    · rw [encV]
      split
      · simp; omega
      · split
        · simp; omega
        · split <;> simp [encL]
theorem step_inv {q : Bs} {k : Nat} (t : Tk) (h : Inv q k) (h0 : -9223372036854775808 ≤ t.n) (h1 : t.n ≤ 9223372036854775807) : Inv (stepB q t) (k + 1) := by
  have hl := leaf_enc t h0 h1
  have hpos : 1 ≤ q.s.length := List.length_pos_iff.2 h.ne
  have hd1 : q.s.length ≤ dS q.s := by
    have : ∀ s : List (List Vc), s.length ≤ dS s := fun s => by
      cases s with
      | nil => exact Nat.zero_le _
      | cons l r => simp only [dS, List.length_cons]; omega
    exact this _
  have hadd : ∀ v : Vc, ∀ l ∈ addT v q.s, l.length ≤ k + 1 := fun v l hl => by
    have hf := h.few
    cases e : q.s with
    | nil => exact absurd e h.ne
    | cons a r =>
      rw [e] at hl hf
      rcases List.mem_cons.1 hl with rfl | hl
      · have := hf a (List.mem_cons_self ..); simp; omega
      · have := hf l (List.mem_cons_of_mem _ hl); omega
  have hane : ∀ v : Vc, addT v q.s ≠ [] := fun v e => by
    have := add_len v q.s
    rw [e] at this
    simp at this
    omega
  unfold stepB
  by_cases r01 : t.r = 0 ∨ t.r = 1
  · rw [if_pos r01]
    have hdep : depV (leafT t) = 0 := by
      unfold leafT
      rcases r01 with e | e
      · rw [if_pos e, depV, if_neg (by decide)]
      · rw [if_neg (by omega), if_pos e, depV, if_neg (by decide)]
    have hall : allV (leafT t) = true := by
      unfold leafT
      rcases r01 with e | e
      · rw [if_pos e]; simp [allV, allL, kindB]
      · rw [if_neg (by omega), if_pos e]; simp [allV, allL, kindB]
    exact ⟨hane _, by rw [dS_add _ _ h.ne, hdep, h.d]; omega, by rw [aS_add _ _ h.ne, hall, h.ok, Bool.and_true], by rw [eS_add _ _ h.ne]; have := h.e; omega, hadd _, by rw [add_len]; have := h.len; omega⟩
  · rw [if_neg r01]
    by_cases r2 : t.r = 2
    · rw [if_pos r2]
      refine ⟨by simp, ?_, ?_, ?_, fun l hl => ?_, ?_⟩
      · show max q.d (q.s.length + 1) = dS ([] :: q.s)
        simp only [dS, depL, h.d]; omega
      · show q.ok = aS ([] :: q.s)
        simp [aS, allL, h.ok]
      · show eS ([] :: q.s) ≤ _
        have := h.e
        simp only [eS, encL, List.length_nil]; omega
      · rcases List.mem_cons.1 hl with rfl | hl
        · exact Nat.zero_le _
        · have := h.few l hl; omega
      · have := h.len
        show ([] :: q.s : List (List Vc)).length ≤ _
        simp; omega
    · rw [if_neg r2]
      by_cases r3 : t.r = 3
      · rw [if_pos r3]
        have hc := close_eq q.s
        refine ⟨close_ne _ h.ne, by rw [hc.1]; exact h.d, by rw [hc.2.1]; exact h.ok, by rw [hc.2.2]; have := h.e; omega, fun l hl => ?_, by rw [close_len]; have := h.len; split <;> omega⟩
        have hf := h.few
        match e : q.s with
        | [] => exact absurd e h.ne
        | [a] =>
          rw [e] at hl hf
          have := hf l hl; omega
        | a :: p :: r =>
          rw [e] at hl hf
          rcases List.mem_cons.1 hl with rfl | hl
          · have := hf p (by simp); simp; omega
          · have := hf l (by simp [hl]); omega
      · rw [if_neg r3]
        have hlf : leafT t = .mk t.n t.n t.b100 [] := by unfold leafT; rw [if_neg (by omega), if_neg (by omega)]
        have hdep : depV (leafT t) = if t.n = 2 then 1 else 0 := by rw [hlf, depV]; simp [depL]
        have hall : allV (leafT t) = (decide (t.n = 0) && decide (t.b100 = [])) := by
          rw [hlf, allV]
          simp only [allL, Bool.and_true]
          unfold kindB
          by_cases n0 : t.n = 0
          · rw [if_pos n0]
            cases e : t.b100 <;> simp [n0]
          · rw [if_neg n0]
            have hn0 : decide (t.n = 0) = false := decide_eq_false n0
            have hn1 : (t.n == 0) = false := by simpa using n0
            rw [hn0, hn1]
            split
            · rfl
            · split <;> rfl
        refine ⟨hane _, ?_, ?_, by rw [eS_add _ _ h.ne]; have := h.e; omega, hadd _, by rw [add_len]; have := h.len; omega⟩
        · show (if t.n = 2 then max q.d (q.s.length + 1) else q.d) = dS (addT (leafT t) q.s)
          rw [dS_add _ _ h.ne, hdep, h.d]
          split
          · rfl
          · omega
        · show (q.ok && _) = aS (addT (leafT t) q.s)
          rw [aS_add _ _ h.ne, hall, h.ok]
theorem inv_run : ∀ (l : List Tk) (q : Bs) (k : Nat), Inv q k → (∀ t ∈ l, -9223372036854775808 ≤ t.n ∧ t.n ≤ 9223372036854775807) → Inv (l.foldl stepB q) (k + l.length)
  | [], q, k, h, _ => h
  | t :: r, q, k, h, hn => by
    have h1 := step_inv t h (hn t (List.mem_cons_self ..)).1 (hn t (List.mem_cons_self ..)).2
    have := inv_run r _ _ h1 fun x hx => hn x (List.mem_cons_of_mem _ hx)
    rw [List.foldl_cons, List.length_cons, show k + (r.length + 1) = k + 1 + r.length by omega]
    exact this
theorem inv_B (l : List Tk) (hn : ∀ t ∈ l, -9223372036854775808 ≤ t.n ∧ t.n ≤ 9223372036854775807) : Inv (runB l) 60 := by
  have h0 : Inv ⟨[[]], true, 1⟩ 0 := ⟨by simp, by simp [dS, depL], by simp [aS, allL], by simp [eS, encL], by simp, by simp⟩
  have h1 := inv_run (l.take 60) _ 0 h0 fun t ht => hn t (List.mem_of_mem_take ht)
  have hl : (l.take 60).length ≤ 60 := List.length_take_le _ _
  rw [Nat.zero_add] at h1
  exact ⟨h1.ne, h1.d, h1.ok, Nat.le_trans h1.e (by omega), fun x hx => Nat.le_trans (h1.few x hx) (by omega), Nat.le_trans h1.len (by omega)⟩
/-- What the statements use of it. -/
theorem build_law (l : List Tk) (hn : ∀ t ∈ l, -9223372036854775808 ≤ t.n ∧ t.n ≤ 9223372036854775807) :
    allV (valB l) = (runB l).ok ∧ depV (valB l) = (runB l).d ∧ (encV (valB l)).length ≤ 6242 ∧ 1 ≤ (runB l).d := by
  have h := inv_B l hn
  obtain ⟨x, h1, h2, h3, h4, h5⟩ := top_one h.ne
  have hv : valB l = .mk 2 0 [] x := by unfold valB; rw [h2]
  refine ⟨by rw [hv, h.ok, h4, allV]; simp [kindB], by rw [hv, h.d, h3, depV, if_pos rfl]; omega, ?_, by rw [h.d, h3]; omega⟩
  have := h.e
  rw [hv, encV, if_neg (by decide), if_neg (by decide), if_pos rfl]
  simp; omega

end Go.Proofs.YtbnmbncjefnpiaaDoor
