/-
  The plain law of LexerTexts: the tokens of a text that is made of tokens with blanks between them.
-/
import Derived.Test.YtegekeeffpfpjaaLexJoinP
namespace Go.Proofs.Ytegekeeffpfpjaa
open Go.RowKit

/-- What may stand behind a token. -/
def Ends (z : List UInt8) : Prop := z = [] ∨ ∃ c m, z = c :: m ∧ (c = 32 ∨ c = 10 ∨ c = 9)
theorem ends_run {p : Int → Bool} (h32 : p 32 = false) (h10 : p 10 = false) (h9 : p 9 = false) {z : List UInt8} (hz : Ends z) : runL p z = 0 := by
  rcases hz with rfl | ⟨c, m, rfl, rfl | rfl | rfl⟩
  · rfl
  · show (if p 32 = true then _ else 0) = 0
    rw [h32]; rfl
  · show (if p 10 = true then _ else 0) = 0
    rw [h10]; rfl
  · show (if p 9 = true then _ else 0) = 0
    rw [h9]; rfl
theorem ends_get {z : List UInt8} (hz : Ends z) : (z[0]?.getD 0).toNat ≠ 46 := by
  rcases hz with rfl | ⟨c, m, rfl, rfl | rfl | rfl⟩ <;> simp
theorem runL_cons (p : Int → Bool) (b : UInt8) (l : List UInt8) : runL p (b :: l) = if p (b.toNat : Int) = true then runL p l + 1 else 0 := rfl
theorem run_take {p : Int → Bool} (h32 : p 32 = false) (h10 : p 10 = false) (h9 : p 9 = false) {z : List UInt8} (hz : Ends z) : ∀ r : List UInt8, runL p (r.take (runL p r) ++ z) = runL p r := by
  intro r
  induction r with
  | nil => exact ends_run h32 h10 h9 hz
  | cons b r ih =>
    rw [runL_cons]
    by_cases q : p (b.toNat : Int) = true
    · rw [if_pos q, List.take_succ_cons, List.cons_append, runL_cons, if_pos q, ih]
    · rw [if_neg q, List.take_zero, List.nil_append]; exact ends_run h32 h10 h9 hz
theorem run_pre {p : Int → Bool} (z : List UInt8) : ∀ (r : List UInt8) (m : Nat), runL p r < m → runL p r < r.length → runL p (r.take m ++ z) = runL p r := by
  intro r
  induction r with
  | nil => intro m h h2; simp at h2
  | cons b r ih =>
    intro m h h2
    obtain ⟨m, rfl⟩ : ∃ m', m = m' + 1 := ⟨m - 1, by omega⟩
    rw [List.take_succ_cons, List.cons_append, runL_cons, runL_cons]
    rw [runL_cons] at h h2
    by_cases q : p (b.toNat : Int) = true
    · rw [if_pos q] at h h2
      rw [if_pos q, if_pos q, ih m (by omega) (by simp at h2; omega)]
    · rw [if_neg q, if_neg q]
theorem get_take {r z : List UInt8} {n i : Nat} (h : i < n) (hn : n ≤ r.length) : (r.take n ++ z)[i]?.getD 0 = r[i]?.getD 0 := by
  rw [List.getElem?_append_left (by rw [List.length_take]; omega), List.getElem?_take, if_pos h]
theorem get_end {r z : List UInt8} {n : Nat} (hn : n ≤ r.length) : (r.take n ++ z)[n]?.getD 0 = z[0]?.getD 0 := by
  have hl : (r.take n).length = n := by rw [List.length_take]; omega
  rw [List.getElem?_append_right (by omega), hl, Nat.sub_self]

theorem word_take {z : List UInt8} (hz : Ends z) (r : List UInt8) : wordL (r.take (wordL r).1 ++ z) = wordL r := by
  have hq := runL_le isInn r
  have plain : ∀ q, runL isInn r = q → wordL (r.take q ++ z) = (q, 0) := fun q e => by
    have h1 : runL isInn (r.take q ++ z) = q := by rw [← e]; exact run_take (by decide) (by decide) (by decide) hz r
    unfold wordL
    rw [h1, get_end (by omega), if_neg (fun h => ends_get hz h.2)]
  obtain ⟨q, hqq⟩ : ∃ q, runL isInn r = q := ⟨_, rfl⟩
  by_cases c1 : q + 1 < r.length ∧ (r[q]?.getD 0).toNat = 46
  · by_cases c2 : (r[q + 1]?.getD 0).toNat = 42
    · have e : wordL r = (q + 2, 3) := by unfold wordL; rw [hqq, if_pos c1, if_pos c2]
      rw [e]
      dsimp only
      have h1 : runL isInn (r.take (q + 2) ++ z) = q := by rw [← hqq]; exact run_pre z r _ (by omega) (by omega)
      have hl : (r.take (q + 2) ++ z).length = q + 2 + z.length := by rw [List.length_append, List.length_take]; omega
      unfold wordL
      rw [h1, get_take (show q < q + 2 by omega) (by omega), get_take (show q + 1 < q + 2 by omega) (by omega), if_pos ⟨by omega, c1.2⟩, if_pos c2]
    · by_cases c3 : 0 < runL isNam (r.drop (q + 1))
      · obtain ⟨k, hk⟩ : ∃ k, runL isNam (r.drop (q + 1)) = k := ⟨_, rfl⟩
        have e : wordL r = (q + 1 + k, 3) := by unfold wordL; rw [hqq, if_pos c1, if_neg c2, if_pos c3, hk]
        have hk2 := runL_le isNam (r.drop (q + 1))
        rw [hk, List.length_drop] at hk2
        rw [hk] at c3
        rw [e]
        dsimp only
        have h1 : runL isInn (r.take (q + 1 + k) ++ z) = q := by rw [← hqq]; exact run_pre z r _ (by omega) (by omega)
        have hl : (r.take (q + 1 + k) ++ z).length = q + 1 + k + z.length := by rw [List.length_append, List.length_take]; omega
        have hd : (r.take (q + 1 + k) ++ z).drop (q + 1) = (r.drop (q + 1)).take k ++ z := by
          rw [List.drop_append_of_le_length (by rw [List.length_take]; omega), List.drop_take, show q + 1 + k - (q + 1) = k by omega]
        have h2 : runL isNam ((r.drop (q + 1)).take k ++ z) = k := by rw [← hk]; exact run_take (by decide) (by decide) (by decide) hz _
        unfold wordL
        rw [h1, get_take (show q < q + 1 + k by omega) (by omega), get_take (show q + 1 < q + 1 + k by omega) (by omega), if_pos ⟨by omega, c1.2⟩, if_neg c2, hd, h2, if_pos c3]
      · have e : wordL r = (q, 0) := by unfold wordL; rw [hqq, if_pos c1, if_neg c2, if_neg c3]
        rw [e]; exact plain q hqq
  · have e : wordL r = (q, 0) := by unfold wordL; rw [hqq, if_neg c1]
    rw [e]; exact plain q hqq

theorem size_take {z : List UInt8} (hz : Ends z) (r : List UInt8) (hr : 0 < r.length) (hn : (sizeL r).1 ≠ 0) : sizeL (r.take (sizeL r).1 ++ z) = sizeL r := by
  have hle := sizeL_le r hr
  have hg : (r.take (sizeL r).1 ++ z)[0]?.getD 0 = r[0]?.getD 0 := get_take (by omega) hle
  by_cases c1 : isLet ((r[0]?.getD 0).toNat : Int) = true
  · have e : sizeL r = wordL r := by unfold sizeL; rw [if_pos c1]
    have e2 : sizeL (r.take (sizeL r).1 ++ z) = wordL (r.take (sizeL r).1 ++ z) := by unfold sizeL at hg ⊢; rw [hg, if_pos c1]
    rw [e2, e]; exact word_take hz r
  by_cases c2 : isDig ((r[0]?.getD 0).toNat : Int) = true
  · have e : sizeL r = (runL isDig r, 1) := by unfold sizeL; rw [if_neg c1, if_pos c2]
    have e2 : sizeL (r.take (sizeL r).1 ++ z) = (runL isDig (r.take (sizeL r).1 ++ z), 1) := by unfold sizeL at hg ⊢; rw [hg, if_neg c1, if_pos c2]
    rw [e2, e]; dsimp only; rw [run_take (by decide) (by decide) (by decide) hz r]
  by_cases c3 : (((r[0]?.getD 0).toNat : Int) == 47) = true
  · have e : sizeL r = (runL isPat r, 2) := by unfold sizeL; rw [if_neg c1, if_neg c2, if_pos c3]
    have e2 : sizeL (r.take (sizeL r).1 ++ z) = (runL isPat (r.take (sizeL r).1 ++ z), 2) := by unfold sizeL at hg ⊢; rw [hg, if_neg c1, if_neg c2, if_pos c3]
    rw [e2, e]; dsimp only; rw [run_take (by decide) (by decide) (by decide) hz r]
  by_cases c4 : isAlo ((r[0]?.getD 0).toNat : Int) = true
  · have e : sizeL r = (1, 4) := by unfold sizeL; rw [if_neg c1, if_neg c2, if_neg c3, if_pos c4]
    have e2 : sizeL (r.take (sizeL r).1 ++ z) = (1, 4) := by unfold sizeL at hg ⊢; rw [hg, if_neg c1, if_neg c2, if_neg c3, if_pos c4]
    rw [e2, e]
  · exact absurd (by unfold sizeL; rw [if_neg c1, if_neg c2, if_neg c3, if_neg c4]) hn

/-- A token as it may stand in any text, with a blank behind it. -/
def Valid (k : Nat) (t : List UInt8) : Prop := t ≠ [] ∧ longB t.length k ≠ true ∧ (∀ z, Ends z → sizeL (t ++ z) = (t.length, k)) ∧ ∀ z ln, skipL false (t ++ z) ln = (t ++ z, ln)

theorem skip_head : ∀ (l : List UInt8) (note : Bool) (ln : Nat) (c : UInt8) (m : List UInt8), (skipL note l ln).1 = c :: m → ∀ m' ln', skipL false (c :: m') ln' = (c :: m', ln') := by
  intro l
  induction l with
  | nil => intro note ln c m h; cases h
  | cons b l ih =>
    intro note ln c m h
    rw [skipL_cons] at h
    by_cases q1 : ((b.toNat : Int) == 10) = true
    · rw [if_pos q1] at h; exact ih _ _ _ _ h
    rw [if_neg q1] at h
    by_cases q2 : (note || (b.toNat : Int) == 32 || (b.toNat : Int) == 9) = true
    · rw [if_pos q2] at h; exact ih _ _ _ _ h
    rw [if_neg q2] at h
    by_cases q3 : ((b.toNat : Int) == 35) = true
    · rw [if_pos q3] at h; exact ih _ _ _ _ h
    rw [if_neg q3] at h
    injection h with h1 h2
    subst h1
    intro m' ln'
    have q2' : ¬ (false || (b.toNat : Int) == 32 || (b.toNat : Int) == 9) = true := by
      cases note
      · exact q2
      · simp at q2
    rw [skipL_cons, if_neg q1, if_neg q2', if_neg q3]

theorem valid_of {l r : List UInt8} {ln : Nat} (hr : (skipL false l ln).1 = r) (h0 : r ≠ []) (h1 : (sizeL r).1 ≠ 0) (h2 : longB (sizeL r).1 (sizeL r).2 ≠ true) : Valid (sizeL r).2 (r.take (sizeL r).1) := by
  have hrl : 0 < r.length := List.length_pos_iff.2 h0
  have hle := sizeL_le r hrl
  have hlen : (r.take (sizeL r).1).length = (sizeL r).1 := by rw [List.length_take]; omega
  refine ⟨fun e => ?_, by rw [hlen]; exact h2, fun z hz => by rw [size_take hz r hrl h1, hlen], fun z ln' => ?_⟩
  · rw [e] at hlen; simp at hlen; omega
  · cases r with
    | nil => exact absurd rfl h0
    | cons c m =>
      obtain ⟨n, hn⟩ : ∃ n, (sizeL (c :: m)).1 = n + 1 := ⟨(sizeL (c :: m)).1 - 1, by omega⟩
      rw [hn, List.take_succ_cons, List.cons_append]
      exact skip_head l false ln c m hr _ _

theorem toks_valid : ∀ (f : Nat) (l : List UInt8) (ln : Nat), ∀ t ∈ (tokF f l ln).1, Valid t.1 t.2.1 := by
  intro f
  induction f with
  | zero => intro l ln t h; cases h
  | succ f ih =>
    intro l ln t h
    by_cases q0 : (skipL false l ln).1 = []
    · rw [tokF_nil q0] at h; cases h
    by_cases q1 : (sizeL (skipL false l ln).1).1 = 0
    · rw [tokF_none q0 q1] at h; cases h
    by_cases q2 : longB (sizeL (skipL false l ln).1).1 (sizeL (skipL false l ln).1).2 = true
    · rw [tokF_long q0 q1 q2] at h; cases h
    · rw [tokF_one q0 q1 q2] at h
      simp only [List.mem_cons] at h
      rcases h with rfl | h
      · exact valid_of rfl q0 q1 q2
      · exact ih _ _ _ h
theorem toks_sum : ∀ (f : Nat) (l : List UInt8) (ln : Nat), ((tokF f l ln).1.map fun t => t.2.1).flatten.length ≤ l.length := by
  intro f
  induction f with
  | zero => intro l ln; simp [tokF]
  | succ f ih =>
    intro l ln
    have hsl := skip_len l false ln
    by_cases q0 : (skipL false l ln).1 = []
    · rw [tokF_nil q0]; simp
    by_cases q1 : (sizeL (skipL false l ln).1).1 = 0
    · rw [tokF_none q0 q1]; simp
    by_cases q2 : longB (sizeL (skipL false l ln).1).1 (sizeL (skipL false l ln).1).2 = true
    · rw [tokF_long q0 q1 q2]; simp
    · rw [tokF_one q0 q1 q2]
      have hi := ih ((skipL false l ln).1.drop (sizeL (skipL false l ln).1).1) (skipL false l ln).2
      rw [List.length_drop] at hi
      have hle := sizeL_le (skipL false l ln).1 (List.length_pos_iff.2 q0)
      rw [List.map_cons, List.flatten_cons, List.length_append, List.length_take]
      omega

/-- Tokens with blanks ahead of each, and what stands at the end. -/
def joinB : List (List UInt8 × Nat × List UInt8) → List UInt8 → List UInt8
  | [], e => e
  | y :: q, e => y.1 ++ (y.2.2 ++ joinB q e)
def Blank (b : List UInt8) : Prop := ∀ m ln, ∃ ln', skipL false (b ++ m) ln = skipL false m ln'
def Starts (b : List UInt8) : Prop := ∃ c m, b = c :: m ∧ (c = 32 ∨ c = 10 ∨ c = 9)
theorem starts_app {b m : List UInt8} (h : Starts b) : Ends (b ++ m) := by
  obtain ⟨c, m', rfl, h⟩ := h
  exact .inr ⟨c, m' ++ m, rfl, h⟩

theorem tok_seq (e : List UInt8) (he : Blank e) (hee : Ends e) : ∀ (q : List (List UInt8 × Nat × List UInt8)), (∀ y ∈ q, Blank y.1 ∧ Valid y.2.1 y.2.2) → (∀ y ∈ q.tail, Starts y.1) →
    ∀ f ln, (joinB q e).length < f → (tokF f (joinB q e) ln).1.map (fun t => (t.1, t.2.1)) = q.map (fun y => (y.2.1, y.2.2)) ∧ (tokF f (joinB q e) ln).2.1 = 4 := by
  intro q
  induction q with
  | nil =>
    intro _ _ f ln hf
    obtain ⟨f, rfl⟩ : ∃ f', f = f' + 1 := ⟨f - 1, by omega⟩
    have h : (skipL false e ln).1 = [] := by
      obtain ⟨ln', h⟩ := he [] ln
      rw [List.append_nil] at h
      rw [h]; rfl
    show (tokF (f + 1) e ln).1.map _ = _ ∧ (tokF (f + 1) e ln).2.1 = 4
    rw [tokF_nil h]; exact ⟨rfl, rfl⟩
  | cons y q ih =>
    intro hv hs f ln hf
    obtain ⟨f, rfl⟩ : ∃ f', f = f' + 1 := ⟨f - 1, by omega⟩
    obtain ⟨hb, hne, hlo, hsz, hsk⟩ := hv y (List.mem_cons_self ..)
    have hE : Ends (joinB q e) := by
      cases q with
      | nil => exact hee
      | cons y' q' => exact starts_app (hs y' (List.mem_cons_self ..))
    have hj : joinB (y :: q) e = y.1 ++ (y.2.2 ++ joinB q e) := rfl
    rw [hj] at hf ⊢
    obtain ⟨ln', h1⟩ := hb (y.2.2 ++ joinB q e) ln
    rw [hsk] at h1
    have hpos : 0 < y.2.2.length := List.length_pos_iff.2 hne
    have e1 : (skipL false (y.1 ++ (y.2.2 ++ joinB q e)) ln).1 = y.2.2 ++ joinB q e := by rw [h1]
    have e2 : (skipL false (y.1 ++ (y.2.2 ++ joinB q e)) ln).2 = ln' := by rw [h1]
    have e3 := hsz _ hE
    rw [tokF_one (by rw [e1]; simp [hne]) (by rw [e1, e3]; show y.2.2.length ≠ 0; omega) (by rw [e1, e3]; exact hlo), e1, e2, e3]
    dsimp only
    rw [List.take_left, List.drop_left]
    rw [List.length_append, List.length_append] at hf
    obtain ⟨i1, i2⟩ := ih (fun z hz => hv z (List.mem_cons_of_mem _ hz)) (fun z hz => hs z (List.mem_of_mem_tail hz)) f ln' (by omega)
    exact ⟨by rw [List.map_cons, List.map_cons, i1], i2⟩

/-- The text of tokens. -/
def pend (t : List UInt8) (r : List (List UInt8)) : List UInt8 := if t = [59] then [10] else if r = [] then [] else [32]
def textG : List (List UInt8) → List UInt8
  | [] => []
  | t :: r => t ++ (pend t r ++ textG r)
def endT (t : List UInt8) : List UInt8 := if t = [59] then [10] else []
def sepT (l : List (List UInt8)) : List UInt8 := match l.getLast? with
  | none => []
  | some p => if p = [59] then [] else [32]
theorem textG_snoc (t : List UInt8) : ∀ l : List (List UInt8), textG (l ++ [t]) = textG l ++ (sepT l ++ (t ++ endT t)) := by
  intro l
  induction l with
  | nil => simp [textG, sepT, pend, endT]
  | cons y l ih =>
    have h1 : textG (y :: l ++ [t]) = y ++ (pend y (l ++ [t]) ++ textG (l ++ [t])) := rfl
    have h2 : textG (y :: l) = y ++ (pend y l ++ textG l) := rfl
    rw [h1, h2, ih]
    cases l with
    | nil =>
      by_cases h : y = [59] <;> simp [pend, sepT, textG, h]
    | cons x l =>
      have h3 : sepT (y :: x :: l) = sepT (x :: l) := by simp [sepT]
      have h4 : pend y (x :: l ++ [t]) = pend y (x :: l) := by simp [pend]
      rw [h3, h4]; simp
def seqT (b : List UInt8) : List (Nat × List UInt8) → List (List UInt8 × Nat × List UInt8)
  | [] => []
  | y :: r => (b, y.1, y.2) :: seqT (pend y.2 (r.map (·.2))) r
def tailT (b : List UInt8) : List (Nat × List UInt8) → List UInt8
  | [] => b
  | y :: r => tailT (pend y.2 (r.map (·.2))) r
theorem seqT_join : ∀ (x : List (Nat × List UInt8)) (b : List UInt8), joinB (seqT b x) (tailT b x) = b ++ textG (x.map (·.2)) := by
  intro x
  induction x with
  | nil => intro b; simp [joinB, seqT, tailT, textG]
  | cons y x ih =>
    intro b
    show b ++ (y.2 ++ joinB (seqT (pend y.2 (x.map (·.2))) x) (tailT (pend y.2 (x.map (·.2))) x)) = _
    rw [ih]
    rfl
theorem seqT_keys : ∀ (x : List (Nat × List UInt8)) (b : List UInt8), (seqT b x).map (fun y => (y.2.1, y.2.2)) = x := by
  intro x
  induction x with
  | nil => intro b; rfl
  | cons y x ih =>
    intro b
    show (y.1, y.2) :: (seqT _ x).map _ = _
    rw [ih]
theorem blank0 : Blank [] := fun _ ln => ⟨ln, rfl⟩
theorem blank1 : Blank [32] := fun _ ln => ⟨ln, rfl⟩
theorem blank2 : Blank [10] := fun _ ln => ⟨ln + 1, rfl⟩
theorem pend_blank (t : List UInt8) (r : List (List UInt8)) : Blank (pend t r) := by
  unfold pend
  split
  · exact blank2
  · split
    · exact blank0
    · exact blank1
theorem seqT_ok : ∀ (x : List (Nat × List UInt8)) (b : List UInt8), Blank b → (∀ y ∈ x, Valid y.1 y.2) → ∀ y ∈ seqT b x, Blank y.1 ∧ Valid y.2.1 y.2.2 := by
  intro x
  induction x with
  | nil => intro b _ _ y h; cases h
  | cons z x ih =>
    intro b hb hv y h
    have h' : y ∈ (b, z.1, z.2) :: seqT (pend z.2 (x.map (·.2))) x := h
    simp only [List.mem_cons] at h'
    rcases h' with rfl | h'
    · exact ⟨hb, hv z (List.mem_cons_self ..)⟩
    · exact ih _ (pend_blank _ _) (fun w hw => hv w (List.mem_cons_of_mem _ hw)) y h'
theorem seqT_starts : ∀ (x : List (Nat × List UInt8)) (b : List UInt8), (x ≠ [] → Starts b) → ∀ y ∈ seqT b x, Starts y.1 := by
  intro x
  induction x with
  | nil => intro b _ y h; cases h
  | cons z x ih =>
    intro b hb y h
    have h' : y ∈ (b, z.1, z.2) :: seqT (pend z.2 (x.map (·.2))) x := h
    simp only [List.mem_cons] at h'
    rcases h' with rfl | h'
    · exact hb (by simp)
    · refine ih _ (fun hx => ?_) y h'
      unfold pend
      split
      · exact ⟨10, [], rfl, by simp⟩
      · rw [if_neg (by simpa using hx)]
        exact ⟨32, [], rfl, by simp⟩
theorem tailT_ok : ∀ (x : List (Nat × List UInt8)) (b : List UInt8), Blank b → Ends b → Blank (tailT b x) ∧ Ends (tailT b x) := by
  intro x
  induction x with
  | nil => intro b h1 h2; exact ⟨h1, h2⟩
  | cons z x ih =>
    intro b _ _
    refine ih _ (pend_blank _ _) ?_
    unfold pend
    split
    · exact .inr ⟨10, [], rfl, by simp⟩
    · split
      · exact .inl rfl
      · exact .inr ⟨32, [], rfl, by simp⟩
theorem tok_text (x : List (Nat × List UInt8)) (hv : ∀ y ∈ x, Valid y.1 y.2) (f ln : Nat) (hf : (textG (x.map (·.2))).length < f) :
    (tokF f (textG (x.map (·.2))) ln).1.map (fun t => (t.1, t.2.1)) = x ∧ (tokF f (textG (x.map (·.2))) ln).2.1 = 4 := by
  have hj := seqT_join x []
  rw [List.nil_append] at hj
  rw [← hj] at hf ⊢
  obtain ⟨h1, h2⟩ := tailT_ok x [] blank0 (.inl rfl)
  have h := tok_seq (tailT [] x) h1 h2 (seqT [] x) (seqT_ok x [] blank0 hv) (fun y hy => by
    cases x with
    | nil => cases hy
    | cons z x =>
      refine seqT_starts x (pend z.2 (x.map fun y : Nat × List UInt8 => y.2)) (fun hx => ?_) y hy
      unfold pend
      split
      · exact ⟨10, [], rfl, by simp⟩
      · rw [if_neg (by simpa using hx)]
        exact ⟨32, [], rfl, by simp⟩) f ln hf
  rw [seqT_keys] at h
  exact h

/-- The same with one blank ahead of each token, and at the end. -/
def wideG (g : List UInt8) (l : List (List UInt8)) : List UInt8 := l.flatMap fun t => g ++ t
theorem wideG_snoc (g t : List UInt8) (l : List (List UInt8)) : wideG g (l ++ [t]) = wideG g l ++ (g ++ t) := by simp [wideG]
theorem tok_wide (g : List UInt8) (hb : Blank g) (hs : Starts g) (x : List (Nat × List UInt8)) (hv : ∀ y ∈ x, Valid y.1 y.2) (f ln : Nat) (hf : (wideG g (x.map (·.2)) ++ g).length < f) :
    (tokF f (wideG g (x.map (·.2)) ++ g) ln).1.map (fun t => (t.1, t.2.1)) = x ∧ (tokF f (wideG g (x.map (·.2)) ++ g) ln).2.1 = 4 := by
  have hj : ∀ x : List (Nat × List UInt8), joinB (x.map fun y => (g, y.1, y.2)) g = wideG g (x.map (·.2)) ++ g := by
    intro x
    induction x with
    | nil => rfl
    | cons y x ih =>
      show g ++ (y.2 ++ joinB _ g) = _
      rw [ih]; simp [wideG]
  rw [← hj] at hf ⊢
  have hE : Ends g := by have := starts_app (m := []) hs; rwa [List.append_nil] at this
  have h := tok_seq g hb hE (x.map fun y => (g, y.1, y.2)) (fun y hy => by
    obtain ⟨z, hz, rfl⟩ := List.mem_map.1 hy
    exact ⟨hb, hv z hz⟩) (fun y hy => by
    obtain ⟨z, hz, rfl⟩ := List.mem_map.1 (List.mem_of_mem_tail hy)
    exact hs) f ln hf
  have e : (x.map fun y => (g, y.1, y.2)).map (fun y => (y.2.1, y.2.2)) = x := by rw [List.map_map]; exact List.map_id x
  rw [e] at h
  exact h

def keyT (x : List Tok) : List (Nat × List UInt8) := x.map fun t => (t.1, t.2.1)
def txtT (x : List Tok) : List (List UInt8) := x.map fun t => t.2.1
theorem keyT_txt (x : List Tok) : (keyT x).map (·.2) = txtT x := by simp [keyT, txtT]
theorem txtT_len (x : List Tok) : (txtT x).length = x.length := by simp [txtT]
theorem textG_len : ∀ l : List (List UInt8), (textG l).length ≤ l.flatten.length + l.length := by
  intro l
  induction l with
  | nil => simp [textG]
  | cons y l ih =>
    have h1 : textG (y :: l) = y ++ (pend y l ++ textG l) := rfl
    have h2 : (pend y l).length ≤ 1 := by
      unfold pend
      split
      · simp
      · split <;> simp
    rw [h1, List.length_append, List.length_append, List.flatten_cons, List.length_append, List.length_cons]
    omega
theorem tok_valid {s : ByteArray} {x : List Tok} (h : TokV s 0 x) : (∀ y ∈ keyT x, Valid y.1 y.2) ∧ (txtT x).flatten.length ≤ s.size ∧ x.length ≤ 800 := by
  rcases h with ⟨_, _, h3, rfl⟩ | ⟨h, _⟩
  · refine ⟨fun y hy => ?_, ?_, h3⟩
    · obtain ⟨t, ht, rfl⟩ := List.mem_map.1 hy
      exact toks_valid _ _ _ t ht
    · have := toks_sum (s.size + 1) s.data.toList 1
      simpa [txtT, toksOf] using this
  · exact absurd rfl h
theorem tok_again {s z : ByteArray} {x m : List Tok} {E : Nat} (hx : TokV s 0 x) (hz : TokV z E m) (h : ∀ f ln, z.data.toList.length < f → (tokF f z.data.toList ln).1.map (fun t => (t.1, t.2.1)) = keyT x ∧ (tokF f z.data.toList ln).2.1 = 4) :
    E = 0 ∧ m.length = x.length ∧ sameT x m = true ∧ sameT m x = true ∧ txtT m = txtT x := by
  obtain ⟨h1, h2⟩ := h (z.size + 1) 1 (by simp)
  obtain ⟨-, -, h8⟩ := tok_valid hx
  have hk : keyT (toksOf z) = keyT x := h1
  have hl : (toksOf z).length = x.length := by have := congrArg List.length hk; simpa [keyT] using this
  rcases hz with ⟨rfl, _, _, rfl⟩ | ⟨_, _, h3⟩
  · refine ⟨rfl, hl, sameT_of _ _ hk.symm, sameT_of _ _ hk, ?_⟩
    rw [← keyT_txt, ← keyT_txt, hk]
  · rcases h3 with h3 | h3
    · exact absurd h2 h3
    · omega
theorem text_again {s t : ByteArray} {x m : List Tok} {E : Nat} (hx : TokV s 0 x) (ht : t.data.toList = textG (txtT x)) (hm : TokV t E m) : E = 0 ∧ m.length = x.length ∧ sameT x m = true ∧ sameT m x = true ∧ txtT m = txtT x :=
  tok_again hx hm fun f ln hf => by
    obtain ⟨hv, -, -⟩ := tok_valid hx
    rw [ht, ← keyT_txt] at hf ⊢
    exact tok_text (keyT x) hv f ln hf
theorem wide_again {s z : ByteArray} {x m : List Tok} {E : Nat} (g : List UInt8) (hb : Blank g) (hs : Starts g) (hx : TokV s 0 x) (ht : z.data.toList = wideG g (txtT x) ++ g) (hm : TokV z E m) : E = 0 ∧ m.length = x.length ∧ sameT x m = true ∧ sameT m x = true ∧ txtT m = txtT x :=
  tok_again hx hm fun f ln hf => by
    obtain ⟨hv, -, -⟩ := tok_valid hx
    rw [ht, ← keyT_txt] at hf ⊢
    exact tok_wide g hb hs (keyT x) hv f ln hf

/-- The four blanks. -/
def gapL : Nat → List UInt8
  | 0 => [32]
  | 1 => [10]
  | 2 => [32, 35, 32, 97, 108, 108, 111, 119, 32, 100, 101, 110, 121, 32, 59, 10]
  | _ => [9, 32, 10, 10]
theorem gap_blank (i : Nat) : Blank (gapL i) := by
  unfold gapL
  split
  · exact blank1
  · exact blank2
  · exact fun _ ln => ⟨ln + 1, rfl⟩
  · exact fun _ ln => ⟨ln + 2, rfl⟩
theorem gap_starts (i : Nat) : Starts (gapL i) := by
  unfold gapL
  split
  · exact ⟨_, _, rfl, by simp⟩
  · exact ⟨_, _, rfl, by simp⟩
  · exact ⟨_, _, rfl, by simp⟩
  · exact ⟨_, _, rfl, by simp⟩
theorem gap_len (i : Nat) : (gapL i).length ≤ 16 := by
  unfold gapL
  split <;> simp

end Go.Proofs.Ytegekeeffpfpjaa
