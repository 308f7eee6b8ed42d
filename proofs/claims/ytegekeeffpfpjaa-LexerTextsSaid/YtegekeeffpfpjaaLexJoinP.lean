/-
  The plain law of LexerJoins: the tokens of two texts with a line end between them.
-/
import Derived.Test.YtegekeeffpfpjaaLexSame
import Derived.Test.YtegekeeffpfpjaaLexLinesP
namespace Go.Proofs.Ytegekeeffpfpjaa
open Go.RowKit

theorem run_app (p : Int → Bool) (hp : p 10 = false) (m : List UInt8) : ∀ l : List UInt8, runL p (l ++ 10 :: m) = runL p l := by
  intro l
  induction l with
  | nil =>
    show (if p (((10 : UInt8).toNat : Nat) : Int) = true then _ else 0) = 0
    rw [if_neg]
    rw [show (((10 : UInt8).toNat : Nat) : Int) = 10 from rfl, hp]; simp
  | cons c l ih =>
    show (if _ then runL p (l ++ 10 :: m) + 1 else 0) = if _ then runL p l + 1 else 0
    rw [ih]

theorem get_app {l m : List UInt8} {i : Nat} (h : i < l.length) : (l ++ m)[i]?.getD 0 = l[i]?.getD 0 := by rw [List.getElem?_append_left h]
theorem get_mid (l m : List UInt8) (c : UInt8) : (l ++ c :: m)[l.length]?.getD 0 = c := by rw [List.getElem?_append_right (Nat.le_refl _)]; simp

theorem word_app (l m : List UInt8) : wordL (l ++ 10 :: m) = wordL l := by
  have h1 := run_app isInn (by decide) m l
  have hle := runL_le isInn l
  unfold wordL
  rw [h1]
  obtain ⟨r, hr⟩ : ∃ r, runL isInn l = r := ⟨_, rfl⟩
  rw [hr] at hle ⊢
  have hlen : (l ++ 10 :: m).length = l.length + 1 + m.length := by simp; omega
  have c1 : r + 1 < l.length ∨ r + 1 = l.length → (r + 1 < (l ++ 10 :: m).length) = True := fun _ => eq_true (by omega)
  rcases Nat.lt_trichotomy (r + 1) l.length with h | h | h
  · have hd : (l ++ 10 :: m).drop (r + 1) = l.drop (r + 1) ++ 10 :: m := by rw [List.drop_append_of_le_length (by omega)]
    rw [hd, run_app isNam (by decide), get_app (by omega), get_app h]
    simp only [c1 (.inl h), eq_true h]
  · have hd : (l ++ 10 :: m).drop (r + 1) = 10 :: m := by rw [h, List.drop_left]
    have hg : (l ++ 10 :: m)[r + 1]?.getD 0 = 10 := by rw [h]; exact get_mid l m 10
    have hn : runL isNam (10 :: m) = 0 := by
      show (if isNam (((10 : UInt8).toNat : Nat) : Int) = true then _ else 0) = 0
      exact if_neg (by decide)
    rw [hd, hg, hn]
    simp only [c1 (.inr h), eq_false (show ¬ r + 1 < l.length by omega)]
    simp
  · have hg : (l ++ 10 :: m)[r]?.getD 0 = 10 := by rw [show r = l.length from by omega]; exact get_mid l m 10
    rw [hg]
    simp only [eq_false (show ¬ r + 1 < l.length by omega)]
    simp

theorem size_app (l m : List UInt8) (hl : 0 < l.length) : sizeL (l ++ 10 :: m) = sizeL l := by
  unfold sizeL
  rw [get_app hl, word_app, run_app isDig (by decide), run_app isPat (by decide)]

theorem skipL_cons (note : Bool) (c : UInt8) (l : List UInt8) (ln : Nat) : skipL note (c :: l) ln = if ((c.toNat : Int) == 10) = true then skipL false l (ln + 1) else if (note || (c.toNat : Int) == 32 || (c.toNat : Int) == 9) = true then skipL note l ln
      else if ((c.toNat : Int) == 35) = true then skipL true l ln else (c :: l, ln) := rfl

theorem skip_app1 (z : List UInt8) : ∀ (l : List UInt8) (note : Bool) (ln : Nat), (skipL note l ln).1 ≠ [] → skipL note (l ++ z) ln = ((skipL note l ln).1 ++ z, (skipL note l ln).2) := by
  intro l
  induction l with
  | nil => intro note ln h; exact absurd rfl h
  | cons c l ih =>
    intro note ln h
    rw [List.cons_append, skipL_cons]
    rw [skipL_cons] at h ⊢
    by_cases q : ((c.toNat : Int) == 10) = true
    · rw [if_pos q] at h ⊢
      rw [if_pos q]; exact ih _ _ h
    rw [if_neg q] at h ⊢
    rw [if_neg q]
    by_cases q : (note || (c.toNat : Int) == 32 || (c.toNat : Int) == 9) = true
    · rw [if_pos q] at h ⊢
      rw [if_pos q]; exact ih _ _ h
    rw [if_neg q] at h ⊢
    rw [if_neg q]
    by_cases q : ((c.toNat : Int) == 35) = true
    · rw [if_pos q] at h ⊢
      rw [if_pos q]; exact ih _ _ h
    rw [if_neg q, if_neg q]
    rfl
theorem skip_app0 (m : List UInt8) : ∀ (l : List UInt8) (note : Bool) (ln : Nat), (skipL note l ln).1 = [] → skipL note (l ++ 10 :: m) ln = skipL false m ((skipL note l ln).2 + 1) := by
  intro l
  induction l with
  | nil => intro note ln _; rfl
  | cons c l ih =>
    intro note ln h
    rw [List.cons_append, skipL_cons]
    rw [skipL_cons] at h ⊢
    by_cases q : ((c.toNat : Int) == 10) = true
    · rw [if_pos q] at h ⊢
      rw [if_pos q]; exact ih _ _ h
    rw [if_neg q] at h ⊢
    rw [if_neg q]
    by_cases q : (note || (c.toNat : Int) == 32 || (c.toNat : Int) == 9) = true
    · rw [if_pos q] at h ⊢
      rw [if_pos q]; exact ih _ _ h
    rw [if_neg q] at h ⊢
    rw [if_neg q]
    by_cases q : ((c.toNat : Int) == 35) = true
    · rw [if_pos q] at h ⊢
      rw [if_pos q]; exact ih _ _ h
    rw [if_neg q] at h
    cases h

theorem skip_len (l : List UInt8) (note : Bool) (ln : Nat) : (skipL note l ln).1.length ≤ l.length := by
  obtain ⟨pre, h1, -⟩ := skip_split l note ln
  have := congrArg List.length h1
  rw [List.length_append] at this; omega

/-- One token of a text, in one form. -/
theorem tokF_nil {f : Nat} {l : List UInt8} {ln : Nat} (h : (skipL false l ln).1 = []) : tokF (f + 1) l ln = ([], 4, (skipL false l ln).2) := by unfold tokF; rw [if_pos h]
theorem tokF_none {f : Nat} {l : List UInt8} {ln : Nat} (h : (skipL false l ln).1 ≠ []) (h2 : (sizeL (skipL false l ln).1).1 = 0) : tokF (f + 1) l ln = ([], 3, (skipL false l ln).2) := by unfold tokF; rw [if_neg h, if_pos h2]
theorem tokF_long {f : Nat} {l : List UInt8} {ln : Nat} (h : (skipL false l ln).1 ≠ []) (h2 : (sizeL (skipL false l ln).1).1 ≠ 0) (h3 : longB (sizeL (skipL false l ln).1).1 (sizeL (skipL false l ln).1).2 = true) :
    tokF (f + 1) l ln = ([], 2, (skipL false l ln).2) := by unfold tokF; rw [if_neg h, if_neg h2, if_pos h3]
theorem tokF_one {f : Nat} {l : List UInt8} {ln : Nat} (h : (skipL false l ln).1 ≠ []) (h2 : (sizeL (skipL false l ln).1).1 ≠ 0) (h3 : longB (sizeL (skipL false l ln).1).1 (sizeL (skipL false l ln).1).2 ≠ true) :
    tokF (f + 1) l ln = (((sizeL (skipL false l ln).1).2, (skipL false l ln).1.take (sizeL (skipL false l ln).1).1, (skipL false l ln).2) :: (tokF f ((skipL false l ln).1.drop (sizeL (skipL false l ln).1).1) (skipL false l ln).2).1,
      (tokF f ((skipL false l ln).1.drop (sizeL (skipL false l ln).1).1) (skipL false l ln).2).2) := by unfold tokF; rw [if_neg h, if_neg h2, if_neg h3]; cases f <;> rfl

theorem tok_join : ∀ (f : Nat) (l : List UInt8) (ln : Nat), l.length < f → ∀ (m : List UInt8) (F : Nat), l.length + 1 + m.length < F →
    ((tokF f l ln).2.1 = 4 → ∃ F', m.length < F' ∧ tokF F (l ++ 10 :: m) ln = ((tokF f l ln).1 ++ (tokF F' m ((tokF f l ln).2.2 + 1)).1, (tokF F' m ((tokF f l ln).2.2 + 1)).2)) ∧
    ((tokF f l ln).2.1 ≠ 4 → tokF F (l ++ 10 :: m) ln = tokF f l ln) := by
  intro f
  induction f with
  | zero => intro l ln h; omega
  | succ f ih =>
    intro l ln hf m F hF
    obtain ⟨F, rfl⟩ : ∃ F', F = F' + 1 := ⟨F - 1, by omega⟩
    have hsl := skip_len l false ln
    by_cases q0 : (skipL false l ln).1 = []
    · have e0 := skip_app0 m l false ln q0
      rw [tokF_nil q0]
      refine ⟨fun _ => ⟨F + 1, by omega, ?_⟩, fun h => absurd rfl h⟩
      dsimp only
      rw [List.nil_append]
      show tokF (F + 1) _ _ = _
      unfold tokF
      rw [e0]
    · have e1 := skip_app1 (10 :: m) l false ln q0
      obtain ⟨r, b, hr⟩ : ∃ r b, skipL false l ln = (r, b) := ⟨_, _, rfl⟩
      have hr0 : 0 < r.length := by rw [hr] at q0; exact List.length_pos_iff.2 q0
      have hs := size_app r m hr0
      have hE : (skipL false (l ++ 10 :: m) ln).1 = r ++ 10 :: m := by rw [e1, hr]
      have hL : (skipL false (l ++ 10 :: m) ln).2 = b := by rw [e1, hr]
      have hN : (skipL false (l ++ 10 :: m) ln).1 ≠ [] := by rw [hE]; simp
      have hr1 : (skipL false l ln).1 = r := by rw [hr]
      have hr2 : (skipL false l ln).2 = b := by rw [hr]
      rw [hr1] at hsl
      by_cases q1 : (sizeL r).1 = 0
      · rw [tokF_none q0 (by rw [hr1]; exact q1), tokF_none hN (by rw [hE, hs]; exact q1), hr2, hL]
        exact ⟨fun h => by simp at h, fun _ => rfl⟩
      by_cases q2 : longB (sizeL r).1 (sizeL r).2 = true
      · rw [tokF_long q0 (by rw [hr1]; exact q1) (by rw [hr1]; exact q2), tokF_long hN (by rw [hE, hs]; exact q1) (by rw [hE, hs]; exact q2), hr2, hL]
        exact ⟨fun h => by simp at h, fun _ => rfl⟩
      · have hle := sizeL_le r hr0
        rw [tokF_one q0 (by rw [hr1]; exact q1) (by rw [hr1]; exact q2), tokF_one hN (by rw [hE, hs]; exact q1) (by rw [hE, hs]; exact q2), hE, hL, hr1, hr2, hs]
        obtain ⟨n, hn⟩ : ∃ n, (sizeL r).1 = n := ⟨_, rfl⟩
        rw [hn] at hle q1 ⊢
        rw [List.take_append_of_le_length hle, List.drop_append_of_le_length hle]
        have hdl : (r.drop n).length = r.length - n := List.length_drop
        obtain ⟨i1, i2⟩ := ih (r.drop n) b (by omega) m F (by omega)
        dsimp only
        refine ⟨fun h => ?_, fun h => ?_⟩
        · obtain ⟨F', hF', i1⟩ := i1 h
          exact ⟨F', hF', by rw [i1]; rfl⟩
        · rw [i2 h]

theorem tok_fuel : ∀ (f : Nat) (l : List UInt8) (a b : Nat), l.length < f → ∀ F, l.length < F →
    (tokF f l a).1.map (fun t => (t.1, t.2.1)) = (tokF F l b).1.map (fun t => (t.1, t.2.1)) ∧ (tokF f l a).2.1 = (tokF F l b).2.1 := by
  intro f
  induction f with
  | zero => intro l a b h; omega
  | succ f ih =>
    intro l a b hf F hF
    obtain ⟨F, rfl⟩ : ∃ F', F = F' + 1 := ⟨F - 1, by omega⟩
    obtain ⟨e, -⟩ := skip_line l false a b
    have hsl := skip_len l false b
    by_cases q0 : (skipL false l b).1 = []
    · rw [tokF_nil (e.trans q0), tokF_nil q0]; exact ⟨rfl, rfl⟩
    by_cases q1 : (sizeL (skipL false l b).1).1 = 0
    · rw [tokF_none (by rw [e]; exact q0) (by rw [e]; exact q1), tokF_none q0 q1]; exact ⟨rfl, rfl⟩
    by_cases q2 : longB (sizeL (skipL false l b).1).1 (sizeL (skipL false l b).1).2 = true
    · rw [tokF_long (by rw [e]; exact q0) (by rw [e]; exact q1) (by rw [e]; exact q2), tokF_long q0 q1 q2]; exact ⟨rfl, rfl⟩
    · rw [tokF_one (by rw [e]; exact q0) (by rw [e]; exact q1) (by rw [e]; exact q2), tokF_one q0 q1 q2, e]
      have hr0 : 0 < (skipL false l b).1.length := List.length_pos_iff.2 q0
      have hdl : ((skipL false l b).1.drop (sizeL (skipL false l b).1).1).length = (skipL false l b).1.length - (sizeL (skipL false l b).1).1 := List.length_drop
      obtain ⟨i1, i2⟩ := ih ((skipL false l b).1.drop (sizeL (skipL false l b).1).1) (skipL false l a).2 (skipL false l b).2 (by omega) F (by omega)
      dsimp only
      exact ⟨by rw [List.map_cons, List.map_cons, i1], i2⟩

theorem sameT_of : ∀ l m : List Tok, l.map (fun t => (t.1, t.2.1)) = m.map (fun t => (t.1, t.2.1)) → sameT l m = true := by
  intro l
  induction l with
  | nil => intro m h; cases m with
    | nil => rfl
    | cons y m => simp at h
  | cons x l ih =>
    intro m h
    cases m with
    | nil => simp at h
    | cons y m =>
      simp only [List.map_cons, List.cons.injEq, Prod.mk.injEq] at h
      obtain ⟨⟨h1, h2⟩, h3⟩ := h
      show (sameB _ _ _ _ && sameT l m) = true
      rw [ih m h3, h1, h2]
      unfold sameB
      simp

theorem tok_err : ∀ (f : Nat) (l : List UInt8) (ln : Nat), l.length < f → ((tokF f l ln).2.1 = 2 ∨ (tokF f l ln).2.1 = 3 ∨ (tokF f l ln).2.1 = 4) := by
  intro f
  induction f with
  | zero => intro l ln h; omega
  | succ f ih =>
    intro l ln hf
    have hsl := skip_len l false ln
    by_cases q0 : (skipL false l ln).1 = []
    · rw [tokF_nil q0]; simp
    by_cases q1 : (sizeL (skipL false l ln).1).1 = 0
    · rw [tokF_none q0 q1]; simp
    by_cases q2 : longB (sizeL (skipL false l ln).1).1 (sizeL (skipL false l ln).1).2 = true
    · rw [tokF_long q0 q1 q2]; simp
    · rw [tokF_one q0 q1 q2]
      have hr0 : 0 < (skipL false l ln).1.length := List.length_pos_iff.2 q0
      exact ih _ _ (by rw [List.length_drop]; omega)

/-- The tokens of a text, and the error at its end. -/
def toksOf (s : ByteArray) : List Tok := (tokF (s.size + 1) s.data.toList 1).1
def errOf (s : ByteArray) : Nat := (tokF (s.size + 1) s.data.toList 1).2.1
/-- What Tokens tells of a text: E is the error, l the tokens that come out. -/
def TokV (s : ByteArray) (E : Nat) (l : List Tok) : Prop := (E = 0 ∧ errOf s = 4 ∧ (toksOf s).length ≤ 800 ∧ l = toksOf s) ∨ (E ≠ 0 ∧ l = [] ∧ (errOf s ≠ 4 ∨ 800 < (toksOf s).length))

theorem join_plain {a b z : ByteArray} (hz : z.data.toList = a.data.toList ++ 10 :: b.data.toList) {E1 E2 E3 : Nat} {x y l : List Tok} (h1 : TokV a E1 x) (h2 : TokV b E2 y) (h3 : TokV z E3 l) :
    (E1 = 0 → E2 = 0 → x.length + y.length ≤ 800 → E3 = 0 ∧ l.length = (x ++ y).length ∧ sameT l (x ++ y) = true) ∧ (E1 ≠ 0 ∨ E2 ≠ 0 ∨ 800 < x.length + y.length → E3 ≠ 0) := by
  have hzs : z.size = a.size + 1 + b.size := by
    have := congrArg List.length hz
    simp at this; simpa [Nat.add_assoc, Nat.add_comm 1] using this
  obtain ⟨j1, j2⟩ := tok_join (a.size + 1) a.data.toList 1 (by simp) b.data.toList (z.size + 1) (by simp; omega)
  rw [← hz] at j1 j2
  have hall : errOf z = 4 → E3 = 0 ∨ 800 < (toksOf z).length := fun h => by
    rcases h3 with ⟨q, _⟩ | ⟨_, _, q | q⟩
    · exact .inl q
    · exact absurd h q
    · exact .inr q
  have hno : errOf z ≠ 4 ∨ 800 < (toksOf z).length → E3 ≠ 0 := fun h => by
    rcases h3 with ⟨q, q1, q2, _⟩ | ⟨q, _⟩
    · rcases h with h | h
      · exact absurd q1 h
      · omega
    · exact q
  by_cases ha : errOf a = 4
  · obtain ⟨F', hF', j1⟩ := j1 ha
    obtain ⟨k1, k2⟩ := tok_fuel F' b.data.toList ((tokF (a.size + 1) a.data.toList 1).2.2 + 1) 1 hF' (b.size + 1) (by simp)
    have ez : errOf z = errOf b := by unfold errOf; rw [j1]; exact k2
    have lz : (toksOf z).map (fun t => (t.1, t.2.1)) = (toksOf a ++ toksOf b).map (fun t => (t.1, t.2.1)) := by
      unfold toksOf; rw [j1, List.map_append, List.map_append, k1]
    have nz : (toksOf z).length = (toksOf a).length + (toksOf b).length := by
      have := congrArg List.length lz
      simpa using this
    rcases h1 with ⟨rfl, _, a2, rfl⟩ | ⟨a1, _, a2⟩
    · rcases h2 with ⟨rfl, b1, b2, rfl⟩ | ⟨b1, _, b2⟩
      · refine ⟨fun _ _ hle => ?_, fun h => hno (.inr ?_)⟩
        · rcases h3 with ⟨q, _, _, rfl⟩ | ⟨_, _, q | q⟩
          · exact ⟨q, by rw [nz, List.length_append], sameT_of _ _ lz⟩
          · exact absurd (ez.trans b1) q
          · omega
        · rcases h with h | h | h
          · exact absurd rfl h
          · exact absurd rfl h
          · omega
      · refine ⟨fun _ h => absurd h b1, fun _ => hno ?_⟩
        rcases b2 with b2 | b2
        · exact .inl (by rw [ez]; exact b2)
        · exact .inr (by omega)
    · refine ⟨fun h => absurd h a1, fun _ => hno (.inr ?_)⟩
      rcases a2 with a2 | a2
      · exact absurd ha a2
      · omega
  · have j2 := j2 ha
    have ez : errOf z = errOf a := by unfold errOf; rw [j2]
    rcases h1 with ⟨_, a1, _⟩ | ⟨a1, _, _⟩
    · exact absurd a1 ha
    · exact ⟨fun h => absurd h a1, fun _ => hno (.inl (by rw [ez]; exact ha))⟩

theorem Tokens_v (s : ByteArray) (w : World) (hm : s.size ≤ 8192) :
    Calls Try.prog 6 #[.string s] w fun e w' => ∃ (A : Option Addr) (c n E : Nat) (l : List Tok), e = .returned (.tuple #[.slice A l.length c, .int .i64 n, .int .i64 E]) ∧ Below w.heap.size w w' ∧ TokV s E l ∧ l.length ≤ 800 ∧
      w'.ownsRow (w.heap.size + 1) 28 3 (.slice A l.length c) l.length (cellsT l) :=
  (Tokens_any s w hm).mono fun e w' ⟨hB, hc⟩ => by
    have he := tok_err (s.size + 1) s.data.toList 1 (by simp)
    rcases hc with ⟨q1, q2, v, rfl, hown⟩ | ⟨q1, q2, rfl⟩ | ⟨t, q1, rfl⟩
    · obtain ⟨A, c, rfl⟩ := own_form hown
      exact ⟨A, c, 0, 0, toksOf s, rfl, hB, .inl ⟨rfl, q1, q2, rfl⟩, q2, hown⟩
    · exact ⟨none, 0, _, errOf s, [], rfl, hB, .inr ⟨by unfold errOf; omega, rfl, .inl q1⟩, by simp, World.ownsRow_nil _ _ _ _⟩
    · refine ⟨none, 0, _, 6, [], rfl, hB, .inr ⟨by omega, rfl, .inr ?_⟩, by simp, World.ownsRow_nil _ _ _ _⟩
      obtain ⟨h, -⟩ := List.getElem?_eq_some_iff.1 q1
      exact h

end Go.Proofs.Ytegekeeffpfpjaa
