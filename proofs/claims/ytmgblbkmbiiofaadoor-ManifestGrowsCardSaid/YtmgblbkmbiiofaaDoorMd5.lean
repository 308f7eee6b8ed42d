/-
  A manifest's text is read as that manifest, and a text that is read is its manifest's text (plain).
  Library contracts: those of MfLays.
  The contracts of strings.Builder's methods at this program.
  Items in memory; the library's contracts over lists of bytes.
-/
import Derived.Test.YtmgblbkmbiiofaaDoorMd4
import Derived.Test.YtmgblbkmbiiofaaDoorMd3
import Derived.Test.YtmgblbkmbiiofaaDoorMd2
import Derived.Shelf.Strings.Builder1
import Derived.Lib.OthersKept
import Derived.Lib.AppendStr
import Derived.Lib.AppendIntMem
import Derived.Lib.SlicesS

namespace Go.Proofs.YtmgblbkmbiiofaaDoor

/-! ### Numerals -/
theorem dcF_app (a : Bs) (c : UInt8) : dcF (a ++ [c]) = 10 * dcF a + (c.toNat - 48) := by unfold dcF; rw [List.foldl_append]; rfl
theorem dgtM (k : Nat) (h : k < 10) : (UInt8.ofNat (48 + k)).toNat = 48 + k := by simp; omega
theorem dc_facts (u : Nat) : dcF (Lib.decDigits u) = u ∧ (∀ c ∈ Lib.decDigits u, dgB c = true) ∧ Lib.decDigits u ≠ [] ∧ (0 < u → (Lib.decDigits u).getD 0 0 ≠ 48) := by
  induction u using Nat.strongRecOn with
  | _ u ih =>
    by_cases h : u < 10
    · rw [Lib.decDigits, dif_pos h]
      have e := dgtM u h
      refine ⟨?_, fun c hc => ?_, by simp, fun h0 hc => ?_⟩
      · unfold dcF; simp only [List.foldl_cons, List.foldl_nil]; rw [e]; omega
      · obtain rfl := List.mem_singleton.1 hc
        unfold dgB; rw [e]; simp; omega
      · simp only [List.getD_cons_zero] at hc
        rw [hc] at e
        have : (48 : UInt8).toNat = 48 := rfl
        omega
    · rw [Lib.decDigits, dif_neg h]
      obtain ⟨h1, h2, h3, h4⟩ := ih (u / 10) (by omega)
      have e := dgtM (u % 10) (by omega)
      refine ⟨?_, fun c hc => ?_, by simp, fun _ => ?_⟩
      · rw [dcF_app, h1, e]; omega
      · rcases List.mem_append.1 hc with hc | hc
        · exact h2 c hc
        · obtain rfl := List.mem_singleton.1 hc
          unfold dgB; rw [e]; simp; omega
      · cases hd : Lib.decDigits (u / 10) with
        | nil => exact absurd hd h3
        | cons a t =>
          have := h4 (by omega)
          rw [hd] at this
          simpa using this
theorem itoa_natM (n : Nat) : Lib.itoa (n : Int) = Lib.decDigits n := by unfold Lib.itoa; rw [if_neg (by omega)]; rfl
theorem nDig_leM : ∀ (k u : Nat), u < 10 ^ (k + 1) → Lib.nDigits u ≤ k + 1
  | 0, u, h => by rw [Lib.nDigits_small (by simpa using h)]; omega
  | k + 1, u, h => by
    by_cases h10 : u < 10
    · rw [Lib.nDigits_small h10]; omega
    · rw [Lib.nDigits_big h10]
      have := nDig_leM k (u / 10) (by rw [Nat.pow_succ] at h; omega)
      omega
theorem numM_itoa {n : Nat} (h : n ≤ 999999) : numM (Lib.itoa (n : Int)) = some n := by
  rw [itoa_natM]
  obtain ⟨h1, h2, h3, h4⟩ := dc_facts n
  have hl : (Lib.decDigits n).length ≤ 6 := by rw [Lib.decDigits_length]; exact nDig_leM 5 n (by omega)
  have hp : 1 ≤ (Lib.decDigits n).length := by
    cases e : Lib.decDigits n with
    | nil => exact absurd e h3
    | cons _ _ => simp
  have hok : nuOk (Lib.decDigits n) = true := by
    unfold nuOk
    rw [decide_eq_true hp, decide_eq_true hl, List.all_eq_true.2 h2]
    by_cases h0 : n < 10
    · have : (Lib.decDigits n).length = 1 := by rw [Lib.decDigits, dif_pos h0]; rfl
      rw [this]; simp
    · have : ((Lib.decDigits n).getD 0 0 == 48) = false := beq_eq_false_iff_ne.2 (h4 (by omega))
      rw [this]; rfl
  unfold numM
  rw [if_pos hok, h1]
/-- The digits of a right numeral are those of its number. -/
theorem dec_inj : ∀ (k : Nat) (s : Bs), s.length ≤ k → s ≠ [] → (∀ c ∈ s, dgB c = true) → (s.getD 0 0 ≠ 48 ∨ s.length = 1) → Lib.decDigits (dcF s) = s
  | 0, s, hk, h0, _, _ => absurd (List.eq_nil_of_length_eq_zero (by omega)) h0
  | k + 1, s, hk, h0, hd, hz => by
    obtain ⟨a, c, rfl⟩ : ∃ a c, s = a ++ [c] := ⟨s.dropLast, s.getLast h0, (List.dropLast_concat_getLast h0).symm⟩
    have hc := hd c (by simp)
    unfold dgB at hc
    simp only [Bool.and_eq_true, decide_eq_true_eq] at hc
    have hcc : UInt8.ofNat (48 + (c.toNat - 48)) = c := by rw [show 48 + (c.toNat - 48) = c.toNat by omega]; exact UInt8.ofNat_toNat
    rw [dcF_app]
    by_cases ha : a = []
    · subst ha
      have e : dcF [] = 0 := rfl
      rw [e, Lib.decDigits, dif_pos (by omega)]
      simp [hcc]
    · have hpos : 1 ≤ a.length := by cases a with | nil => exact absurd rfl ha | cons _ _ => simp
      have hz' : a.getD 0 0 ≠ 48 := by
        rcases hz with hz | hz
        · cases a with
          | nil => exact absurd rfl ha
          | cons x t => simpa using hz
        · exact absurd (by simpa using hz) ha
      have ih := dec_inj k a (by simp at hk; omega) ha (fun x hx => hd x (by simp [hx])) (.inl hz')
      have hge : 0 < dcF a := by
        rcases Nat.eq_zero_or_pos (dcF a) with e | e
        · rw [e] at ih
          have e0 : Lib.decDigits 0 = [48] := by rw [Lib.decDigits, dif_pos (by omega)]; rfl
          rw [e0] at ih
          rw [← ih] at hz'
          exact absurd rfl hz'
        · exact e
      rw [Lib.decDigits, dif_neg (by omega)]
      have e1 : (10 * dcF a + (c.toNat - 48)) / 10 = dcF a := by omega
      have e2 : (10 * dcF a + (c.toNat - 48)) % 10 = c.toNat - 48 := by omega
      rw [e1, e2, ih, hcc]
theorem itoa_numM {s : Bs} {n : Nat} (h : numM s = some n) : Lib.itoa (n : Int) = s := by
  unfold numM at h
  by_cases hk : nuOk s = true
  · rw [if_pos hk] at h
    injection h with h
    subst h
    unfold nuOk at hk
    simp only [Bool.and_eq_true, decide_eq_true_eq, Bool.not_eq_true', Bool.and_eq_false_iff, decide_eq_false_iff_not, List.all_eq_true] at hk
    obtain ⟨⟨⟨h1, h2⟩, h3⟩, h4⟩ := hk
    rw [itoa_natM]
    refine dec_inj _ s (Nat.le_refl _) (by intro e; rw [e] at h1; simp at h1) h4 ?_
    rcases h3 with h3 | h3
    · exact .inl (beq_eq_false_iff_ne.1 h3)
    · exact .inr (by omega)
  · rw [if_neg hk] at h; cases h
theorem itoa_chars (n : Nat) : ∀ c ∈ Lib.itoa (n : Int), dgB c = true := by rw [itoa_natM]; exact (dc_facts n).2.1

/-! ### A line's words -/
theorem sp2_split {a b : Bs} (ha : (32 : UInt8) ∉ a) (hb : (32 : UInt8) ∉ b) : Lib.split (sp2 a b) [32] = [a, b] := by
  unfold sp2; rw [split_app _ a ha, split_one b hb]
theorem itL_split {w : Bs} {x : It} (hw : (32 : UInt8) ∉ w) (ha : (32 : UInt8) ∉ x.a) (hb : (32 : UInt8) ∉ x.b) : Lib.split (itL w x) [32] = [w, x.a, x.b] := by
  unfold itL; rw [split_app _ w hw, split_app _ x.a ha, split_one x.b hb]
theorem split_two_eq {l a b : Bs} (h : Lib.split l [32] = [a, b]) : l = sp2 a b := by
  have := join_split 32 l
  rw [h] at this
  rw [← this, Lib.join_cons]; simp [Lib.joinTail, sp2]
theorem split_three_eq {l a b c : Bs} (h : Lib.split l [32] = [a, b, c]) : l = itL a ⟨b, c⟩ := by
  have := join_split 32 l
  rw [h] at this
  rw [← this, Lib.join_cons]; simp [Lib.joinTail, itL]
theorem head_some {w l x : Bs} (h : headM w l = some x) : l = sp2 w x := by
  unfold headM at h
  split at h
  · rename_i a b hs
    split at h
    · rename_i e
      injection h with h
      subst h; subst e
      exact split_two_eq hs
    · cases h
  · cases h
theorem head_sp2 {w x : Bs} (hw : (32 : UInt8) ∉ w) (hx : (32 : UInt8) ∉ x) : headM w (sp2 w x) = some x := by
  unfold headM; rw [sp2_split hw hx]; simp

/-! ### Items -/
theorem findW_some {p k : Nat} {a : Bs} (h : findW p a = some k) : p ≤ k ∧ k < 4 ∧ wl.getD k [] = a := by
  unfold findW at h
  split at h
  · rename_i j hj
    split at h
    · rename_i hp
      injection h with h
      subst h
      obtain ⟨hlt, he, _⟩ := List.findIdx?_eq_some_iff_getElem.1 hj
      refine ⟨hp, hlt, ?_⟩
      rw [List.getD_eq_getElem?_getD, List.getElem?_eq_getElem hlt]
      exact beq_iff_eq.1 he
    · cases h
  · cases h
theorem findW_at {p k : Nat} (h : p ≤ k) (hk : k < 4) : findW p (wl.getD k []) = some k := by
  unfold findW
  rw [show wl.findIdx? (· == wl.getD k []) = some k by
    have : ∀ k, k < 4 → wl.findIdx? (· == wl.getD k []) = some k := by decide
    exact this k hk]
  simp [h]
theorem rest_some {m m' : Mf} {p p' : Nat} {l : Bs} (h : restM m p l = some (m', p')) : p ≤ p' ∧ p' < 4 ∧ ∃ x, l = itL (wl.getD p' []) x ∧ m' = m.add p' x := by
  unfold restM at h
  split at h
  · rename_i a b c hs
    split at h
    · rename_i k hk
      injection h with h
      injection h with h1 h2
      subst h1; subst h2
      obtain ⟨h3, h4, h5⟩ := findW_some hk
      exact ⟨h3, h4, ⟨b, c⟩, by rw [h5]; exact split_three_eq hs, rfl⟩
    · cases h
  · cases h
/-- The lists behind a place are empty. -/
def emptyM (m : Mf) (p : Nat) : Prop := ∀ k, p < k → k < 4 → m.at k = []
theorem rows_add {m : Mf} {p k : Nat} (x : It) (hk : k < 4) (hp : p ≤ k) (h : emptyM m p) : rowsM (m.add k x) = rowsM m ++ [itL (wl.getD k []) x] ∧ emptyM (m.add k x) k := by
  have hE : ∀ j, k < j → j < 4 → m.at j = [] := fun j h1 h2 => h j (by omega) h2
  obtain ⟨pkg, pub, rev, P, S, H, W⟩ := m
  match k, hk with
  | 0, _ =>
    have h1 : S = [] := hE 1 (by omega) (by omega)
    have h2 : H = [] := hE 2 (by omega) (by omega)
    have h3 : W = [] := hE 3 (by omega) (by omega)
    subst h1; subst h2; subst h3
    refine ⟨by simp [rowsM, Mf.add, wl], fun j _ hj => ?_⟩
    match j, hj with
    | 1, _ => rfl
    | 2, _ => rfl
    | 3, _ => rfl
  | 1, _ =>
    have h2 : H = [] := hE 2 (by omega) (by omega)
    have h3 : W = [] := hE 3 (by omega) (by omega)
    subst h2; subst h3
    refine ⟨by simp [rowsM, Mf.add, wl], fun j _ hj => ?_⟩
    match j, hj with
    | 2, _ => rfl
    | 3, _ => rfl
  | 2, _ =>
    have h3 : W = [] := hE 3 (by omega) (by omega)
    subst h3
    refine ⟨by simp [rowsM, Mf.add, wl], fun j _ hj => ?_⟩
    match j, hj with
    | 3, _ => rfl
  | 3, _ => exact ⟨by simp [rowsM, Mf.add, wl], fun j h1 h2 => by omega⟩
theorem add_same (m : Mf) (k : Nat) (x : It) : (m.add k x).pkg = m.pkg ∧ (m.add k x).pub = m.pub ∧ (m.add k x).rev = m.rev := by
  unfold Mf.add
  split <;> exact ⟨rfl, rfl, rfl⟩
theorem rests_some : ∀ (L : List Bs) (m m' : Mf) (p no no' : Nat), restsM m p L no = (m', true, no') → emptyM m p → rowsM m' = rowsM m ++ L ∧ m'.pkg = m.pkg ∧ m'.pub = m.pub ∧ m'.rev = m.rev
  | [], m, m', p, no, no', h, _ => by
    rw [restsM] at h
    injection h with h _
    subst h
    exact ⟨by simp, rfl, rfl, rfl⟩
  | l :: L, m, m', p, no, no', h, hE => by
    rw [restsM] at h
    cases hr : restM m p l with
    | none => rw [hr] at h; injection h with _ h; injection h with h _; cases h
    | some q =>
      rw [hr] at h
      obtain ⟨h1, h2, x, h3, h4⟩ := rest_some (m' := q.1) (p' := q.2) hr
      obtain ⟨h5, h6⟩ := rows_add x h2 h1 hE
      rw [← h4] at h5 h6
      obtain ⟨h7, h8, h9, h10⟩ := rests_some L q.1 m' q.2 _ _ h h6
      obtain ⟨a1, a2, a3⟩ := add_same m q.2 x
      rw [← h4] at a1 a2 a3
      exact ⟨by rw [h7, h5, h3]; simp, h8.trans a1, h9.trans a2, h10.trans a3⟩
theorem scan_some {L : List Bs} {m : Mf} {no : Nat} (h : scanM L = (m, true, no)) : bodyL m = L := by
  unfold scanM at h
  split at h
  · injection h with _ h; injection h with h _; cases h
  · rename_i a r
    split at h
    · injection h with _ h; injection h with h _; cases h
    · rename_i x hx
      split at h
      · injection h with _ h; injection h with h _; cases h
      · rename_i b r2
        split at h
        · injection h with _ h; injection h with h _; cases h
        · rename_i y hy
          split at h
          · injection h with _ h; injection h with h _; cases h
          · rename_i c r3
            split at h
            · injection h with _ h; injection h with h _; cases h
            · rename_i n hn
              obtain ⟨z, hz1, hz2⟩ := Option.bind_eq_some_iff.1 hn
              obtain ⟨h1, h2, h3, h4⟩ := rests_some _ _ _ _ _ _ h (fun k _ h4 => by
                match k, h4 with
                | 0, _ => rfl
                | 1, _ => rfl
                | 2, _ => rfl
                | 3, _ => rfl)
              unfold bodyL
              rw [h1, h2, h3, h4, itoa_numM hz2, ← head_some hx, ← head_some hy, ← head_some hz1]
              rfl
theorem endL_join : ∀ (L : List Bs), L ≠ [] → endL L = Lib.join L [10] ++ [10]
  | [], h => absurd rfl h
  | [x], _ => by rw [Lib.join_one]; simp [endL]
  | x :: y :: L, _ => by
    have ih := endL_join (y :: L) (by simp)
    have e : endL (x :: y :: L) = x ++ [10] ++ endL (y :: L) := by simp [endL]
    rw [e, ih, Lib.join_cons, Lib.join_cons]
    simp [Lib.joinTail]
theorem wh_body {s : Bs} (h : whB s = true) : bodyM s ++ [10] = s := by
  unfold bodyM
  rw [if_pos h]
  unfold whB at h
  obtain ⟨t, ht⟩ := List.isSuffixOf_iff_suffix.1 h
  rw [← ht]; simp
theorem wh_app (b : Bs) : whB (b ++ [10]) = true ∧ bodyM (b ++ [10]) = b := by
  have h : whB (b ++ [10]) = true := List.isSuffixOf_iff_suffix.2 ⟨b, rfl⟩
  refine ⟨h, ?_⟩
  unfold bodyM
  rw [if_pos h]; simp
theorem split_ne_nil (s : Bs) : Lib.split s [10] ≠ [] := by
  obtain ⟨x, t, h⟩ := split_cons 10 s
  rw [h]; simp
/-- What a text's manifest is a text of. -/
theorem parse_text {s : Bs} (h : (parseM s).2.2 = 0) : textM (parseM s).1 = s ∧ checkM (parseM s).1 = 0 := by
  unfold parseM at h ⊢
  by_cases h1 : 4096 < s.length
  · rw [if_pos h1] at h; cases h
  · rw [if_neg h1] at h ⊢
    by_cases h2 : whB s = false
    · rw [if_pos h2] at h; cases h
    · rw [if_neg h2] at h ⊢
      by_cases h3 : (scanM (linesM s)).2.1 = false
      · rw [if_pos h3] at h; cases h
      · rw [if_neg h3] at h ⊢
        by_cases h4 : checkM (scanM (linesM s)).1 ≠ 0
        · rw [if_pos h4] at h; exact absurd h h4
        · rw [if_neg h4]
          have h4' := Decidable.not_not.1 h4
          have hb := scan_some (L := linesM s) (m := (scanM (linesM s)).1) (no := (scanM (linesM s)).2.2) (by
            rw [show (true : Bool) = (scanM (linesM s)).2.1 by cases hx : (scanM (linesM s)).2.1 <;> simp_all])
          refine ⟨?_, h4'⟩
          show textM (scanM (linesM s)).1 = s
          unfold textM
          rw [hb]
          unfold linesM
          rw [endL_join _ (split_ne_nil _), join_split]
          exact wh_body (by simpa using h2)

/-! ### And back -/
/-- A manifest's words hold no blank and no line's end. -/
structure CleanM (m : Mf) : Prop where
  pkg : ∀ c ∈ m.pkg, c ≠ 10 ∧ c ≠ 32
  pub : ∀ c ∈ m.pub, c ≠ 10 ∧ c ≠ 32
  a : ∀ k, k < 4 → ∀ x ∈ m.at k, ∀ c ∈ x.a, c ≠ 10 ∧ c ≠ 32
  b : ∀ k, k < 4 → ∀ x ∈ m.at k, ∀ c ∈ x.b, c ≠ 10 ∧ c ≠ 32
theorem wl_clean : ∀ k, k < 4 → ∀ c ∈ wl.getD k [], c ≠ 10 ∧ c ≠ 32 := by decide
theorem rests_at (k : Nat) (hk : k < 4) : ∀ (l : List It) (m : Mf) (p no : Nat) (R : List Bs), p ≤ k → (∀ x ∈ l, (∀ c ∈ x.a, c ≠ 10 ∧ c ≠ 32) ∧ ∀ c ∈ x.b, c ≠ 10 ∧ c ≠ 32) →
    ∃ p', p' ≤ k ∧ restsM m p (l.map (itL (wl.getD k [])) ++ R) no = restsM (l.foldl (fun m x => m.add k x) m) p' R (no + l.length)
  | [], m, p, no, R, hp, _ => ⟨p, hp, rfl⟩
  | x :: l, m, p, no, R, hp, hc => by
    obtain ⟨hxa, hxb⟩ := hc x (by simp)
    have hs : restM m p (itL (wl.getD k []) x) = some (m.add k x, k) := by
      unfold restM
      rw [itL_split (fun h => (wl_clean k hk _ h).2 rfl) (fun h => (hxa _ h).2 rfl) (fun h => (hxb _ h).2 rfl)]
      simp only []
      rw [findW_at hp hk]
    obtain ⟨p', h1, h2⟩ := rests_at k hk l (m.add k x) k (no + 1) R (Nat.le_refl _) (fun y hy => hc y (by simp [hy]))
    refine ⟨p', h1, ?_⟩
    rw [List.map_cons, List.cons_append, restsM, hs]
    show restsM (m.add k x) k _ _ = _
    rw [h2, List.foldl_cons, List.length_cons]
    congr 1; omega
theorem fold_add0 : ∀ (l : List It) (m : Mf), l.foldl (fun m x => m.add 0 x) m = { m with p := m.p ++ l }
  | [], m => by simp
  | x :: l, m => by rw [List.foldl_cons, fold_add0 l]; simp [Mf.add]
theorem fold_add1 : ∀ (l : List It) (m : Mf), l.foldl (fun m x => m.add 1 x) m = { m with s := m.s ++ l }
  | [], m => by simp
  | x :: l, m => by rw [List.foldl_cons, fold_add1 l]; simp [Mf.add]
theorem fold_add2 : ∀ (l : List It) (m : Mf), l.foldl (fun m x => m.add 2 x) m = { m with h := m.h ++ l }
  | [], m => by simp
  | x :: l, m => by rw [List.foldl_cons, fold_add2 l]; simp [Mf.add]
theorem fold_add3 : ∀ (l : List It) (m : Mf), l.foldl (fun m x => m.add 3 x) m = { m with w := m.w ++ l }
  | [], m => by simp
  | x :: l, m => by rw [List.foldl_cons, fold_add3 l]; simp [Mf.add]
theorem scan_body {m : Mf} (hc : CleanM m) (hr : ∃ n : Nat, m.rev = n ∧ n ≤ 999999) : ∃ no, scanM (bodyL m) = (m, true, no) := by
  obtain ⟨n, hn, hn2⟩ := hr
  obtain ⟨pkg, pub, rev, P, S, H, W⟩ := m
  simp only at hn
  subst hn
  have hw0 : (32 : UInt8) ∉ hw0 := by decide
  have hw1 : (32 : UInt8) ∉ hw1 := by decide
  have hw2 : (32 : UInt8) ∉ hw2 := by decide
  have hnum : (32 : UInt8) ∉ Lib.itoa (n : Int) := fun h => by
    have := itoa_chars n _ h
    revert this; decide
  have hi : ∀ k, k < 4 → ∀ x ∈ Mf.at ⟨pkg, pub, n, P, S, H, W⟩ k, (∀ c ∈ x.a, c ≠ 10 ∧ c ≠ 32) ∧ ∀ c ∈ x.b, c ≠ 10 ∧ c ≠ 32 := fun k hk x hx => ⟨hc.a k hk x hx, hc.b k hk x hx⟩
  unfold bodyL rowsM scanM
  simp only [head_sp2 hw0 (fun h => (hc.pkg _ h).2 rfl), head_sp2 hw1 (fun h => (hc.pub _ h).2 rfl), head_sp2 hw2 hnum, Option.bind_some, numM_itoa hn2]
  obtain ⟨p1, hp1, e1⟩ := rests_at 0 (by omega) P ⟨pkg, pub, (n : Nat), [], [], [], []⟩ 0 3 (S.map (itL wSlot) ++ (H.map (itL wHook) ++ W.map (itL wWant))) (Nat.le_refl _) (hi 0 (by omega))
  obtain ⟨p2, hp2, e2⟩ := rests_at 1 (by omega) S ⟨pkg, pub, (n : Nat), P, [], [], []⟩ p1 (3 + P.length) (H.map (itL wHook) ++ W.map (itL wWant)) (by omega) (hi 1 (by omega))
  obtain ⟨p3, hp3, e3⟩ := rests_at 2 (by omega) H ⟨pkg, pub, (n : Nat), P, S, [], []⟩ p2 (3 + P.length + S.length) (W.map (itL wWant)) (by omega) (hi 2 (by omega))
  obtain ⟨p4, hp4, e4⟩ := rests_at 3 (by omega) W ⟨pkg, pub, (n : Nat), P, S, H, []⟩ p3 (3 + P.length + S.length + H.length) [] (by omega) (hi 3 (by omega))
  rw [fold_add0] at e1
  rw [fold_add1] at e2
  rw [fold_add2] at e3
  rw [fold_add3] at e4
  simp only [List.nil_append, List.append_nil] at e1 e2 e3 e4
  refine ⟨3 + P.length + S.length + H.length + W.length + 1, ?_⟩
  rw [List.append_assoc, List.append_assoc]
  refine e1.trans ?_
  refine e2.trans ?_
  refine e3.trans ?_
  refine e4.trans ?_
  rw [restsM]
theorem body_clean {m : Mf} (hc : CleanM m) (hr : ∃ n : Nat, m.rev = n) : ∀ l ∈ bodyL m, (10 : UInt8) ∉ l := by
  obtain ⟨n, hn⟩ := hr
  have hit : ∀ k, k < 4 → ∀ x ∈ m.at k, (10 : UInt8) ∉ itL (wl.getD k []) x := fun k hk x hx h => by
    unfold itL at h
    simp only [List.mem_append, List.mem_cons] at h
    rcases h with h | h | h | h | h
    · exact (wl_clean k hk _ h).1 rfl
    · revert h; decide
    · exact (hc.a k hk x hx _ h).1 rfl
    · revert h; decide
    · exact (hc.b k hk x hx _ h).1 rfl
  have hsp : ∀ a b : Bs, (10 : UInt8) ∉ a → (10 : UInt8) ∉ b → (10 : UInt8) ∉ sp2 a b := fun a b ha hb h => by
    unfold sp2 at h
    simp only [List.mem_append, List.mem_cons] at h
    rcases h with h | h | h
    · exact ha h
    · revert h; decide
    · exact hb h
  intro l hl
  unfold bodyL rowsM at hl
  simp only [List.mem_cons, List.mem_append, List.mem_map] at hl
  rcases hl with rfl | rfl | rfl | ((⟨x, hx, rfl⟩ | ⟨x, hx, rfl⟩) | ⟨x, hx, rfl⟩) | ⟨x, hx, rfl⟩
  · exact hsp _ _ (by decide) (fun h => (hc.pkg _ h).1 rfl)
  · exact hsp _ _ (by decide) (fun h => (hc.pub _ h).1 rfl)
  · refine hsp _ _ (by decide) (fun h => ?_)
    rw [hn] at h
    have := itoa_chars n _ h
    revert this; decide
  · exact hit 0 (by omega) x hx
  · exact hit 1 (by omega) x hx
  · exact hit 2 (by omega) x hx
  · exact hit 3 (by omega) x hx
theorem text_parse0 {m : Mf} (hc : CleanM m) (h : checkM m = 0) (hr : ∃ n : Nat, m.rev = n ∧ n ≤ 999999) (hl : (textM m).length ≤ 4096) : parseM (textM m) = (m, 0, 0) := by
  obtain ⟨no, hs⟩ := scan_body hc hr
  obtain ⟨n, hn, _⟩ := hr
  have hb := body_clean hc ⟨n, hn⟩
  have hne : bodyL m ≠ [] := by unfold bodyL; simp
  have ht : textM m = Lib.join (bodyL m) [10] ++ [10] := endL_join _ hne
  obtain ⟨hw, hbd⟩ := wh_app (Lib.join (bodyL m) [10])
  rw [← ht] at hw hbd
  have hL : linesM (textM m) = bodyL m := by unfold linesM; rw [hbd, split_join _ hne hb]
  unfold parseM
  rw [if_neg (by omega), if_neg (by rw [hw]; decide), hL, hs]
  simp only [Bool.true_eq_false, if_false]
  rw [if_neg (by rw [h]; simp)]
end Go.Proofs.YtmgblbkmbiiofaaDoor



namespace Go.Proofs.YtmgblbkmbiiofaaDoor
open Go.RowKit Go.Shelf

theorem bstring_any (B b : Nat) (l : List UInt8) (w : World) (h : Lib.IsBuilder 45 5 B b (Lib.byteCells l) w) (hBw : B ≤ w.heap.size) :
    Calls Tryd.prog 17 #[.pointer (some ⟨b, 0, none⟩)] w fun e w' => e = .returned (.string ⟨l.toArray⟩) ∧ Below B w w' := Any.Builder_String_any lays169 Builder_Extra_169 B b l w h hBw
theorem infoBu : (Tryd.prog.info? 45).map (·.size) = some 2 := by kernel_rfl
theorem liesBu : liesAt Tryd.prog Tryd.prog.depth 45 (2 / Tryd.prog.cellsOf 45) 0 45 1 = true := by kernel_rfl

set_option maxHeartbeats 1000000 in
set_option maxRecDepth 100000 in
theorem bcheck_used (b : Nat) (w : World) (h0 : w.cell? ⟨b, 0, none⟩ = some (.pointer (some ⟨b, 0, none⟩))) :
    Calls Tryd.prog 27 #[.pointer (some ⟨b, 0, none⟩)] w fun e w' => e = .returned (.tuple #[]) ∧ w' = w := by
  obtain ⟨j, hj, _⟩ := Option.map_eq_some_iff.1 infoBu
  go_enter Tryd.func27, Tryd.ntmps27
  go_wp2
  rw [Lib.run_neq_ptr_same w _ Tryd.underlying42 hj]
  go_wp2
  go_end0
  exact ⟨rfl, rfl⟩

set_option maxHeartbeats 1000000 in
set_option maxRecDepth 100000 in
theorem bcheck_fresh (b : Nat) (w : World) (h0 : w.cell? ⟨b, 0, none⟩ = some (.pointer none)) (hsh : w.shape? b = some (45, 2)) (hfz : w.frozen? ⟨b, 0, none⟩ = false) :
    Calls Tryd.prog 27 #[.pointer (some ⟨b, 0, none⟩)] w fun e w' => e = .returned (.tuple #[]) ∧ w' = w.setCell ⟨b, 0, none⟩ (.pointer (some ⟨b, 0, none⟩)) := by
  obtain ⟨j, hj, hjs⟩ := Option.map_eq_some_iff.1 infoBu
  go_enter Tryd.func27, Tryd.ntmps27
  go_wp2
  rw [Lib.run_to_unsafe w ⟨b, 0, none⟩ Tryd.underlying42 Tryd.underlying92 hj (by rw [hjs]; decide) hsh (Nat.zero_lt_succ 1)]
  simp only [Result.andThen]
  rw [Oper.upon_value]
  go_wp2
  rw [run_callFunc_extern Tryd.func43 (by kernel_rfl) (by kernel_rfl) (by kernel_rfl) (e := Extern.AbiNoEscape.same) (by kernel_rfl)]
  rw [Lib.run_noEscape]
  simp only [Result.andThen]
  rw [Oper.upon_value]
  go_wp2
  rw [Lib.run_from_unsafe w ⟨b, 0, none⟩ Tryd.underlying92 Tryd.underlying42 hj hsh liesBu]
  simp only [Result.andThen]
  rw [Oper.upon_value]
  go_wp2
  go_end0
  exact ⟨rfl, rfl⟩

theorem bcheck_any (B b : Nat) (bs : List Value) (w : World) (h : Lib.IsBuilder 45 5 B b bs w) :
    Calls Tryd.prog 27 #[.pointer (some ⟨b, 0, none⟩)] w fun e w' => e = .returned (.tuple #[]) ∧ (Lib.BuilderAt 45 5 B b (.pointer (some ⟨b, 0, none⟩)) bs w' ∧ Below B w w' ∧ Lib.OthersKept 5 (some b) w w') := by
  rcases h with h | h
  · refine (bcheck_fresh b w h.cell0 h.shape h.frozen0).mono ?_
    rintro e w' ⟨rfl, rfl⟩
    exact ⟨rfl, h.used _, (Below.refl B w).setCell (p := ⟨b, 0, none⟩) h.1 _, (Lib.OthersKept.refl _ _ w).setCell ⟨b, 0, none⟩ rfl _⟩
  · refine (bcheck_used b w h.cell0).mono ?_
    rintro e w' ⟨rfl, rfl⟩
    exact ⟨rfl, h, Below.refl B _, Lib.OthersKept.refl _ _ _⟩

theorem own_kind {w : World} {B : Nat} {e : TypeId} {v : Value} {n : Nat} {xs : List Value} (h : w.ownsRow B e 1 v n xs) : ∀ g, v.ownBlock = some g → ∃ c fz, w.heap[g]? = some (.cells c e fz) := by
  intro g hg
  rcases h.2 with ⟨rfl, _⟩ | ⟨g', cap, cur, rfl, _, hgg, _⟩
  · simp [Value.ownBlock] at hg
  · simp [Value.ownBlock] at hg
    subst hg
    exact ⟨cur, _, hgg⟩
theorem block_in {w : World} {b : Nat} {o : Obj} (h : w.heap[b]? = some o) : b < w.heap.size := by
  rcases Nat.lt_or_ge b w.heap.size with h' | h'
  · exact h'
  · simp [Array.getElem?_eq_none h'] at h


set_option maxHeartbeats 2000000 in
set_option maxRecDepth 100000 in
theorem wstring_any (B b : Nat) (bs : List Value) (s : ByteArray) (w : World) (h : Lib.IsBuilder 45 5 B b bs w) (hlen : bs.length + s.size ≤ 1000000) (hBw : B ≤ w.heap.size) :
    Calls Tryd.prog 13 #[.pointer (some ⟨b, 0, none⟩), .string s] w fun e w' => e = .returned (.tuple #[.int .i64 s.size, .nilIface]) ∧ (Lib.BuilderAt 45 5 B b (.pointer (some ⟨b, 0, none⟩)) (bs ++ Lib.strCells s) w' ∧ Below B w w' ∧ Lib.OthersKept 5 (some b) w w') := by
  obtain ⟨i0, hi, hz0, hz1, hz2⟩ := info_parts Builder_Extra_169.infoByte
  go_enter Tryd.func13, Tryd.ntmps13
  go_wp2_with fail
  refine (bcheck_any B b bs _ h).mono ?_
  rintro e w1 ⟨rfl, h1, hb1, hk1⟩
  obtain ⟨hB, v, hbk, hown, hne⟩ := h1
  have c1 : w1.cell? ⟨b, 1, none⟩ = some v := by rw [Lib.cell_of_heap hbk]; rfl
  have hsz := hb1.size
  go_wp2_with (at_builtin; refine Lib.wpList_append_own_string _ rfl _ _ 43 9 rfl B 5 i0 Tryd.underlying43 Tryd.underlying9 hi hz0 hz1 hz2 _ _ _ rfl hown s rfl (by unfold maxLen; omega) (by omega) (by omega) ?_)
  intro v' w2 hown' hgrow _
  have hlt := block_in hbk
  have hb2 : w2.heap[b]? = some (.cells #[.pointer (some ⟨b, 0, none⟩), v] 45 (0, 0)) := by
    rw [hgrow.block b hlt (fun e => hne e.symm)]
    exact hbk
  have d1 : w2.cell? ⟨b, 1, none⟩ = some v := by rw [Lib.cell_of_heap hb2]; rfl
  have f1 : w2.frozen? ⟨b, 1, none⟩ = false := Lib.frozen_of_heap hb2 1
  obtain ⟨ao, n', cap, rfl⟩ : ∃ ao n' cap, v' = .slice ao n' cap := by
    rcases hown'.2 with ⟨hv, _⟩ | ⟨g, cap, cur, hv, _⟩
    · exact ⟨_, _, _, hv⟩
    · exact ⟨_, _, _, hv⟩
  have hE : Below B w w2 := hb1.grown hgrow (by omega) (fun k hk => (hown.lt k hk).1)
  have hK := hk1.grown hgrow (own_kind hown)
  clear hgrow hbk c1 hb1 hk1
  go_wp2_with fail
  go_ret2
  refine ⟨rfl, ?_, hE.setCell (p := ⟨b, 1, none⟩) hB _, hK.setCell ⟨b, 1, none⟩ rfl _⟩
  exact Lib.BuilderAt.put (T := 45) (e := 5) hB hb2 (bs' := bs ++ Lib.strCells s) (by simpa [Lib.strCells_length] using hown') (by decide)

theorem builder_alloc {B b : Nat} {bs : List Value} {w : World} (h : Lib.IsBuilder 45 5 B b bs w) (o : Obj) : Lib.IsBuilder 45 5 B b bs (w.alloc o) := by
  rcases h with ⟨hB, v, hb, hown, hne⟩ | ⟨hB, v, hb, hown, hne⟩
  · exact .inl ⟨hB, v, (Lib.alloc_old w o b (block_in hb)).trans hb, hown.alloc _, hne⟩
  · exact .inr ⟨hB, v, (Lib.alloc_old w o b (block_in hb)).trans hb, hown.alloc _, hne⟩
theorem builder_new (w : World) : Lib.IsBuilder 45 5 w.heap.size w.heap.size [] (w.alloc (.cells #[.pointer none, .slice none 0 0] 45)) :=
  .inl ⟨Nat.le_refl _, .slice none 0 0, heap_alloc_new w _, World.ownsRow_nil _ _ _ _, by simp [Value.ownBlock]⟩
theorem blk_others {w w' : World} {b g : Nat} {t : TypeId} {cs : Array Value} (h : Lib.OthersKept 5 (some b) w w') (hB : Blk w g t cs) (hg : g ≠ b) (ht : t ≠ 5) : Blk w' g t cs :=
  h g _ hB (fun e => hg (Option.some.inj e)) (fun c fz e => ht (by injection e))
end Go.Proofs.YtmgblbkmbiiofaaDoor

namespace Go.Proofs.YtmgblbkmbiiofaaDoor
open Go.RowKit
attribute [local go_sem ↓] Go.wp_at_zero Go.wp_at_succ

/-- The tables of blanks and of powers, and the library's MaxLen, lie below a base. -/
structure Em (w : World) (base : Nat) : Prop where
  tab : Lib.TabIs Tryd.prog w "strings.asciiSpace" .u8 Lib.asciiSpaceTab
  tl : 2 < base
  pw : Lib.TabIs Tryd.prog w "internal/strconv.uint64pow10" .u64 Lib.pow10Tab
  pl : 1 < base
  mx : ∃ m : Int, w.cell? ⟨0, 0, none⟩ = some (.int .i64 m)
  ml : 0 < base
theorem spNamed : Tryd.prog.globalNamed "strings.asciiSpace" = some 2 := by kernel_rfl
theorem pwNamed : Tryd.prog.globalNamed "internal/strconv.uint64pow10" = some 1 := by kernel_rfl
theorem Em.be {w w' : World} {base : Nat} (h : Em w base) (hb : Below base w w') : Em w' base := by
  refine ⟨?_, h.tl, ?_, h.pl, ?_, h.ml⟩
  · have h1 := h.tab
    unfold Lib.TabIs World.var? at h1 ⊢
    rw [spNamed] at h1 ⊢
    simp only [Option.bind_some] at h1 ⊢
    rw [hb.block _ h.tl]
    exact h1
  · have h1 := h.pw
    unfold Lib.TabIs World.var? at h1 ⊢
    rw [pwNamed] at h1 ⊢
    simp only [Option.bind_some] at h1 ⊢
    rw [hb.block _ h.pl]
    exact h1
  · obtain ⟨m, hm⟩ := h.mx
    exact ⟨m, (hb.cell (p := ⟨0, 0, none⟩) h.ml).trans hm⟩
theorem Em.mono {w : World} {base base' : Nat} (h : Em w base) (hb : base ≤ base') : Em w base' := ⟨h.tab, Nat.lt_of_lt_of_le h.tl hb, h.pw, Nat.lt_of_lt_of_le h.pl hb, h.mx, Nat.lt_of_lt_of_le h.ml hb⟩
theorem Em.all {w w' : World} (h : Em w w.heap.size) (hb : Below w.heap.size w w') : Em w' w'.heap.size := (h.be hb).mono hb.size
/-- In a later world. -/
theorem Em.at_ {w w' : World} {base : Nat} (h : Em w base) (hb : Below base w w') (hs : base ≤ w'.heap.size) : Em w' w'.heap.size := (h.be hb).mono hs
theorem Em.mxw {w : World} {base : Nat} (h : Em w base) : Mx w := h.mx

def RPost (w : World) (b : Bool) (e : Ending) (w' : World) : Prop := e = .returned (.bool b) ∧ Below w.heap.size w w'
theorem itoa_any (n : Int) (w : World) (h0 : -9223372036854775808 ≤ n) (h1 : n ≤ 9223372036854775807) (hp : Em w w.heap.size) :
    Calls Tryd.prog 15 #[.int .i64 n] w fun e w' => e = .returned (.string (bsS (Lib.itoa n))) ∧ Below w.heap.size w w' :=
  (strconv_Itoa n h0 h1 w hp.pw).mono fun e w' ⟨h, k, os, hw⟩ => ⟨h, by rw [hw]; exact Lib.below_grow _ w (Nat.le_refl _) k os⟩
theorem cut_any (s : Bs) (c : UInt8) (w : World) (hs : s.length ≤ 1000000) (hp : Mx w) :
    Calls Tryd.prog 64 #[.string (bsS s), .string (bsS [c])] w fun e w' => e = .returned (.tuple #[.string (bsS (Lib.cut s [c]).1), .string (bsS (Lib.cut s [c]).2.1), .bool (Lib.cut s [c]).2.2]) ∧ Below w.heap.size w w' := by
  obtain ⟨m, hm⟩ := hp
  refine (strings_Cut (bsS s) (bsS [c]) m w (by rw [bs_size]; omega) hm).mono fun e w' ⟨h, n, hw⟩ => ⟨h, by rw [hw]; exact below_drN (Below.refl _ _) n⟩
theorem cuts_any (s : Bs) (w : World) (hs : s.length ≤ 1000000) :
    Calls Tryd.prog 18 #[.string (bsS s), .string (bsS [10])] w fun e w' => e = .returned (.tuple #[.string (bsS (bodyM s)), .bool (whB s)]) ∧ w' = w := by
  refine (strings_CutSuffix (bsS s) (bsS [10]) w (by rw [bs_size]; omega)).mono fun e w' ⟨h, hw⟩ => ⟨?_, hw⟩
  rw [h]
  have e1 : Lib.trimSuffix s [10] = bodyM s := by
    unfold Lib.trimSuffix Lib.hasSuffix bodyM whB
    split
    · rw [List.dropLast_eq_take]; rfl
    · rfl
  show _ = Ending.returned (.tuple #[.string (bsS _), .bool _])
  rw [← e1]
  rfl
theorem splitB_bs (s : Bs) (c : UInt8) : Lib.splitB (bsS [c]) 0 (Lib.countB (bsS s) (bsS [c])) (bsS s) = (Lib.split s [c]).map bsS := by
  have h := Lib.splitB_data (bsS [c]) 0 (Lib.countB (bsS s) (bsS [c])) (bsS s)
  have e : Lib.splitK [c] 0 (Lib.countB (bsS s) (bsS [c])) s = Lib.split s [c] := rfl
  have e2 : (Lib.splitB (bsS [c]) 0 (Lib.countB (bsS s) (bsS [c])) (bsS s)).map (fun x => bsS x.data.toList) = (Lib.split s [c]).map bsS := by
    rw [← e, ← show Lib.splitK (bsS [c]).data.toList 0 (Lib.countB (bsS s) (bsS [c])) (bsS s).data.toList = Lib.splitK [c] 0 (Lib.countB (bsS s) (bsS [c])) s from rfl, ← h, List.map_map]
    rfl
  rw [← e2]
  simp [bsS]
theorem split_len (s : Bs) (c : UInt8) : (Lib.split s [c]).length = Lib.countB (bsS s) (bsS [c]) + 1 := by
  have h := Lib.splitB_all (bsS [c]) (by simp [bsS, ByteArray.size]) 0 _ (bsS s) rfl
  rw [splitB_bs, List.length_map] at h
  exact h
theorem splits_any (s : Bs) (c : UInt8) (w : World) (hs : s.length ≤ 1000000) (hp : Mx w) :
    Calls Tryd.prog 19 #[.string (bsS s), .string (bsS [c])] w fun e w' => e = .returned (.slice (some ⟨w.heap.size, 0, none⟩) (Lib.split s [c]).length (Lib.split s [c]).length) ∧ w' = w.alloc (.cells (strsA (Lib.split s [c])).toArray 9) := by
  obtain ⟨m, hm⟩ := hp
  have h := strings_Split (bsS s) (bsS [c]) m w (by rw [bs_size]; omega) hm (by simp [bsS, ByteArray.size])
  rw [splitB_bs, List.map_map] at h
  rw [split_len]
  exact h
theorem contains_bs (L : List Bs) (s : Bs) : Lib.containsS (L.map bsS) (bsS s) = L.contains s := by
  rw [Bool.eq_iff_iff, Lib.containsS_iff, List.contains_iff_mem, List.mem_map]
  exact ⟨fun ⟨x, hx, e⟩ => by rw [← bs_inj e]; exact hx, fun h => ⟨s, h, rfl⟩⟩

/-! ### Items in memory -/
def itC (x : It) : List Value := [.string (bsS x.a), .string (bsS x.b)]
theorem itC_len (x : It) : (itC x).length = 2 := rfl
theorem itC_one (x : It) : ∀ v ∈ itC x, v.oneCell' = true := by
  intro v hv
  simp only [itC, List.mem_cons, List.not_mem_nil, or_false] at hv
  rcases hv with rfl | rfl <;> rfl
def itsC (l : List It) : List Value := l.flatMap itC
theorem itsC_len (l : List It) : (itsC l).length = l.length * 2 := by
  induction l with
  | nil => rfl
  | cons r l ih => simp only [itsC, List.flatMap_cons, List.length_append, itC_len, List.length_cons] at *; omega
theorem itsC_one (l : List It) : ∀ v ∈ itsC l, v.oneCell' = true := by
  intro v hv
  obtain ⟨r, _, h⟩ := List.mem_flatMap.1 hv
  exact itC_one r v h
theorem itsC_at : ∀ (l : List It) (i : Nat) (r : It), l[i]? = some r → ∀ (j : Nat) (v : Value), (itC r)[j]? = some v → (itsC l)[i * 2 + j]? = some v
  | [], i, r, h, _, _, _ => by simp at h
  | x :: l, 0, r, h, j, v, hv => by
    simp at h; subst h
    have hj : j < (itC x).length := (List.getElem?_eq_some_iff.1 hv).1
    simp only [itsC, List.flatMap_cons, Nat.zero_mul, Nat.zero_add]
    rw [List.getElem?_append_left hj, hv]
  | x :: l, i + 1, r, h, j, v, hv => by
    have h' : l[i]? = some r := by simpa using h
    have e : (i + 1) * 2 + j = (itC x).length + (i * 2 + j) := by rw [itC_len]; omega
    simp only [itsC, List.flatMap_cons]
    rw [e, List.getElem?_append_right (by omega), Nat.add_sub_cancel_left]
    exact itsC_at l i r h' j v hv
theorem itsC_app (a b : List It) : itsC (a ++ b) = itsC a ++ itsC b := by simp [itsC]
theorem itsC_sing (x : It) : itsC [x] = itC x := by simp [itsC]
theorem itsC_take (l : List It) (k : Nat) : (itsC l).take (k * 2) = itsC (l.take k) := by
  induction l generalizing k with
  | nil => simp [itsC]
  | cons x l ih =>
    cases k with
    | zero => simp [itsC]
    | succ k =>
      rw [List.take_succ_cons]
      show (itC x ++ itsC l).take ((k + 1) * 2) = itC x ++ itsC (l.take k)
      rw [← ih k, List.take_append, List.take_of_length_le (by rw [itC_len]; omega), itC_len, show (k + 1) * 2 - 2 = k * 2 by omega]

/-- A slice of items. -/
structure Its (w : World) (A : Option Addr) (n : Nat) (l : List It) : Prop where
  row : Reads w w.heap.size 2 A n (itsC l)
  len : ∀ x ∈ l, x.a.length ≤ 1000000 ∧ x.b.length ≤ 1000000
theorem Its.n_ {w : World} {A : Option Addr} {n : Nat} {l : List It} (h : Its w A n l) : l.length = n := by
  have hl := h.row.1
  rw [itsC_len] at hl
  omega
theorem Its.be {w w' : World} {A : Option Addr} {n : Nat} {l : List It} (h : Its w A n l) (hb : Below w.heap.size w w') : Its w' A n l :=
  ⟨(h.row.below hb).more hb.size, h.len⟩
theorem Its.lit {w : World} {A : Option Addr} {n : Nat} {l : List It} (h : Its w A n l) {i : Nat} {x : It} (hi : l[i]? = some x) :
    ∃ b o, A = some ⟨b, o, none⟩ ∧ b < w.heap.size ∧ (∀ j v, (itC x)[j]? = some v → w.cell? ((⟨b, o + i * 2, none⟩ : Addr).add j) = some v) ∧ x.a.length ≤ 1000000 ∧ x.b.length ≤ 1000000 := by
  have hil : i < l.length := (List.getElem?_eq_some_iff.1 hi).1
  have hl := h.n_
  obtain ⟨ad, e', hb, hcc⟩ := h.row.2 (by omega)
  have hlen : 0 < (itsC l).length := by rw [itsC_len]; omega
  have e := addr_lit (hcc 0 _ (List.getElem?_eq_getElem hlen))
  refine ⟨ad.block, ad.off, by rw [← e]; exact e', hb, fun j v hv => ?_, h.len x (List.mem_of_getElem? hi)⟩
  have h1 := hcc _ v (itsC_at l i x hi j v hv)
  rw [e, Addr.add_lit] at h1
  rw [Addr.add_lit, Nat.add_assoc]
  exact h1
theorem mSize : (Tryd.prog.info? 62).map (·.size) = some 2 := by kernel_rfl
theorem mInfo : (Tryd.prog.info? 62).map (fun i => (i.zero, i.size, i.bytes)) = some (some (.agg #[.string ⟨#[]⟩, .string ⟨#[]⟩]), 2, 32) := by kernel_rfl
section
variable {ops : Array Oper} {rest : List Oper} {op : Oper} {a : Act} {w : World} {Q : Exit → Act → World → Prop}
theorem ld_m {ad : Addr} {x : It} (hc : ∀ j v, (itC x)[j]? = some v → w.cell? (ad.add j) = some v) (hgd : op.guard = none) (y : Operand) (ho : op.op = .load 62 y) (hy : a.eval y = .pointer (some ad))
    (h : wpList Tryd.prog ops Q rest (a.put op.dst (.agg #[.string (bsS x.a), .string (bsS x.b)])) w) : wpList Tryd.prog ops Q (op :: rest) a w :=
  wpList_load_at hgd 62 y ho _ hy (itC x) _ hc Tryd.underlying62 rfl (by rw [mSize]; rfl) h
end
end Go.Proofs.YtmgblbkmbiiofaaDoor
