/-
  Right manifests' words are clean; a right manifest without one of its items is right (plain).
-/
import Derived.Test.YtmgblbkmbiiofaaDoorMd5
import Derived.Test.YtmgblbkmbiiofaaDoorMd7

namespace Go.Proofs.YtmgblbkmbiiofaaDoor

/-! ### Clean words -/
theorem sign_clean {c : UInt8} (h : signB (c.toNat : Nat) = true) : c ≠ 10 ∧ c ≠ 32 := by
  refine ⟨fun e => ?_, fun e => ?_⟩ <;> (subst e; revert h; decide)
theorem name_clean {S : ByteArray} (h : nameB S = true) : ∀ c ∈ S.data.toList, c ≠ 10 ∧ c ≠ 32 := fun c hc => by
  unfold nameB at h
  simp only [Bool.and_eq_true, List.all_eq_true] at h
  exact sign_clean (h.2 c hc)
theorem nm_clean {s : Bs} (h : nmL s = true) : ∀ c ∈ s, c ≠ 10 ∧ c ≠ 32 := name_clean (S := bsS s) h
theorem join_mem {c : UInt8} : ∀ {p : List Bs}, c ∈ Lib.join p [47] → c = 47 ∨ ∃ s ∈ p, c ∈ s
  | [], h => by simp [Lib.join, List.intercalate] at h
  | [x], h => by rw [Lib.join_one] at h; exact .inr ⟨x, by simp, h⟩
  | x :: y :: p, h => by
    have e : Lib.join (x :: y :: p) [47] = x ++ 47 :: Lib.join (y :: p) [47] := by
      rw [Lib.join_cons, Lib.join_cons]
      simp [Lib.joinTail]
    rw [e] at h
    rcases List.mem_append.1 h with h | h
    · exact .inr ⟨x, by simp, h⟩
    · rcases List.mem_cons.1 h with h | h
      · exact .inl h
      · rcases join_mem h with h | ⟨s, hs, h⟩
        · exact .inl h
        · exact .inr ⟨s, List.mem_cons_of_mem _ hs, h⟩
theorem path_clean {S : ByteArray} (h : parseE S = 0) : ∀ c ∈ S.data.toList, c ≠ 10 ∧ c ≠ 32 := fun c hc => by
  unfold parseE at h
  split at h
  · cases h
  · split at h
    · cases h
    · rename_i h2
      split at h
      · rename_i h3
        have hA : isAbs S = true := by simpa using h2
        rw [abs_form hA] at hc
        rcases List.mem_cons.1 hc with hc | hc
        · subst hc; decide
        · unfold parseP at h3
          split at h3
          · rename_i h4
            rw [h4] at hc
            exact absurd hc (by simp)
          · rw [← join_parts (cutF S)] at hc
            rcases join_mem (p := (partsF (cutF S)).map (·.data.toList)) hc with hc | ⟨s, hs, hc⟩
            · subst hc; decide
            · obtain ⟨t, ht, rfl⟩ := List.mem_map.1 hs
              unfold rightB at h3
              simp only [Bool.and_eq_true, List.all_eq_true] at h3
              exact name_clean (h3.2 t ht) c hc
      · cases h
theorem pa_clean {s : Bs} (h : paE s = 0) : ∀ c ∈ s, c ≠ 10 ∧ c ≠ 32 := path_clean (S := bsS s) h
theorem cut_mem {s : Bs} {c : UInt8} (h : (Lib.cut s [46]).2.2 = true) (hc : c ∈ s) : c = 46 ∨ c ∈ (Lib.cut s [46]).1 ∨ c ∈ (Lib.cut s [46]).2.1 := by
  unfold Lib.cut at h ⊢
  split at h
  · rename_i h0
    rw [if_pos h0]
    rcases Lib.index_spec s [46] with ⟨h1, _⟩ | ⟨i, h1, h2, h3, _⟩
    · rw [h1] at h0; exact absurd h0 (by decide)
    · rw [h1]
      simp only [Int.toNat_natCast, List.length_singleton]
      rw [← List.take_append_drop i s] at hc
      rcases List.mem_append.1 hc with hc | hc
      · exact .inr (.inl hc)
      · cases hd : s.drop i with
        | nil => rw [hd] at hc; cases hc
        | cons d t =>
          unfold Lib.occAt at h3
          rw [hd] at h3 hc
          have e1 : d = 46 := by
            simp only [List.isPrefixOf, Bool.and_true, beq_iff_eq] at h3
            exact h3.symm
          have e2 : s.drop (i + 1) = t := by rw [← List.drop_drop, hd]; rfl
          rcases List.mem_cons.1 hc with hc | hc
          · exact .inl (hc.trans e1)
          · rw [e2]; exact .inr (.inr hc)
  · cases h
theorem key_clean {s : Bs} (h : keyM s = true) : ∀ c ∈ s, c ≠ 10 ∧ c ≠ 32 := fun c hc => by
  unfold keyM at h
  simp only [Bool.and_eq_true] at h
  rcases cut_mem h.1.1 hc with rfl | hc | hc
  · decide
  · exact nm_clean h.1.2 c hc
  · exact nm_clean h.2 c hc
theorem ev_clean : ∀ w ∈ evL ++ gpL ++ rwL, ∀ c ∈ w, c ≠ 10 ∧ c ≠ 32 := by decide
theorem right_clean {k : Nat} {x : It} (h : rightM k x = true) : (∀ c ∈ x.a, c ≠ 10 ∧ c ≠ 32) ∧ ∀ c ∈ x.b, c ≠ 10 ∧ c ≠ 32 := by
  unfold rightM at h
  split at h
  · simp only [Bool.and_eq_true] at h
    exact ⟨nm_clean h.1, nm_clean h.2⟩
  · split at h
    · simp only [Bool.and_eq_true, beq_iff_eq, List.contains_iff_mem] at h
      exact ⟨ev_clean _ (by simp [h.1]), pa_clean h.2.1⟩
    · split at h
      · rename_i h3
        rw [List.contains_iff_mem] at h3
        exact ⟨ev_clean _ (by simp [h3]), key_clean h⟩
      · simp only [Bool.and_eq_true, beq_iff_eq, List.contains_iff_mem] at h
        exact ⟨ev_clean _ (by simp [h.1]), pa_clean h.2⟩

/-! ### Rising lists -/
theorem lessL_trans {a b c : Bs} (h1 : lessL a b = true) (h2 : lessL b c = true) : lessL a c = true := by
  unfold lessL at *
  simp only [decide_eq_true_eq] at *
  exact List.lt_trans h1 h2
theorem lessI_trans {x y z : It} (h1 : lessI x y = true) (h2 : lessI y z = true) : lessI x z = true := by
  unfold lessI at *
  simp only [Bool.or_eq_true, Bool.and_eq_true, beq_iff_eq] at *
  rcases h1 with h1 | ⟨e1, h1⟩ <;> rcases h2 with h2 | ⟨e2, h2⟩
  · exact .inl (lessL_trans h1 h2)
  · rw [← e2]; exact .inl h1
  · rw [e1]; exact .inl h2
  · exact .inr ⟨e1.trans e2, lessL_trans h1 h2⟩
theorem each_zero (i : Nat) : ∀ (l : List It) (o : Option It), eachG i o l = 0 ↔ ((∀ x ∈ l, rightM i x = true) ∧ (o.toList ++ l).Pairwise fun x y => lessI x y = true)
  | [], o => by cases o <;> simp [eachG]
  | x :: l, o => by
    have ih := each_zero i l (some x)
    simp only [Option.toList_some, List.singleton_append] at ih
    cases o with
    | none =>
      rw [eachG]
      simp only [Option.toList_none, List.nil_append, List.mem_cons, forall_eq_or_imp]
      by_cases h : rightM i x = true
      · rw [if_pos h, ih]; simp [h]
      · rw [if_neg h]; simp [h]
    | some q =>
      rw [eachG]
      simp only [Option.toList_some, List.singleton_append, List.mem_cons, forall_eq_or_imp]
      by_cases h : rightM i x = true
      · rw [if_pos h]
        by_cases h2 : lessI q x = true
        · rw [if_pos h2, ih, List.pairwise_cons (a := q)]
          constructor
          · rintro ⟨a, b⟩
            refine ⟨⟨h, a⟩, fun y hy => ?_, b⟩
            rcases List.mem_cons.1 hy with rfl | hy
            · exact h2
            · exact lessI_trans h2 ((List.pairwise_cons.1 b).1 y hy)
          · rintro ⟨⟨_, a⟩, _, b⟩
            exact ⟨a, b⟩
        · rw [if_neg h2]
          constructor
          · intro e; cases e
          · rintro ⟨_, b⟩
            exact absurd ((List.pairwise_cons.1 b).1 x (by simp)) h2
      · rw [if_neg h]; simp [h]
theorem each_sub {i : Nat} {l l' : List It} (h : eachG i none l = 0) (hs : l'.Sublist l) : eachG i none l' = 0 := by
  rw [each_zero] at h ⊢
  exact ⟨fun x hx => h.1 x (hs.subset hx), h.2.sublist hs⟩
theorem dup_sub {l l' : List It} (h : dupM l = false) (hs : l'.Sublist l) : dupM l' = false := by
  unfold dupM at *
  simp only [Bool.not_eq_false', decide_eq_true_eq] at *
  exact h.sublist (hs.map _)
structure RightM (m : Mf) : Prop where
  pkg : nmL m.pkg = true
  pub : nmL m.pub = true
  rev : ∃ n : Nat, m.rev = n ∧ n ≤ 999999 ∧ 1 ≤ n
  len : m.p.length + m.s.length + m.h.length + m.w.length ≤ 20
  p : eachG 0 none m.p = 0
  s : eachG 1 none m.s = 0
  h : eachG 2 none m.h = 0
  w : eachG 3 none m.w = 0
  d : dupM (m.p ++ m.s) = false
  e : dupM m.h = false
theorem check_zero (m : Mf) : checkM m = 0 ↔ RightM m := by
  constructor
  · intro h
    unfold checkM at h
    split at h
    · rename_i h1
      split at h
      · cases h
      · rename_i h2
        split at h
        · cases h
        · rename_i h3
          split at h
          · rename_i h4; exact absurd h h4
          · rename_i h4
            split at h
            · rename_i h5; exact absurd h h5
            · rename_i h5
              split at h
              · rename_i h6; exact absurd h h6
              · rename_i h6
                split at h
                · rename_i h7; exact absurd h h7
                · rename_i h7
                  split at h
                  · cases h
                  · rename_i h8
                    exact ⟨h1.1, h1.2, ⟨m.rev.toNat, by omega, by omega, by omega⟩, by omega, by simpa using h4, by simpa using h5, by simpa using h6, by simpa using h7, by simpa using fun e => h8 (.inl e), by simpa using fun e => h8 (.inr e)⟩
    · cases h
  · rintro ⟨h1, h2, ⟨n, h3, h4, h5⟩, h6, h7, h8, h9, h10, h11, h12⟩
    unfold checkM
    rw [if_pos ⟨h1, h2⟩, if_neg (by omega), if_neg (by omega), if_neg (by simp [h7]), if_neg (by simp [h8]), if_neg (by simp [h9]), if_neg (by simp [h10]), if_neg (by simp [h11, h12])]
theorem RightM.clean {m : Mf} (h : RightM m) : CleanM m := by
  have hk : ∀ k, k < 4 → ∀ x ∈ m.at k, rightM k x = true := fun k hk => by
    match k, hk with
    | 0, _ => exact ((each_zero 0 _ _).1 h.p).1
    | 1, _ => exact ((each_zero 1 _ _).1 h.s).1
    | 2, _ => exact ((each_zero 2 _ _).1 h.h).1
    | 3, _ => exact ((each_zero 3 _ _).1 h.w).1
  exact ⟨nm_clean h.pkg, nm_clean h.pub, fun k h4 x hx => (right_clean (hk k h4 x hx)).1, fun k h4 x hx => (right_clean (hk k h4 x hx)).2⟩
theorem text_parse {m : Mf} (h : checkM m = 0) (hl : (textM m).length ≤ 4096) : parseM (textM m) = (m, 0, 0) := by
  have hR := (check_zero m).1 h
  obtain ⟨n, h1, h2, _⟩ := hR.rev
  exact text_parse0 hR.clean h ⟨n, h1, h2⟩ hl

/-! ### Without an item -/
def delM (m : Mf) (k : Nat) : Mf :=
  if k < m.p.length then { m with p := m.p.eraseIdx k }
  else if k - m.p.length < m.s.length then { m with s := m.s.eraseIdx (k - m.p.length) }
  else if k - m.p.length - m.s.length < m.h.length then { m with h := m.h.eraseIdx (k - m.p.length - m.s.length) }
  else { m with w := m.w.eraseIdx (k - m.p.length - m.s.length - m.h.length) }
theorem RightM.del {m : Mf} (h : RightM m) (k : Nat) : RightM (delM m k) := by
  unfold delM
  have hL : ∀ (l : List It) (i : Nat), (l.eraseIdx i).length ≤ l.length := fun l i => (List.eraseIdx_sublist l i).length_le
  have hlen := h.len
  split
  · have := hL m.p k
    exact ⟨h.pkg, h.pub, h.rev, by simp only; omega, each_sub h.p (List.eraseIdx_sublist ..), h.s, h.h, h.w, dup_sub h.d ((List.eraseIdx_sublist ..).append (List.Sublist.refl _)), h.e⟩
  · split
    · have := hL m.s (k - m.p.length)
      exact ⟨h.pkg, h.pub, h.rev, by simp only; omega, h.p, each_sub h.s (List.eraseIdx_sublist ..), h.h, h.w, dup_sub h.d ((List.Sublist.refl _).append (List.eraseIdx_sublist ..)), h.e⟩
    · split
      · have := hL m.h (k - m.p.length - m.s.length)
        exact ⟨h.pkg, h.pub, h.rev, by simp only; omega, h.p, h.s, each_sub h.h (List.eraseIdx_sublist ..), h.w, h.d, dup_sub h.e (List.eraseIdx_sublist ..)⟩
      · have := hL m.w (k - m.p.length - m.s.length - m.h.length)
        exact ⟨h.pkg, h.pub, h.rev, by simp only; omega, h.p, h.s, h.h, each_sub h.w (List.eraseIdx_sublist ..), h.d, h.e⟩
theorem map_erase {α β : Type} (f : α → β) : ∀ (l : List α) (i : Nat), (l.eraseIdx i).map f = (l.map f).eraseIdx i
  | [], _ => rfl
  | _ :: _, 0 => rfl
  | x :: l, i + 1 => by simp only [List.eraseIdx_cons_succ, List.map_cons, map_erase f l i]
theorem rows_del (m : Mf) (k : Nat) : rowsM (delM m k) = (rowsM m).eraseIdx k := by
  unfold delM rowsM
  split
  · rename_i h1
    rw [List.append_assoc, List.append_assoc, List.append_assoc, List.append_assoc, List.eraseIdx_append_of_lt_length (by simpa using h1), map_erase]
  · rename_i h1
    split
    · rename_i h2
      simp only [List.append_assoc]
      rw [List.eraseIdx_append_of_length_le (by simpa using h1), List.length_map, List.eraseIdx_append_of_lt_length (by simpa using h2), map_erase]
    · rename_i h2
      split
      · rename_i h3
        simp only [List.append_assoc]
        rw [List.eraseIdx_append_of_length_le (by simpa using h1), List.length_map, List.eraseIdx_append_of_length_le (by simpa using h2), List.length_map, List.eraseIdx_append_of_lt_length (by simpa using h3), map_erase]
      · rename_i h3
        simp only [List.append_assoc]
        rw [List.eraseIdx_append_of_length_le (by simpa using h1), List.length_map, List.eraseIdx_append_of_length_le (by simpa using h2), List.length_map, List.eraseIdx_append_of_length_le (by simpa using h3), List.length_map, map_erase]
theorem body_del (m : Mf) (k : Nat) : bodyL (delM m k) = (bodyL m).eraseIdx (3 + k) := by
  have h1 : (delM m k).pkg = m.pkg ∧ (delM m k).pub = m.pub ∧ (delM m k).rev = m.rev := by
    unfold delM
    repeat' split
    all_goals exact ⟨rfl, rfl, rfl⟩
  unfold bodyL
  rw [h1.1, h1.2.1, h1.2.2, rows_del m k, show 3 + k = k + 1 + 1 + 1 by omega]
  simp only [List.eraseIdx_cons_succ]
/-- Cutting a text's line out, byte by byte: what came out, the line's number, where it begins. -/
def cutG (s : Bs) (at_ : Nat) : Nat → Bs × Nat × Nat
  | 0 => ([], 0, 0)
  | i + 1 => if s.getD i 0 = 10 then ((if (cutG s at_ i).2.1 = at_ then (cutG s at_ i).1 else (cutG s at_ i).1 ++ ((s.drop (cutG s at_ i).2.2).take (i + 1 - (cutG s at_ i).2.2))), (cutG s at_ i).2.1 + 1, i + 1) else cutG s at_ i
theorem cutG_line {s : Bs} {at_ : Nat} (x R : Bs) (i : Nat) (hs : s.drop i = x ++ R) (hx : (10 : UInt8) ∉ x) : ∀ j, j ≤ x.length → cutG s at_ (i + j) = cutG s at_ i
  | 0, _ => rfl
  | j + 1, h => by
    have ih := cutG_line (at_ := at_) x R i hs hx j (by omega)
    have e : s.getD (i + j) 0 = x.getD j 0 := by
      have : (s.drop i).getD j 0 = x.getD j 0 := by
        rw [hs, List.getD_eq_getElem?_getD, List.getD_eq_getElem?_getD, List.getElem?_append_left (by omega)]
      rw [← this]
      simp [List.getD_eq_getElem?_getD]
    have e2 : x.getD j 0 ≠ 10 := fun h2 => hx (by
      rw [List.getD_eq_getElem?_getD, List.getElem?_eq_getElem (by omega)] at h2
      rw [← h2]
      exact List.getElem_mem _)
    rw [show i + (j + 1) = (i + j) + 1 by omega, cutG, if_neg (by rw [e]; exact e2), ih]
theorem cutG_lines {s : Bs} {at_ : Nat} : ∀ (L : List Bs) (i n : Nat) (out : Bs), s.drop i = endL L → (∀ x ∈ L, (10 : UInt8) ∉ x) → cutG s at_ i = (out, n, i) →
    cutG s at_ (i + (endL L).length) = (out ++ (if n ≤ at_ then endL (L.eraseIdx (at_ - n)) else endL L), n + L.length, i + (endL L).length)
  | [], i, n, out, _, _, h => by simp [endL, h]
  | x :: L, i, n, out, hs, hx, h => by
    have e : endL (x :: L) = x ++ 10 :: endL L := by simp [endL]
    rw [e] at hs
    have h1 := cutG_line (at_ := at_) x _ i hs (hx x (by simp)) x.length (Nat.le_refl _)
    have hd : s.getD (i + x.length) 0 = 10 := by
      have : (s.drop i).getD x.length 0 = 10 := by rw [hs]; simp [List.getD_eq_getElem?_getD]
      rw [← this]
      simp [List.getD_eq_getElem?_getD]
    have h2 : cutG s at_ (i + x.length + 1) = ((if n = at_ then out else out ++ (x ++ [10])), n + 1, i + x.length + 1) := by
      rw [cutG, if_pos hd, h1, h]
      simp only []
      rw [hs, show i + x.length + 1 - i = x.length + 1 by omega]
      have : (x ++ 10 :: endL L).take (x.length + 1) = x ++ [10] := by
        rw [List.take_append, List.take_of_length_le (by omega)]; simp
      rw [this]
    have hs2 : s.drop (i + x.length + 1) = endL L := by
      rw [show i + x.length + 1 = i + (x.length + 1) by omega, ← List.drop_drop, hs]
      rw [List.drop_append]; simp
    have ih := cutG_lines (at_ := at_) L (i + x.length + 1) (n + 1) _ hs2 (fun y hy => hx y (by simp [hy])) h2
    rw [show i + (endL (x :: L)).length = i + x.length + 1 + (endL L).length by rw [e]; simp; omega, ih]
    refine Prod.ext ?_ (Prod.ext (by simp only [List.length_cons]; omega) rfl)
    simp only []
    by_cases h3 : n = at_
    · subst h3
      rw [if_pos rfl, if_neg (by omega), if_pos (Nat.le_refl _), Nat.sub_self]
      rfl
    · rw [if_neg h3]
      by_cases h4 : n ≤ at_
      · rw [if_pos h4, if_pos (by omega), show at_ - n = (at_ - (n + 1)) + 1 by omega, List.eraseIdx_cons_succ]
        simp [endL]
      · rw [if_neg h4, if_neg (by omega), e]
        simp
theorem cut_text {m : Mf} (h : RightM m) (k : Nat) : (cutG (textM m) (3 + k) (textM m).length).1 = textM (delM m k) := by
  obtain ⟨n, h1, _⟩ := h.rev
  have := cutG_lines (s := textM m) (at_ := 3 + k) (bodyL m) 0 0 [] rfl (body_clean h.clean ⟨n, h1⟩) rfl
  rw [Nat.zero_add] at this
  unfold textM at this ⊢
  rw [this, body_del m k, if_pos (Nat.zero_le _)]
  rfl
/-- A text's size. -/
structure SmallM (m : Mf) : Prop where
  pkg : m.pkg.length ≤ 60
  pub : m.pub.length ≤ 60
  it : ∀ k, k < 4 → ∀ x ∈ m.at k, x.a.length ≤ 60 ∧ x.b.length ≤ 60
theorem endL_len {b : Nat} : ∀ (L : List Bs), (∀ x ∈ L, x.length ≤ b) → (endL L).length ≤ L.length * (b + 1)
  | [], _ => by simp [endL]
  | x :: L, h => by
    have ih := endL_len L (fun y hy => h y (by simp [hy]))
    have hx := h x (by simp)
    have e : endL (x :: L) = x ++ 10 :: endL L := by simp [endL]
    rw [e, List.length_append, List.length_cons, List.length_cons, Nat.succ_mul]
    omega
theorem text_small {m : Mf} (hR : RightM m) (h : SmallM m) : (textM m).length ≤ 4096 := by
  obtain ⟨n, hn, hn2, _⟩ := hR.rev
  have hit : ∀ k, k < 4 → ∀ x ∈ m.at k, (itL (wl.getD k []) x).length ≤ 126 := fun k hk x hx => by
    obtain ⟨h1, h2⟩ := h.it k hk x hx
    have : (wl.getD k []).length ≤ 4 := by
      have : ∀ k, k < 4 → (wl.getD k []).length ≤ 4 := by decide
      exact this k hk
    unfold itL
    simp only [List.length_append, List.length_cons]
    omega
  have hrow : ∀ x ∈ bodyL m, x.length ≤ 126 := fun l hl => by
    unfold bodyL rowsM at hl
    simp only [List.mem_cons, List.mem_append, List.mem_map] at hl
    have h1 := h.pkg
    have h2 := h.pub
    rcases hl with rfl | rfl | rfl | ((⟨x, hx, rfl⟩ | ⟨x, hx, rfl⟩) | ⟨x, hx, rfl⟩) | ⟨x, hx, rfl⟩
    · simp [sp2, hw0]; omega
    · simp [sp2, hw1]; omega
    · rw [hn, itoa_natM]
      have : (Lib.decDigits n).length ≤ 6 := by rw [Lib.decDigits_length]; exact nDig_leM 5 n (by omega)
      simp [sp2, hw2]; omega
    · exact hit 0 (by omega) x hx
    · exact hit 1 (by omega) x hx
    · exact hit 2 (by omega) x hx
    · exact hit 3 (by omega) x hx
  have h1 := endL_len _ hrow
  have h2 : (bodyL m).length ≤ 23 := by
    unfold bodyL rowsM
    have := hR.len
    simp
    omega
  unfold textM
  have := Nat.mul_le_mul_right 127 h2
  omega
theorem SmallM.del {m : Mf} (h : SmallM m) (k : Nat) : SmallM (delM m k) := by
  have hs : ∀ j, j < 4 → ((delM m k).at j).Sublist (m.at j) := fun j hj => by
    unfold delM
    match j, hj with
    | 0, _ => repeat' split
              all_goals first | exact List.Sublist.refl _ | exact List.eraseIdx_sublist ..
    | 1, _ => repeat' split
              all_goals first | exact List.Sublist.refl _ | exact List.eraseIdx_sublist ..
    | 2, _ => repeat' split
              all_goals first | exact List.Sublist.refl _ | exact List.eraseIdx_sublist ..
    | 3, _ => repeat' split
              all_goals first | exact List.Sublist.refl _ | exact List.eraseIdx_sublist ..
  have h1 : (delM m k).pkg = m.pkg ∧ (delM m k).pub = m.pub := by
    unfold delM
    repeat' split
    all_goals exact ⟨rfl, rfl⟩
  exact ⟨by rw [h1.1]; exact h.pkg, by rw [h1.2]; exact h.pub, fun j hj x hx => h.it j hj x ((hs j hj).subset hx)⟩
/-- A right manifest's text without one of its items' lines is that of a right manifest without the item. -/
theorem grows_law {m : Mf} (h : checkM m = 0) (hS : SmallM m) (k : Nat) : parseM (cutG (textM m) (3 + k) (textM m).length).1 = (delM m k, 0, 0) := by
  have hR := (check_zero m).1 h
  rw [cut_text hR k]
  exact text_parse ((check_zero _).2 (hR.del k)) (text_small (hR.del k) (hS.del k))
end Go.Proofs.YtmgblbkmbiiofaaDoor
