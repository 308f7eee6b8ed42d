/-
  A package that comes in.
-/
import Derived.Test.YtkmdhmnjohlnaaaRevKP
import Derived.Test.YtkmdhmnjohlnaaaWordsP
import Derived.Lib.SmallJoins
import Derived.Deep.Slices
namespace Go.Proofs.Ytkmdhmnjohlnaaa
open Go.ChangeShapes Go.WideShapes Go.ChangeAt Go.RowKit Go.ChangeMaps Go.Deep Go.Joins

theorem ints_of {k : IntKind} : ∀ (l : List Value), (∀ i, i < l.length → ∃ n : Int, l[i]? = some (.int k n)) → ∃ D : List Int, D.length = l.length ∧ l = D.map (Value.int k)
  | [], _ => ⟨[], rfl, rfl⟩
  | v :: l, h => by
    obtain ⟨n, hn⟩ := h 0 (by simp)
    obtain ⟨D, h1, h2⟩ := ints_of l (fun i hi => by
      obtain ⟨m, hm⟩ := h (i + 1) (by simp; omega)
      exact ⟨m, by simpa using hm⟩)
    simp at hn
    exact ⟨n :: D, by simp [h1], by rw [hn, h2]; rfl⟩

/-- A revision's cells, as they read. -/
theorem rv_cells {H : Type} {enc : TypeId × Value → H} {W : World} {base fuel : Nat} {sp : Nat → Bool} {held : Bool} {cs : List Value} {x : DataW H × List MemPlace} (h : DataW.trod enc Try.prog W base sp held fuel 27 cs = some x) : ∃ r : Rv, cs = rvC r := by
  have hc1 : Try.prog.cellsOf 3 = 1 := by kernel_rfl
  have hc8 : Try.prog.cellsOf 5 = 1 := by kernel_rfl
  have hcA : Try.prog.cellsOf 25 = 32 := by kernel_rfl
  have hcR : Try.prog.cellsOf 27 = 34 := by kernel_rfl
  obtain ⟨xs, n, -, -, hl, hx, hf⟩ := DataW.trod_struct Try.underlying27 h
  rw [hcR] at hl
  have hx3 : xs.length = 3 := hx
  have g : ∀ i, i < 3 → ∃ y, xs[i]? = some y := fun i hi => ⟨_, List.getElem?_eq_getElem (by omega)⟩
  obtain ⟨y0, e0⟩ := g 0 (by omega)
  obtain ⟨y1, e1⟩ := g 1 (by omega)
  obtain ⟨y2, e2⟩ := g 2 (by omega)
  have f0 := hf 0 _ rfl
  have f1 := hf 1 _ rfl
  have f2 := hf 2 _ rfl
  rw [e0] at f0
  rw [e1] at f1
  rw [e2] at f2
  have f0' : DataW.trod enc Try.prog W base sp held n 3 ((cs.drop 0).take (Try.prog.cellsOf 3)) = some y0 := f0
  have f1' : DataW.trod enc Try.prog W base sp held n 25 ((cs.drop 1).take (Try.prog.cellsOf 25)) = some y1 := f1
  have f2' : DataW.trod enc Try.prog W base sp held n 3 ((cs.drop 33).take (Try.prog.cellsOf 3)) = some y2 := f2
  rw [hc1] at f0' f2'
  rw [hcA] at f1'
  obtain ⟨no, hno, -, -⟩ := DataW.trod_int Try.underlying3 f0'
  obtain ⟨sz, hsz, -, -⟩ := DataW.trod_int Try.underlying3 f2'
  obtain ⟨zs, m, -, -, hzl, hzx, hz⟩ := DataW.trod_array Try.underlying25 f1'
  obtain ⟨D, hD, hDe⟩ := ints_of (k := .u8) ((cs.drop 1).take 32) (fun i hi => by
    have hi' : i < 32 := by simp at hi; omega
    have h1 := hz i hi'
    obtain ⟨y, hy⟩ : ∃ y, zs[i]? = some y := ⟨_, List.getElem?_eq_getElem (by omega)⟩
    rw [hy, hc8] at h1
    obtain ⟨q, hq, -, -⟩ := DataW.trod_int Try.underlying5 h1
    have h2 : ((((cs.drop 1).take 32).drop (i * 1)).take 1)[0]? = some (.int .u8 q) := by rw [hq]; rfl
    rw [List.getElem?_take, if_pos (by omega), List.getElem?_drop] at h2
    exact ⟨q, by rw [show i * 1 + 0 = i by omega] at h2; exact h2⟩)
  have hD32 : D.length = 32 := by rw [hD]; simp; omega
  refine ⟨⟨no, D, sz, hD32⟩, ?_⟩
  have e : cs = (cs.drop 0).take 1 ++ ((cs.drop 1).take 32 ++ (cs.drop 33).take 1) := by
    have a1 : (cs.drop 33).take 1 = cs.drop 33 := List.take_of_length_le (by simp; omega)
    rw [a1]
    have a2 : (cs.drop 1).take 32 ++ cs.drop 33 = cs.drop 1 := by
      have := List.take_append_drop 32 (cs.drop 1)
      rw [List.drop_drop] at this
      exact this
    rw [a2, List.drop_zero, List.take_append_drop]
  exact e.trans (by rw [hno, hsz, hDe]; rfl)

theorem lists_of {P : Nat → List Value → Prop} : ∀ (n : Nat), (∀ i, i < n → ∃ r : Rv, P i (rvC r)) → ∃ l : List Rv, l.length = n ∧ ∀ i r, l[i]? = some r → P i (rvC r)
  | 0, _ => ⟨[], rfl, fun i r h => by simp at h⟩
  | n + 1, h => by
    obtain ⟨l, h1, h2⟩ := lists_of n (fun i hi => h i (by omega))
    obtain ⟨r, hr⟩ := h n (by omega)
    refine ⟨l ++ [r], by simp [h1], fun i r' hi => ?_⟩
    rcases Nat.lt_or_ge i l.length with hlt | hge
    · rw [List.getElem?_append_left hlt] at hi
      exact h2 i r' hi
    · rw [List.getElem?_append_right hge] at hi
      have hi0 : i - l.length = 0 := by
        rcases Nat.eq_zero_or_pos (i - l.length) with e | e
        · exact e
        · rw [List.getElem?_eq_none (by simp; omega)] at hi; cases hi
      rw [hi0] at hi
      simp at hi
      subst hi
      have : i = n := by omega
      subst this
      exact hr

theorem rev_split : ∀ (l : List Rv) (j : Nat) (v : Value), (revC l)[j]? = some v → ∃ i k r, j = i * 34 + k ∧ l[i]? = some r ∧ (rvC r)[k]? = some v
  | [], j, v, h => by simp [revC] at h
  | x :: l, j, v, h => by
    simp only [revC, List.flatMap_cons] at h
    rcases Nat.lt_or_ge j (rvC x).length with hlt | hge
    · rw [List.getElem?_append_left hlt] at h
      exact ⟨0, j, x, by simp, by simp, h⟩
    · rw [List.getElem?_append_right hge] at h
      obtain ⟨i, k, r, h1, h2, h3⟩ := rev_split l _ v h
      rw [rvC_len] at h1 hge
      exact ⟨i + 1, k, r, by omega, by simpa using h2, h3⟩

theorem open_revs {H : Type} {enc : TypeId × Value → H} {W : World} {fuel : Nat} {v : Value} {x : DataW H × List MemPlace} (h : DataW.trod enc Try.prog W 0 (fun _ => true) true fuel 22 [v] = some x) :
    ∃ (A : Option Addr) (n c : Nat) (l : List Rv), v = .slice A n c ∧ n ≤ c ∧ c ≤ maxLen ∧ Reads W W.heap.size 34 A n (revC l) := by
  have hcR : Try.prog.cellsOf 27 = 34 := by kernel_rfl
  rcases open_slice Try.underlying22 h with ⟨hcs, -⟩ | ⟨a, len, cap, m, n, D, Pl, hcs, -, hl, hm, hmm, -, hi⟩
  · injection hcs with hcs
    subst hcs
    exact ⟨none, 0, 0, [], rfl, Nat.le_refl _, Nat.zero_le _, Reads.none_⟩
  · injection hcs with hcs
    subst hcs
    rw [if_pos rfl] at hmm
    rw [hcR] at hi
    obtain ⟨l, h1, h2⟩ := lists_of (P := fun i cs => W.cells? 0 (a.add (i * 34)) 34 = some cs) len (fun i hil => by
      obtain ⟨cs', hc, ht⟩ := hi i (by omega)
      obtain ⟨r, rfl⟩ := rv_cells ht
      exact ⟨r, hc⟩)
    refine ⟨some a, len, cap, l, rfl, hl, hm, ⟨by rw [revC_len, h1], fun hn => ⟨a, rfl, ?_, fun j u hu => ?_⟩⟩⟩
    · obtain ⟨r, hr⟩ : ∃ r, l[0]? = some r := ⟨_, List.getElem?_eq_getElem (by omega)⟩
      obtain ⟨_, hcl, hat⟩ := World.cells?_some (h2 0 r hr)
      have h3 := hat 0 (by omega)
      rw [rvC_0] at h3
      have h4 := cell_lt h3
      rw [block_of_add, block_of_add] at h4
      exact h4
    · obtain ⟨i, k, r, rfl, hr, hk⟩ := rev_split l j u hu
      obtain ⟨_, hcl, hat⟩ := World.cells?_some (h2 i r hr)
      have hk34 : k < 34 := by have := (List.getElem?_eq_some_iff.1 hk).1; rw [rvC_len] at this; exact this
      have h3 := hat k hk34
      rw [add_of_add] at h3
      rw [h3, hk]

theorem open_pkg {H : Type} {enc : TypeId × Value → H} {W : World} {base : Nat} {v : Value} {d : DataW H} {p : List MemPlace}
    (h : DataW.Trod enc Try.prog W 0 (fun _ => true) true 24 v d p) (o : Value.okWide Try.prog W .any base 24 v) :
    ∃ (s1 s2 : ByteArray) (a : Int) (A : Option Addr) (n c : Nat) (l : List Rv), v = .agg #[.string s1, .string s2, .int .i64 a, .slice A n c] ∧ s1.size ≤ 9223372036854775807 ∧ s2.size ≤ 9223372036854775807 ∧ n ≤ c ∧ c ≤ 9223372036854775807 ∧ Reads W W.heap.size 34 A n (revC l) := by
  obtain ⟨v0, v1, v2, v3, y0, y1, y2, y3, n, rfl, -, -, h0, h1, h2, h3⟩ := open_agg4 Try.underlying24 (by kernel_rfl) (by kernel_rfl) o h
  have h0' : DataW.trod enc Try.prog W 0 (fun _ => true) true n 9 [v0] = some y0 := h0
  have h1' : DataW.trod enc Try.prog W 0 (fun _ => true) true n 9 [v1] = some y1 := h1
  have h2' : DataW.trod enc Try.prog W 0 (fun _ => true) true n 3 [v2] = some y2 := h2
  have h3' : DataW.trod enc Try.prog W 0 (fun _ => true) true n 22 [v3] = some y3 := h3
  obtain ⟨s1, e1, -, l1⟩ := DataW.trod_string Try.underlying9 h0'
  obtain ⟨s2, e2, -, l2⟩ := DataW.trod_string Try.underlying9 h1'
  obtain ⟨a, e3, -, -⟩ := DataW.trod_int Try.underlying3 h2'
  obtain ⟨A, m, c, l, e4, hmc, hcm, hR⟩ := open_revs h3'
  injection e1 with e1
  injection e2 with e2
  injection e3 with e3
  subst e1 e2 e3 e4
  exact ⟨s1, s2, a, A, m, c, l, rfl, l1, l2, hmc, hcm, hR⟩

end Go.Proofs.Ytkmdhmnjohlnaaa
