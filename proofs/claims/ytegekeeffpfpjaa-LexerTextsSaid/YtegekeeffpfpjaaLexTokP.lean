/-
  The tokens of a text, in plain terms; what one more 'next' means for them.
-/
import Derived.Test.YtegekeeffpfpjaaLexNx
import Derived.Lib.Strings
namespace Go.Proofs.Ytegekeeffpfpjaa
open Go.RowKit

/-- A token: kind, text, line. -/
abbrev Tok := Nat × List UInt8 × Nat

def tokF : Nat → List UInt8 → Nat → List Tok × Nat × Nat
  | 0, _, _ => ([], 0, 0)
  | f + 1, l, ln =>
    if (skipL false l ln).1 = [] then ([], 4, (skipL false l ln).2)
    else if (sizeL (skipL false l ln).1).1 = 0 then ([], 3, (skipL false l ln).2)
    else if longB (sizeL (skipL false l ln).1).1 (sizeL (skipL false l ln).1).2 = true then ([], 2, (skipL false l ln).2)
    else (((sizeL (skipL false l ln).1).2, (skipL false l ln).1.take (sizeL (skipL false l ln).1).1, (skipL false l ln).2) :: (tokF f ((skipL false l ln).1.drop (sizeL (skipL false l ln).1).1) (skipL false l ln).2).1,
      (tokF f ((skipL false l ln).1.drop (sizeL (skipL false l ln).1).1) (skipL false l ln).2).2)

def cellsT (l : List Tok) : List Value := l.flatMap fun t => [.int .i64 t.1, .string ⟨t.2.1.toArray⟩, .int .i64 t.2.2]
theorem cellsT_len (l : List Tok) : (cellsT l).length = l.length * 3 := by
  induction l with
  | nil => rfl
  | cons t l ih => simp [cellsT] at ih ⊢; omega
theorem cellsT_snoc (l : List Tok) (t : Tok) : cellsT (l ++ [t]) = cellsT l ++ [.int .i64 t.1, .string ⟨t.2.1.toArray⟩, .int .i64 t.2.2] := by simp [cellsT]

theorem extract_eq (s : ByteArray) (b n : Nat) : s.extract b (b + n) = ⟨((s.data.toList.drop b).take n).toArray⟩ := by
  have e : (s.extract b (b + n)).data = ((s.data.toList.drop b).take n).toArray := by
    apply Array.toList_inj.1
    rw [Lib.extract_data]
    simp
  exact ByteArray.ext e

theorem drop_nil_iff {s : ByteArray} {b : Nat} (hb : b ≤ s.size) : s.data.toList.drop b = [] ↔ b = s.size := by
  rw [List.drop_eq_nil_iff]; simp; omega

theorem own_ne {w : World} {base : Nat} {e : TypeId} {size n : Nat} {v : Value} {xs : List Value} (h : w.ownsRow base e size v n xs) {g : Nat} (hg : g < base) : v.ownBlock = none ∨ v.ownBlock ≠ some g := by
  rcases h.2 with ⟨rfl, _⟩ | ⟨g', cap, cur, rfl, hb, _⟩
  · exact .inl rfl
  · refine .inr fun e => ?_
    have : g' = g := by simpa [Value.ownBlock] using e
    omega
theorem own_ge {w : World} {base : Nat} {e : TypeId} {size n : Nat} {v : Value} {xs : List Value} (h : w.ownsRow base e size v n xs) {g : Nat} (hg : v.ownBlock = some g) : base ≤ g := by
  rcases h.2 with ⟨rfl, _⟩ | ⟨g', cap, cur, rfl, hb, _⟩
  · simp [Value.ownBlock] at hg
  · have : g' = g := by simpa [Value.ownBlock] using hg
    omega
theorem at_len (done r : List Tok) (x : Tok) (n : Nat) (h : done.length = n) : (done ++ x :: r)[n]? = some x := by
  subst h; rw [List.getElem?_append_right (Nat.le_refl _)]; simp
/-- What one 'next' means: there is no further token, or there is one and the rest. -/
theorem tok_step {s : ByteArray} {a ln : Nat} {K : Int} {T : ByteArray} {L err : Int} {a2 l2 : Nat} (h : Nx s a ln K T L err a2 l2) (f : Nat) :
    (err ≠ 0 ∧ tokF (f + 1) (s.data.toList.drop a) ln = ([], err.toNat, l2) ∧ (err = 2 ∨ err = 3 ∨ err = 4)) ∨
    (err = 0 ∧ a < a2 ∧ ∃ k : Nat, ∃ t : List UInt8, K = k ∧ T = ⟨t.toArray⟩ ∧ L = l2 ∧ tokF (f + 1) (s.data.toList.drop a) ln = ((k, t, l2) :: (tokF f (s.data.toList.drop a2) l2).1, (tokF f (s.data.toList.drop a2) l2).2)) := by
  obtain ⟨b, h1, h2, h3, h4, h5, hc⟩ := h
  have hu : tokF (f + 1) (s.data.toList.drop a) ln = _ := rfl
  rcases hc with ⟨q, _, _, _, rfl, _⟩ | ⟨q, q1, _, _, _, rfl, _⟩ | ⟨q, q1, q2, _, _, _, rfl, _⟩ | ⟨q, q1, q2, rfl, rfl, rfl, rfl, rfl⟩
  · refine .inl ⟨by decide, ?_, by simp⟩
    unfold tokF
    rw [h5, if_pos ((drop_nil_iff h2).2 q)]; rfl
  · refine .inl ⟨by decide, ?_, by simp⟩
    unfold tokF
    rw [h5, if_neg (fun e => by have := (drop_nil_iff h2).1 e; omega), if_pos q1]; rfl
  · refine .inl ⟨by decide, ?_, by simp⟩
    unfold tokF
    rw [h5, if_neg (fun e => by have := (drop_nil_iff h2).1 e; omega), if_neg q1, if_pos q2]; rfl
  · have hle := sizeL_le (s.data.toList.drop b) (by rw [len_drop]; omega)
    rw [len_drop] at hle
    refine .inr ⟨rfl, by omega, _, (s.data.toList.drop b).take (sizeL (s.data.toList.drop b)).1, rfl, extract_eq s b _, rfl, ?_⟩
    show (if _ then _ else _) = _
    rw [h5, if_neg (fun e => by have := (drop_nil_iff h2).1 e; omega), if_neg q1, if_neg (by rw [q2]; simp), List.drop_drop]

end Go.Proofs.Ytegekeeffpfpjaa
