/-
  == between two arrays of integers.
-/
import Derived.Test.YticcphppnmoogaaDoorWordsH
namespace Go.Proofs.YticcphppnmoogaaDoor
open Go.RowKit

section
variable {P : Program}
theorem run_equalIn_arr (w : World) (d : Nat) (t e : TypeId) (len : Nat) (k k' : IntKind) (X Y : List Int) (hX : X.length = len) (hY : Y.length = len) (ht : P.underlying t = some (.array len e)) (he : P.underlying e = some (.int k')) (hi : (P.info? e).map (·.size) = some 1) :
    (Op.equalIn (d + 2) t (.agg (X.map (Value.int k)).toArray) (.agg (Y.map (Value.int k)).toArray)).run P w = .ok (X == Y) w := by
  cases hq : P.info? e with
  | none => simp [hq] at hi
  | some x =>
    have hs : x.size = 1 := by simpa [hq] using hi
    have hsz : (sizeOf e).run P w = .ok 1 w := by simp [sizeOf, typeInfo, hq, hs]
    have hpart : ∀ (Z : List Int) (i : Nat) (h : i < Z.length), (part e (Z.map (Value.int k)).toArray (i * 1)).run P w = .ok (.int k Z[i]) w := fun Z i h => by
      simp [part, isAgg, run_underlying he, h]
    have hone : ∀ a b : Int, (Op.equalIn (d + 1) e (.int k a) (.int k b)).run P w = .ok (a == b) w := fun a b => run_equalIn_int w d e k k' a b he
    rw [show d + 2 = (d + 1) + 1 from rfl]
    unfold Op.equalIn
    simp only [Sem.run_bind, run_underlying ht, Result.andThen_ok, hsz]
    rw [Std.Legacy.Range.forIn_eq_forIn_range']
    have hrange : List.range' (Std.Legacy.Range.start [:len]) (Std.Legacy.Range.size [:len]) (Std.Legacy.Range.step [:len]) = List.range' 0 len := by simp [Std.Legacy.Range.size]
    rw [hrange]
    have key : ∀ (n s : Nat), s + n = len →
        (forIn (List.range' s n) ((none, ()) : Option Bool × Unit) fun i r => do
          let a ← part e (X.map (Value.int k)).toArray (i * 1)
          let b ← part e (Y.map (Value.int k)).toArray (i * 1)
          let c ← Op.equalIn (d + 1) e a b
          if (!c) = true then pure (ForInStep.done (some false, ())) else pure (ForInStep.yield (none, ()))).run P w = .ok (if X.drop s = Y.drop s then (none, ()) else (some false, ())) w := by
      intro n
      induction n with
      | zero =>
        intro s h
        rw [List.drop_of_length_le (by omega), List.drop_of_length_le (by omega)]
        simp
      | succ n ih =>
        intro s h
        have hx : s < X.length := by omega
        have hy : s < Y.length := by omega
        have hdx := List.drop_eq_getElem_cons hx
        have hdy := List.drop_eq_getElem_cons hy
        rw [List.range'_succ]
        simp only [List.forIn_cons, Sem.run_bind, hpart X s hx, hpart Y s hy, Result.andThen_ok, hone]
        by_cases hxy : X[s] = Y[s]
        · have hb : (X[s] == Y[s]) = true := by simp [hxy]
          simp only [hb, Bool.not_true, Bool.false_eq_true, if_false, Sem.run_pure, Result.andThen_ok]
          rw [ih (s + 1) (by omega)]
          have : (X.drop s = Y.drop s) ↔ (X.drop (s + 1) = Y.drop (s + 1)) := ⟨fun e => by rw [hdx, hdy] at e; injection e, fun e => by rw [hdx, hdy, hxy, e]⟩
          simp only [this]
        · have hb : (X[s] == Y[s]) = false := by simp [hxy]
          simp only [hb, Bool.not_false, if_true, Sem.run_pure, Result.andThen_ok]
          have : ¬ X.drop s = Y.drop s := by rw [hdx, hdy]; intro e; injection e with e; exact hxy e
          rw [if_neg this]
    rw [key len 0 (by omega)]
    simp only [List.drop_zero, Result.andThen_ok]
    by_cases hxy : X = Y
    · subst hxy; simp
    · simp [hxy]
/-- == on two arrays of integers, as the walk meets it. -/
theorem run_eql_arr (w : World) (t e : TypeId) (len : Nat) (k k' : IntKind) (X Y : List Int) (hX : X.length = len) (hY : Y.length = len) (ht : P.underlying t = some (.array len e)) (he : P.underlying e = some (.int k')) (hi : (P.info? e).map (·.size) = some 1) :
    (binOp .eql t (.agg (X.map (Value.int k)).toArray) (.agg (Y.map (Value.int k)).toArray)).run P w = .ok (.bool (X == Y)) w := by
  rw [run_eql_struct, show 10000 = 9998 + 2 from rfl, run_equalIn_arr w 9998 t e len k k' X Y hX hY ht he hi]
  rfl
end

end Go.Proofs.YticcphppnmoogaaDoor
