/-
  A revision that is built out of its parts.
-/
import Derived.Test.YtkmdhmnjohlnaaaRevIn
namespace Go.Proofs.Ytkmdhmnjohlnaaa
open Go.RowKit

theorem fold_off (o : Nat) : ∀ (l : List Value) (k : Nat) (cs : Array Value), o + k + l.length ≤ cs.size →
    (l.zipIdx k).foldl (fun cs x => cs.setIfInBounds (o + x.snd) x.fst) cs = (cs.toList.take (o + k) ++ l ++ cs.toList.drop (o + k + l.length)).toArray
  | [], k, cs, h => by simp
  | v :: l, k, cs, h => by
    have hlen : (v :: l).length = l.length + 1 := rfl
    rw [List.zipIdx_cons, List.foldl_cons, fold_off o l (k + 1) _ (by simp; omega)]
    have h1 := set_splice cs.toList v l (o + k) (by simp at h ⊢; omega)
    rw [← h1, Array.toList_setIfInBounds]
    rfl
theorem fold_seal (r : Rv) (cs : Array Value) (x y : Value) (hcs : cs = (x :: (List.replicate 32 (Value.int .u8 0) ++ [y])).toArray) :
    (r.seal_.map (Value.int .u8)).zipIdx.foldl (fun cs x => cs.setIfInBounds (1 + x.snd) x.fst) cs = (x :: (r.seal_.map (Value.int .u8) ++ [y])).toArray := by
  have hs := r.h
  rw [fold_off 1 _ 0 cs (by subst hcs; simp [hs])]
  subst hcs
  simp [hs]
theorem build_rv (r : Rv) (w : World) : Sem.run Try.prog (Instr.build 36 #[(0, .int .i64 r.no), (1, .agg (r.seal_.map (Value.int .u8)).toArray), (2, .int .i64 r.size)]) w = .ok (.agg (rvC r).toArray) w := by
  have h := r.h
  go_simp
  rw [fold_seal r _ (.int .i64 r.no) (.int .i64 0) (by rfl)]
  rw [if_neg (by simp [h])]
  have e : ((Value.int .i64 r.no :: (r.seal_.map (Value.int .u8) ++ [.int .i64 0])).toArray).setIfInBounds 33 (.int .i64 r.size) = (rvC r).toArray := by
    unfold rvC
    rw [List.setIfInBounds_toArray]
    congr 1
    rw [List.set_cons_succ, List.set_append_right _ _ (by simp [h])]
    simp [h]
  rw [e]
  rfl

end Go.Proofs.Ytkmdhmnjohlnaaa
