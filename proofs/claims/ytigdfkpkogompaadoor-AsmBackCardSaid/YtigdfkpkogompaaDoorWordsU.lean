/-
  A region that draws its order, operation by operation, by hand: the operations as a list.
-/
import Derived.Test.YtigdfkpkogompaaDoorWordsT
namespace Go.Proofs.YtigdfkpkogompaaDoor
open Go

section
variable {P : Program} {md : Region.Mode} {S : World → Prop} {Q : Exit → Act → World → Prop} {l : List Oper} {s : Array Bool} {a : Act} {w : World} {f : Nat}

theorem wpAnyH_takeL {i : Nat} {o : Oper} {v : Value} (ho : l[i]? = some o) (hs : Region.noSelect l.toArray = true) (hf : Region.free md l.toArray s i = true) (hr : (Region.ready md l.toArray s).contains i = true)
    (hQ : ∀ c a w, Q (.panic c) (a.put o.dst v) w → Q (.panic c) a w) (hy : YieldsIf P l.toArray S o v a) (hS : S w) (h : wpAnyH P md l.toArray Q S f (s.setIfInBounds i true) (a.put o.dst v) w) : wpAnyH P md l.toArray Q S (f + 1) s a w :=
  wpAnyH_take (by simpa using ho) hs hf hr hQ hy hS h

theorem wpOp_ofL {i : Nat} {o : Oper} {K : Act → World → Prop} (hi : l[i]? = some o) (hg : o.guard = none) (h : o.wp P a w K Q) : wpOp P l.toArray Q i K a w := by
  have hw : Region.wanted o (yielded l.toArray a.tmps) = true := by simp [Region.wanted, hg]
  have hi' : l.toArray[i]? = some o := by simpa using hi
  unfold wpOp
  simp only [hi', hw, if_true]
  exact .inl h

theorem wpAnyH_oneL {k : Nat} {o : Oper} (ho : l[k]? = some o) (hr : Region.ready md l.toArray s = [k]) (hg : o.guard = none)
    (h : o.wp P a w (fun a' w' => S w' ∧ wpAnyH P md l.toArray Q S f (s.setIfInBounds k true) a' w') Q) : wpAnyH P md l.toArray Q S (f + 1) s a w := by
  refine wpAnyH_all hr (by simp) fun i hi => ?_
  obtain rfl : i = k := by simpa using hi
  exact wpOp_ofL ho hg h

theorem wpAnyH_twoL {i j : Nat} {o o' : Oper} (ho : l[i]? = some o) (ho' : l[j]? = some o') (hr : Region.ready md l.toArray s = [i, j]) (hg : o.guard = none) (hg' : o'.guard = none)
    (h : o.wp P a w (fun a' w' => S w' ∧ wpAnyH P md l.toArray Q S f (s.setIfInBounds i true) a' w') Q)
    (h' : o'.wp P a w (fun a' w' => S w' ∧ wpAnyH P md l.toArray Q S f (s.setIfInBounds j true) a' w') Q) : wpAnyH P md l.toArray Q S (f + 1) s a w := by
  refine wpAnyH_all hr (by simp) fun k hk => ?_
  simp only [List.mem_cons, List.not_mem_nil, or_false] at hk
  rcases hk with rfl | rfl
  · exact wpOp_ofL ho hg h
  · exact wpOp_ofL ho' hg' h'

theorem wp_of_run {o : Oper} {K : Act → World → Prop} {v : Value} {w' : World} (hrun : (execOp a.eval o).run P w = .ok (.value v) w') (h : K (a.put o.dst v) w') : o.wp P a w K Q := by
  unfold Oper.wp; rw [hrun]; exact h
theorem wp_of_skip {o : Oper} {K : Act → World → Prop} {w' : World} (hrun : (execOp a.eval o).run P w = .ok .skip w') (h : K (a.put o.dst undef) w') : o.wp P a w K Q := by
  unfold Oper.wp; rw [hrun]; exact h
end

end Go.Proofs.YtigdfkpkogompaaDoor
