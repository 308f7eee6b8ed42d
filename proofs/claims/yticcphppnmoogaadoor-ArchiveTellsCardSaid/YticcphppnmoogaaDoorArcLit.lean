/-
  Entries at an address that is written out.
-/
import Derived.Test.YticcphppnmoogaaDoorArcG
namespace Go.Proofs.YticcphppnmoogaaDoor
open Go.RowKit

theorem Exs.lit {w : World} {A : Option Addr} {n : Nat} {l : List Ex} (h : Exs w A n l) {i : Nat} {x : Ex} (hi : l[i]? = some x) :
    ∃ b o, A = some ⟨b, o, none⟩ ∧ b < w.heap.size ∧ (∀ j v, (exC x)[j]? = some v → w.cell? ⟨b, o + i * 4 + j, none⟩ = some v) ∧ ExOk w w.heap.size x := by
  obtain ⟨ad, rfl, hb, hc, hok⟩ := h.at_ hi
  have hil : i < l.length := (List.getElem?_eq_some_iff.1 hi).1
  have hl := h.n_
  obtain ⟨ad', e', _, hcc⟩ := h.row.2 (by omega)
  have e'' := Option.some.inj e'
  subst e''
  have hlen : 0 < (exsC l).length := by rw [exsC_len]; omega
  have e := addr_lit (hcc 0 _ (List.getElem?_eq_getElem hlen))
  refine ⟨ad.block, ad.off, by rw [← e], hb, fun j v hv => ?_, hok⟩
  have h1 := hc j v hv
  rw [add_of_add, e, Addr.add_lit] at h1
  rw [Nat.add_assoc]
  exact h1

theorem yieldsIf_loadA {P : Program} {ops : Array Oper} {S : World → Prop} {o : Oper} {a : Act} {v : Value} (hw : Region.wanted o (yielded ops a.tmps) = true) (ty : TypeId) (x : Operand) (ho : o.op = .load ty x) (ad : Addr) (u : Value) (hx : a.eval x = .pointer (some ad))
    (hL : ∀ w, S w → (loadVar ty ad).run P w = .ok u w) (hv : v = u := by rfl) : YieldsIf P ops S o v a := by
  subst hv
  exact .inl ⟨hw, fun w hS => by unfold execOp; simp only [ho, hx, Instr.loadAt, Instr.sureAddr, Sem.run_bind, Sem.run_pure, Result.andThen_ok, hL w hS]⟩

/-- The one operation that is ready, its guard true. -/
theorem wpAnyX_oneG {P : Program} {md : Region.Mode} {l : List Oper} {S : World → Prop} {Q : Exit → Act → World → Prop} {X : List Nat} {k f : Nat} {s : Array Bool} {o : Oper} {a : Act} {w : World} (ho : l[k]? = some o) (hr : Region.ready md l.toArray s = [k])
    (hg : Region.wanted o (yielded l.toArray a.tmps) = true)
    (h : o.wp P a w (fun a' w' => (X.contains k = false → S w') ∧ wpAnyX P md l.toArray Q S X f (s.setIfInBounds k true) a' w') Q) : wpAnyX P md l.toArray Q S X (f + 1) s a w := by
  refine ⟨fun h0 => (by rw [hr] at h0; cases h0), ?_⟩
  rw [hr]
  intro i hi
  obtain rfl : i = k := by simpa using hi
  have hi' : l.toArray[i]? = some o := by simpa using ho
  unfold wpOp
  simp only [hi', hg, if_true]
  exact .inl h

end Go.Proofs.YticcphppnmoogaaDoor
