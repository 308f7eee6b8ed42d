/-
  == between two revisions.
-/
import Derived.Test.YtkmdhmnjohlnaaaRevKP
import Derived.Test.YtkmdhmnjohlnaaaWordsI
import Derived.Laws.StructEq
namespace Go.Proofs.Ytkmdhmnjohlnaaa
open Go.RowKit

def rvEq (r s : Rv) : Bool := r.no == s.no && (r.seal_ == s.seal_ && r.size == s.size)
theorem part_0 (r : Rv) (w : World) : (part 3 (rvC r).toArray 0).run Try.prog w = .ok (.int .i64 r.no) w := by
  simp [part, isAgg, run_underlying Try.underlying3, rvC_0]
theorem part_33 (r : Rv) (w : World) : (part 3 (rvC r).toArray 33).run Try.prog w = .ok (.int .i64 r.size) w := by
  simp [part, isAgg, run_underlying Try.underlying3, rvC_33]
theorem part_1 (r : Rv) (w : World) : (part 25 (rvC r).toArray 1).run Try.prog w = .ok (.agg (r.seal_.map (Value.int .u8)).toArray) w := by
  have e : List.take 32 (rvC r).tail = r.seal_.map (Value.int .u8) := by
    have h : (r.seal_.map (Value.int .u8)).length = 32 := by simp [r.h]
    show List.take 32 (r.seal_.map (Value.int .u8) ++ [.int .i64 r.size]) = _
    rw [← h, List.take_left']
    rfl
  simp [part, isAgg, run_underlying Try.underlying25, e]

theorem three_of {α : Type} : ∀ {l : List α}, l.length = 3 → ∃ a b c, l = [a, b, c]
  | [a, b, c], _ => ⟨a, b, c, rfl⟩
  | [], h => by simp at h
  | [_], h => by simp at h
  | [_, _], h => by simp at h
  | _ :: _ :: _ :: _ :: _, h => by simp at h

theorem eq_gen (t : TypeId) (r s : Rv) (w : World) (ht : Try.prog.underlying t = some (.struct (Try.prog.fieldsOf t))) (hp : Try.prog.stoodInHeld t = false)
    (hf : (Try.prog.fieldsOf t).toList.map (fun f => (f.type, f.offset, decide (f.name = "_"))) = [(3, 0, false), (25, 1, false), (3, 33, false)]) :
    (Op.equalIn 10000 t (.agg (rvC r).toArray) (.agg (rvC s).toArray)).run Try.prog w = .ok (rvEq r s) w := by
  rw [show 10000 = 9999 + 1 from rfl, run_equalIn_struct w 9999 t _ _ ht hp]
  generalize (Try.prog.fieldsOf t).toList = fs at hf
  have hlen : fs.length = 3 := by have := congrArg List.length hf; simpa using this
  obtain ⟨f0, f1, f2, rfl⟩ := three_of hlen
  · clear hlen
    simp only [List.map_cons, List.map_nil, List.cons.injEq, Prod.mk.injEq, and_true, decide_eq_false_iff_not] at hf
    obtain ⟨⟨a0, b0, n0⟩, ⟨a1, b1, n1⟩, a2, b2, n2⟩ := hf
    have hA := run_equalIn_arr (P := Try.prog) w 9997 25 5 32 .u8 .u8 r.seal_ s.seal_ r.h s.h Try.underlying25 Try.underlying5 (by kernel_rfl)
    have hI : ∀ a b : Int, (Op.equalIn 9999 3 (.int .i64 a) (.int .i64 b)).run Try.prog w = .ok (a == b) w := fun a b => run_equalIn_int w 9998 3 .i64 .i64 a b Try.underlying3
    simp only [Op.eqFields, a0, b0, a1, b1, a2, b2, ne_eq, n0, n1, n2, not_false_eq_true, if_true, Sem.run_bind, part_0, Result.andThen_ok, hI]
    unfold rvEq
    cases e0 : (r.no == s.no)
    · simp
    · simp only [Bool.not_true, Bool.false_eq_true, if_false, Sem.run_bind, part_1, Result.andThen_ok, hA]
      cases e1 : (r.seal_ == s.seal_)
      · simp
      · simp only [Bool.not_true, Bool.false_eq_true, if_false, Sem.run_bind, part_33, Result.andThen_ok, hI]
        cases e2 : (r.size == s.size) <;> simp
theorem eq_rv (r s : Rv) (w : World) : (Op.equalIn 10000 36 (.agg (rvC r).toArray) (.agg (rvC s).toArray)).run Try.prog w = .ok (rvEq r s) w :=
  eq_gen _ r s w (by kernel_rfl) (by kernel_rfl) (by kernel_rfl)
theorem neq_rv (r s : Rv) (w : World) : (binOp .neq 36 (.agg (rvC r).toArray) (.agg (rvC s).toArray)).run Try.prog w = .ok (.bool (!rvEq r s)) w := by
  rw [run_neq_struct, eq_rv]; rfl
theorem neq_rv' (r s : Rv) (w : World) : (binOp .neq 27 (.agg (rvC r).toArray) (.agg (rvC s).toArray)).run Try.prog w = .ok (.bool (!rvEq r s)) w := by
  rw [run_neq_struct, eq_gen _ r s w (by kernel_rfl) (by kernel_rfl) (by kernel_rfl)]; rfl
theorem rvEq_iff (r s : Rv) : rvEq r s = true ↔ r = s := by
  unfold rvEq
  constructor
  · intro h
    simp at h
    obtain ⟨a, b, c, d⟩ := r
    obtain ⟨a', b', c', d'⟩ := s
    simp at h
    obtain ⟨rfl, rfl, rfl⟩ := h
    rfl
  · rintro rfl; simp

end Go.Proofs.Ytkmdhmnjohlnaaa
