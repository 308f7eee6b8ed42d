/-
  '==' and '!=' on a stat and itself.
-/
import Derived.Test.YtheffimpadccaaaRows
import Derived.Test.YtheffimpadccaaaWordsC
import Derived.Laws.StructEq
namespace Go.Proofs.Ytheffimpadccaaa
open Go.RowKit

theorem statS : Try.prog.underlying 24 = some (.struct (Try.prog.fieldsOf 24)) := by kernel_rfl
theorem statH : Try.prog.stoodInHeld 24 = false := by kernel_rfl
theorem statG : Try.prog.eqGuardType Try.prog.depth 24 = false := by kernel_rfl
theorem stat_self (d : Nat) (a b c e : Int) (w : World) : (Op.equalIn (d + 3) 24 (.agg #[.int .i64 a, .int .i64 b, .int .i64 c, .int .i64 e]) (.agg #[.int .i64 a, .int .i64 b, .int .i64 c, .int .i64 e])).run Try.prog w = .ok true w := by
  rw [run_equalIn_agg w (d + 2) 24 _ _ statS statH]
  simp only [Program.fieldsOf, Try.underlying24]
  simp [Op.eqFields, go_sem, Try.underlying3]
theorem stat_eql (a b c e : Int) (w : World) : (binOp .eql 24 (.agg #[.int .i64 a, .int .i64 b, .int .i64 c, .int .i64 e]) (.agg #[.int .i64 a, .int .i64 b, .int .i64 c, .int .i64 e])).run Try.prog w = .ok (.bool true) w := by
  rw [run_eql_struct, stat_self 9997 a b c e w]
  rfl
theorem stat_neq (a b c e : Int) (w : World) : (binOp .neq 24 (.agg #[.int .i64 a, .int .i64 b, .int .i64 c, .int .i64 e]) (.agg #[.int .i64 a, .int .i64 b, .int .i64 c, .int .i64 e])).run Try.prog w = .ok (.bool false) w := by
  rw [run_neq_struct, stat_self 9997 a b c e w]
  rfl

end Go.Proofs.Ytheffimpadccaaa
