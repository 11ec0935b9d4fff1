/-
  '==' and '!=' on rows.
-/
import Derived.Test.YtfhgjangeicbjaaRow
import Derived.Laws.StructEq
namespace Go.Proofs.Ytfhgjangeicbjaa
open Go Go.RowKit

theorem row_guard : Try.prog.eqGuardType Try.prog.depth 25 = false := by kernel_rfl
theorem row_stood : Try.prog.stoodInHeld 25 = false := by kernel_rfl
theorem row_fields : Try.prog.underlying 25 = some (.struct (Try.prog.fieldsOf 25)) := by kernel_rfl

theorem run_row_equalIn (d : Nat) (a b c a' b' c' : Int) (w : World) :
    (Op.equalIn (d + 2) 25 (.agg #[.int .i64 a, .int .i64 b, .int .i64 c]) (.agg #[.int .i64 a', .int .i64 b', .int .i64 c'])).run Try.prog w = .ok (rowEq ⟨a, b, c⟩ ⟨a', b', c'⟩) w := by
  rw [run_equalIn_struct w (d + 1) 25 _ _ row_fields row_stood]
  simp [Program.fieldsOf, Try.underlying25, Try.underlying3, go_sem, rowEq]
  by_cases h1 : a = a' <;> by_cases h2 : b = b' <;> by_cases h3 : c = c' <;> simp [h1, h2, h3]

theorem run_row_neq (a b c a' b' c' : Int) (w : World) :
    (binOp .neq 25 (.agg #[.int .i64 a, .int .i64 b, .int .i64 c]) (.agg #[.int .i64 a', .int .i64 b', .int .i64 c'])).run Try.prog w = .ok (.bool (!rowEq ⟨a, b, c⟩ ⟨a', b', c'⟩)) w := by
  rw [run_neq_struct, run_row_equalIn 9998]; rfl
theorem run_row_eql (a b c a' b' c' : Int) (w : World) :
    (binOp .eql 25 (.agg #[.int .i64 a, .int .i64 b, .int .i64 c]) (.agg #[.int .i64 a', .int .i64 b', .int .i64 c'])).run Try.prog w = .ok (.bool (rowEq ⟨a, b, c⟩ ⟨a', b', c'⟩)) w := by
  rw [run_eql_struct, run_row_equalIn 9998]; rfl
end Go.Proofs.Ytfhgjangeicbjaa
