/-
  '==' and '!=' on rows.
-/
import Derived.Test.YthmikefinibecaaRow
import Derived.Laws.StructEq
namespace Go.Proofs.Ythmikefinibecaa
open Go Go.RowKit

theorem row_guard : Try.prog.eqGuardType Try.prog.depth 36 = false := by kernel_rfl
theorem row_stood : Try.prog.stoodInHeld 36 = false := by kernel_rfl
theorem row_fields : Try.prog.underlying 36 = some (.struct (Try.prog.fieldsOf 36)) := by kernel_rfl

theorem run_row_equalIn (d : Nat) (a b c a' b' c' : Int) (w : World) :
    (Op.equalIn (d + 2) 36 (.agg #[.int .i64 a, .int .i64 b, .int .i64 c]) (.agg #[.int .i64 a', .int .i64 b', .int .i64 c'])).run Try.prog w = .ok (rowEq ⟨a, b, c⟩ ⟨a', b', c'⟩) w := by
  rw [run_equalIn_struct w (d + 1) 36 _ _ row_fields row_stood]
  simp [Program.fieldsOf, Try.underlying36, Try.underlying3, go_sem, rowEq]
  by_cases h1 : a = a' <;> by_cases h2 : b = b' <;> by_cases h3 : c = c' <;> simp [h1, h2, h3]

theorem run_row_neq (a b c a' b' c' : Int) (w : World) :
    (binOp .neq 36 (.agg #[.int .i64 a, .int .i64 b, .int .i64 c]) (.agg #[.int .i64 a', .int .i64 b', .int .i64 c'])).run Try.prog w = .ok (.bool (!rowEq ⟨a, b, c⟩ ⟨a', b', c'⟩)) w := by
  rw [run_neq_struct, run_row_equalIn 9998]; rfl
theorem run_row_eql (a b c a' b' c' : Int) (w : World) :
    (binOp .eql 36 (.agg #[.int .i64 a, .int .i64 b, .int .i64 c]) (.agg #[.int .i64 a', .int .i64 b', .int .i64 c'])).run Try.prog w = .ok (.bool (rowEq ⟨a, b, c⟩ ⟨a', b', c'⟩)) w := by
  rw [run_eql_struct, run_row_equalIn 9998]; rfl
end Go.Proofs.Ythmikefinibecaa
