/-
  '==' and '!=' on rows.
-/
import Derived.Test.YtfhgjangeicbjaaDoorRow
import Derived.Laws.StructEq
namespace Go.Proofs.YtfhgjangeicbjaaDoor
open Go Go.RowKit

theorem row_guard : Tryd.prog.eqGuardType Tryd.prog.depth 40 = false := by kernel_rfl
theorem row_stood : Tryd.prog.stoodInHeld 40 = false := by kernel_rfl
theorem row_fields : Tryd.prog.underlying 40 = some (.struct (Tryd.prog.fieldsOf 40)) := by kernel_rfl

theorem run_row_equalIn (d : Nat) (a b c a' b' c' : Int) (w : World) :
    (Op.equalIn (d + 2) 40 (.agg #[.int .i64 a, .int .i64 b, .int .i64 c]) (.agg #[.int .i64 a', .int .i64 b', .int .i64 c'])).run Tryd.prog w = .ok (rowEq ⟨a, b, c⟩ ⟨a', b', c'⟩) w := by
  rw [run_equalIn_struct w (d + 1) 40 _ _ row_fields row_stood]
  simp [Program.fieldsOf, Tryd.underlying40, Tryd.underlying3, go_sem, rowEq]
  by_cases h1 : a = a' <;> by_cases h2 : b = b' <;> by_cases h3 : c = c' <;> simp [h1, h2, h3]

theorem run_row_neq (a b c a' b' c' : Int) (w : World) :
    (binOp .neq 40 (.agg #[.int .i64 a, .int .i64 b, .int .i64 c]) (.agg #[.int .i64 a', .int .i64 b', .int .i64 c'])).run Tryd.prog w = .ok (.bool (!rowEq ⟨a, b, c⟩ ⟨a', b', c'⟩)) w := by
  rw [run_neq_struct, run_row_equalIn 9998]; rfl
theorem run_row_eql (a b c a' b' c' : Int) (w : World) :
    (binOp .eql 40 (.agg #[.int .i64 a, .int .i64 b, .int .i64 c]) (.agg #[.int .i64 a', .int .i64 b', .int .i64 c'])).run Tryd.prog w = .ok (.bool (rowEq ⟨a, b, c⟩ ⟨a', b', c'⟩)) w := by
  rw [run_eql_struct, run_row_equalIn 9998]; rfl
end Go.Proofs.YtfhgjangeicbjaaDoor
