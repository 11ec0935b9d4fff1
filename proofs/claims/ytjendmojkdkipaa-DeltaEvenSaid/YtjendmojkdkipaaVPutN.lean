/-
  The walk of (*rice.Writer).Put.
-/
import Derived.Test.YtjendmojkdkipaaVBits
import Derived.Test.YtjendmojkdkipaaLen64
namespace Go.Proofs.Ytjendmojkdkipaa
open Go Go.RowKit

set_option maxRecDepth 100000 in
theorem rice_no (b n : Nat) (k : Int) (w : World) (hk : k < 0 ∨ 40 < k) :
    Calls Try.prog 20 #[.pointer (some ⟨b, 0, none⟩), .int .u64 n, .int .i64 k] w fun e w' => e = .returned (.int .i64 1) ∧ w = w' := by
  have hc : decide (k < 0) = true ∨ (decide (k < 0) = false ∧ decide (40 < k) = true) := by
    simp only [decide_eq_true_eq, decide_eq_false_iff_not]; omega
  clear hk
  rcases hc with h1 | ⟨h1, h2⟩
  all_goals
    go_enter Try.func20, Try.ntmps20
    go_wp2_with fail
    go_ret
    exact ⟨rfl, rfl⟩
end Go.Proofs.Ytjendmojkdkipaa
