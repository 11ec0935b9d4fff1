/-
  The walk of the law 'ZigFolds'.
-/
import Derived.Test.YtedlfjheiabhpaaZigFold
namespace Go.Proofs.Ytedlfjheiabhpaa
open Go Go.RowKit

theorem zigFolds_walk (n : Int) (k : Nat) (h0 : -9223372036854775808 ≤ n) (h1 : n ≤ 9223372036854775807) (hk : k < 18446744073709551616) (w : World) :
    Calls Try.prog 3 #[.int .i64 n, .int .u64 k] w fun e w' => e = .returned (.bool true) ∧ Below w.heap.size w w' := by
  have f0 := foldN_lt h0 h1
  have u0 := unfoldN_lo hk
  have u1 := unfoldN_hi hk
  have e1 := Lib.hid (unfold_fold n)
  have e2 := Lib.hid (fold_unfold k)
  have e3 := Lib.hid (@foldN_small n)
  go_enter Try.func3, Try.ntmps3
  go_wp2_with fail
  refine (fold_any n _ h0 h1).mono ?_
  rintro e w' ⟨rfl, rfl⟩
  go_wp2_with fail
  refine (rfold_any n _ h0 h1).mono ?_
  rintro e w' ⟨rfl, rfl⟩
  go_wp2_with fail
  refine (unfold_any _ _ f0).mono ?_
  rintro e w' ⟨rfl, rfl⟩
  rw [e1.out]
  go_wp2_with fail
  refine (unfold_any _ _ hk).mono ?_
  rintro e w' ⟨rfl, rfl⟩
  go_wp2_with fail
  refine (fold_any _ _ u0 u1).mono ?_
  rintro e w' ⟨rfl, rfl⟩
  rw [e2.out]
  go_wp2_with fail
  all_goals go_ret
  · exact ⟨ret_bool (by have := e3.out ‹_› ‹_›; simp; omega), Below.refl _ _⟩
  · exact ⟨rfl, Below.refl _ _⟩
  · exact ⟨rfl, Below.refl _ _⟩
end Go.Proofs.Ytedlfjheiabhpaa
