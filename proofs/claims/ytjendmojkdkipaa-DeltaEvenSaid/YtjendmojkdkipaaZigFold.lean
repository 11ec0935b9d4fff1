/-
  The walks of Fold and Unfold, of the program and of the document.
-/
import Derived.Test.YtjendmojkdkipaaBase
import Derived.Test.YtjendmojkdkipaaZigNum
namespace Go.Proofs.Ytjendmojkdkipaa
open Go Go.RowKit

theorem fold_any (n : Int) (w : World) (h0 : -9223372036854775808 ≤ n) (h1 : n ≤ 9223372036854775807) :
    Calls Try.prog 33 #[.int .i64 n] w fun e w' => e = .returned (.int .u64 (foldN n)) ∧ w = w' := by
  have H := Lib.hid (fold_prog h0 h1)
  clear h0 h1
  go_enter Try.func33, Try.ntmps33
  go_wp2
  go_ret
  exact ⟨by rw [← H.out]; rfl, rfl⟩

theorem unfold_any (k : Nat) (w : World) (h : k < 18446744073709551616) :
    Calls Try.prog 41 #[.int .u64 k] w fun e w' => e = .returned (.int .i64 (unfoldN k)) ∧ w = w' := by
  have H := Lib.hid (unfold_prog h)
  clear h
  go_enter Try.func41, Try.ntmps41
  go_wp2
  go_ret
  exact ⟨by rw [← H.out]; rfl, rfl⟩

theorem rfold_any (n : Int) (w : World) (h0 : -9223372036854775808 ≤ n) (h1 : n ≤ 9223372036854775807) :
    Calls Try.prog 24 #[.int .i64 n] w fun e w' => e = .returned (.int .u64 (foldN n)) ∧ w = w' := by
  by_cases h : 0 ≤ n
  · have H := Lib.hid (rfold_nonneg h h1)
    clear h0 h1
    go_enter Try.func24, Try.ntmps24
    go_wp2
    go_ret
    exact ⟨by rw [← H.out]; rfl, rfl⟩
  · have hn : n < 0 := by omega
    have H := Lib.hid (rfold_neg hn h0)
    clear h0 h1 h
    go_enter Try.func24, Try.ntmps24
    go_wp2
    go_ret
    exact ⟨by rw [← H.out]; rfl, rfl⟩

theorem runfold_any (k : Nat) (w : World) (h : k < 18446744073709551616) :
    Calls Try.prog 49 #[.int .u64 k] w fun e w' => e = .returned (.int .i64 (unfoldN k)) ∧ w = w' := by
  by_cases he : k % 2 = 0
  · have H := Lib.hid (runfold_even he)
    have ht : ((k : Int) % 2 == 0) = true := beq_iff_eq.2 (by omega)
    go_enter Try.func49, Try.ntmps49
    go_wp2
    go_ret
    exact ⟨ret_int H.out, rfl⟩
  · have H := Lib.hid (runfold_odd he)
    have ht : ((k : Int) % 2 == 0) = false := beq_eq_false_iff_ne.2 (by omega)
    go_enter Try.func49, Try.ntmps49
    go_wp2
    go_ret
    exact ⟨ret_int H.out, rfl⟩
end Go.Proofs.Ytjendmojkdkipaa
