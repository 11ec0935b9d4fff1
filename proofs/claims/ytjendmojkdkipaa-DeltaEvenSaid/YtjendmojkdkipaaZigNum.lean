/-
  Plain laws on the numbers of layer 1: what 'Fold' and 'Unfold' compute. Nothing of the program is named here.
-/
import Derived.WalkKit
import Derived.Laws.Bits64
import Derived.Lib.Zigzag
namespace Go.Proofs.Ytjendmojkdkipaa
open Go Go.RowKit

/-- the number of an integer: 0, -1, 1, -2, .. -/
def foldN (n : Int) : Nat := if 0 ≤ n then (2 * n).toNat else (-2 * n - 1).toNat
/-- the integer of a number -/
def unfoldN (k : Nat) : Int := if k % 2 = 0 then (k / 2 : Nat) else -((k / 2 : Nat) : Int) - 1

theorem foldN_lt {n : Int} (h0 : -9223372036854775808 ≤ n) (h1 : n ≤ 9223372036854775807) : foldN n < 18446744073709551616 := by
  unfold foldN; split <;> omega
theorem unfoldN_lo {k : Nat} (h : k < 18446744073709551616) : -9223372036854775808 ≤ unfoldN k := by
  unfold unfoldN; split <;> omega
theorem unfoldN_hi {k : Nat} (h : k < 18446744073709551616) : unfoldN k ≤ 9223372036854775807 := by
  unfold unfoldN; split <;> omega
theorem unfold_fold (n : Int) : unfoldN (foldN n) = n := by
  unfold unfoldN foldN; split <;> split <;> omega
theorem fold_unfold (k : Nat) : foldN (unfoldN k) = k := by
  unfold unfoldN foldN; split <;> split <;> omega
theorem foldN_small {n : Int} (h0 : -1000 ≤ n) (h1 : n ≤ 1000) : foldN n ≤ 2000 := by
  unfold foldN; split <;> omega
theorem foldN_inj {a b : Int} (h : foldN a = foldN b) : a = b := by
  have := congrArg unfoldN h; simpa [unfold_fold] using this

/-- 'uint64(n<<1) ^ uint64(n>>63)' -/
theorem fold_prog {n : Int} (h0 : -9223372036854775808 ≤ n) (h1 : n ≤ 9223372036854775807) :
    bits .xor .u64 (IntKind.u64.wrap (wrap64 (n * 2))) (IntKind.u64.wrap (n / 9223372036854775808)) = (foldN n : Int) := by
  by_cases h : 0 ≤ n
  · have e1 : IntKind.u64.wrap (wrap64 (n * 2)) = ((2 * n).toNat : Int) := by rw [IntKind.wrap_u64]; unfold wrap64; omega
    have e2 : IntKind.u64.wrap (n / 9223372036854775808) = ((0 : Nat) : Int) := by rw [IntKind.wrap_u64]; omega
    rw [e1, e2, bits_xor_u64_nat _ _ (by omega) (by omega)]
    unfold foldN; rw [if_pos h, Nat.xor_zero]
  · have e1 : IntKind.u64.wrap (wrap64 (n * 2)) = ((2 * n + 18446744073709551616).toNat : Int) := by rw [IntKind.wrap_u64]; unfold wrap64; omega
    have e2 : IntKind.u64.wrap (n / 9223372036854775808) = ((2 ^ 64 - 1 : Nat) : Int) := by
      have : n / 9223372036854775808 = -1 := by omega
      rw [this, IntKind.wrap_u64]; rfl
    rw [e1, e2, bits_xor_u64_nat _ _ (by omega) (by omega), Nat.xor_comm, Lib.xor_ones64 _ (by omega)]
    unfold foldN; rw [if_neg h]; omega

/-- 'int(n>>1) ^ -int(n&1)' -/
theorem unfold_prog {k : Nat} (h : k < 18446744073709551616) :
    bits .xor .i64 (wrap64 ((k : Int) / 2)) (wrap64 (-wrap64 (bits .and .u64 (k : Int) 1))) = unfoldN k := by
  rw [Lib.u64_and1 _ (by omega) (by omega)]
  have e1 : wrap64 ((k : Int) / 2) = ((k / 2 : Nat) : Int) := by unfold wrap64; omega
  by_cases hk : k % 2 = 0
  · have e2 : wrap64 (-wrap64 ((k : Int) % 2)) = ((0 : Nat) : Int) := by unfold wrap64; omega
    rw [e1, e2]
    show IntKind.i64.wrap ((BitVec.ofInt 64 ((k / 2 : Nat) : Int) ^^^ BitVec.ofInt 64 ((0 : Nat) : Int)).toNat : Int) = _
    have h1 : (BitVec.ofInt 64 ((k / 2 : Nat) : Int)).toNat = k / 2 := by
      rw [BitVec.ofInt_natCast, BitVec.toNat_ofNat]; exact Nat.mod_eq_of_lt (by omega)
    have h2 : (BitVec.ofInt 64 ((0 : Nat) : Int)).toNat = 0 := by decide
    rw [BitVec.toNat_xor, h1, h2, Nat.xor_zero, IntKind.wrap_i64]
    unfold unfoldN; rw [if_pos hk]; omega
  · have e2 : wrap64 (-wrap64 ((k : Int) % 2)) = -1 := by unfold wrap64; omega
    rw [e1, e2]
    show IntKind.i64.wrap ((BitVec.ofInt 64 ((k / 2 : Nat) : Int) ^^^ BitVec.ofInt 64 (-1)).toNat : Int) = _
    have h1 : (BitVec.ofInt 64 ((k / 2 : Nat) : Int)).toNat = k / 2 := by
      rw [BitVec.ofInt_natCast, BitVec.toNat_ofNat]; exact Nat.mod_eq_of_lt (by omega)
    have h2 : (BitVec.ofInt 64 (-1)).toNat = 2 ^ 64 - 1 := by decide
    rw [BitVec.toNat_xor, h1, h2, Nat.xor_comm, Lib.xor_ones64 _ (by omega), IntKind.wrap_i64]
    unfold unfoldN; rw [if_neg hk]; omega

theorem rfold_nonneg {n : Int} (h0 : 0 ≤ n) (h1 : n ≤ 9223372036854775807) : IntKind.u64.wrap (2 * IntKind.u64.wrap n) = (foldN n : Int) := by
  rw [IntKind.wrap_u64, IntKind.wrap_u64]; unfold foldN; rw [if_pos h0]; omega
theorem rfold_neg {n : Int} (h0 : n < 0) (h1 : -9223372036854775808 ≤ n) :
    IntKind.u64.wrap (IntKind.u64.wrap (2 * IntKind.u64.wrap (wrap64 (-wrap64 (n + 1)))) + 1) = (foldN n : Int) := by
  have : wrap64 (-wrap64 (n + 1)) = -(n + 1) := by unfold wrap64; omega
  rw [this, IntKind.wrap_u64, IntKind.wrap_u64, IntKind.wrap_u64]; unfold foldN; rw [if_neg (by omega)]; omega
theorem runfold_even {k : Nat} (he : k % 2 = 0) : (k : Int) / 2 = unfoldN k := by
  unfold unfoldN; rw [if_pos he]; omega
theorem runfold_odd {k : Nat} (he : ¬k % 2 = 0) : -((k : Int) / 2) - 1 = unfoldN k := by
  unfold unfoldN; rw [if_neg he]; omega
end Go.Proofs.Ytjendmojkdkipaa
