/-
  The walks of what writes integers and texts, of the program and of the document.
-/
import Derived.Test.YtjendmojkdkipaaZigUint
import Derived.Test.YtjendmojkdkipaaZigFold
namespace Go.Proofs.Ytjendmojkdkipaa
open Go Go.RowKit

set_option maxRecDepth 100000 in
set_option maxHeartbeats 1000000 in
theorem ruint_any (n : Nat) (w : World) (h : n < 18446744073709551616) :
    Calls Try.prog 22 #[.int .u64 n] w fun e w' => e = .returned (.string (S (uint n))) ∧ Below w.heap.size w w' := by
  have Hh := Lib.hid h
  clear h
  go_enter Try.func22, Try.ntmps22
  go_wp2
  go_loopw [0, 3] (fun x s wr => ∃ m pre, x = .int .u64 (m : Nat) ∧ m < 18446744073709551616 ∧ uint n = pre ++ uint m ∧ s = .string (S pre) ∧ (S pre).size + (uint m).length ≤ 10 ∧ Below w.heap.size w wr ∧ w.heap.size ≤ wr.heap.size) (fun x _ _ => (intOf x).toNat)
  case atStart => exact ⟨n, [], rfl, Hh.out, rfl, rfl, by have := uint_len_ten Hh.out; simpa [S_size] using this, Below.refl _ _, Nat.le_refl _⟩
  case round =>
    obtain ⟨m, pre, rfl, hm, hpre, rfl, hlen, hbel, hsz⟩ := hrel
    have Hpre := Lib.hid hpre
    clear hpre
    by_cases hlt : 127 < m
    · have hcv := run_one_string (P := Try.prog) wr (src := 37) (dst := 9) ((m : Int) % 128 + 128) (byt (m % 128 + 128)) (by rw [u8_lt _ (by omega)]; omega) Try.underlying37 Try.underlying5 Try.underlying9
      have Hub := Lib.hid (uint_big (show 128 ≤ m by omega))
      have hb1 : (S [byt (m % 128 + 128)]).size ≤ 1 := by simp [S_size]
      go_wp2
      go_roundw
      case rel => exact ⟨m / 128, pre ++ [byt (m % 128 + 128)], by go_num, by omega, by rw [Hpre.out, Hub.out]; simp, by rw [S_append], by rw [Hub.out] at hlen; simp [S_size] at hlen ⊢; omega, hbel.alloc hsz _, by simp; omega⟩
      case measure => simp [intOf]; omega
    · have hcv := run_one_string (P := Try.prog) wr (src := 37) (dst := 9) (m : Int) (byt m) (by rw [u8_lt _ (by omega)]) Try.underlying37 Try.underlying5 Try.underlying9
      have Hus := Lib.hid (uint_small (show m < 128 by omega))
      have hb1 : (S [byt m]).size ≤ 1 := by simp [S_size]
      go_wp2
      go_ret
      exact ⟨ret_str (by rw [Hpre.out, Hus.out, S_append]), hbel.alloc hsz _⟩

theorem int_any (n : Int) (w : World) (h0 : -9223372036854775808 ≤ n) (h1 : n ≤ 9223372036854775807) :
    Calls Try.prog 16 #[.int .i64 n] w fun e w' => e = .returned (.string (S (uint (foldN n)))) ∧ Below w.heap.size w w' := by
  have hf := foldN_lt h0 h1
  go_enter Try.func16, Try.ntmps16
  go_wp2_with fail
  refine (fold_any n _ h0 h1).mono ?_
  rintro e w' ⟨rfl, rfl⟩
  go_wp2_with fail
  refine (uint_any _ _ hf).mono ?_
  rintro e w' ⟨rfl, hb⟩
  go_wp2_with fail
  go_ret
  exact ⟨rfl, hb⟩

theorem rint_any (n : Int) (w : World) (h0 : -9223372036854775808 ≤ n) (h1 : n ≤ 9223372036854775807) :
    Calls Try.prog 23 #[.int .i64 n] w fun e w' => e = .returned (.string (S (uint (foldN n)))) ∧ Below w.heap.size w w' := by
  have hf := foldN_lt h0 h1
  go_enter Try.func23, Try.ntmps23
  go_wp2_with fail
  refine (rfold_any n _ h0 h1).mono ?_
  rintro e w' ⟨rfl, rfl⟩
  go_wp2_with fail
  refine (ruint_any _ _ hf).mono ?_
  rintro e w' ⟨rfl, hb⟩
  go_wp2_with fail
  go_ret
  exact ⟨rfl, hb⟩

/-- the bytes of a text -/
def text (l : List UInt8) : List UInt8 := uint l.length ++ l

end Go.Proofs.Ytjendmojkdkipaa
