/-
  The walk of (*rice.Writer).Put.
-/
import Derived.Test.YtmllnfplahaccaaVBits
import Derived.Test.YtmllnfplahaccaaLen64
namespace Go.Proofs.Ytmllnfplahaccaa
open Go Go.RowKit

set_option maxRecDepth 100000 in
set_option maxHeartbeats 1000000 in
theorem wput_ok (R : Nat → Prop) (b : Nat) (s : WSt) (n k : Nat) (w : World) (h : WrOf R b s w) (hok : s.ok) (hn : n < 18446744073709551616) (hk : k ≤ 64) (hb : Lib.bitLen n ≤ k) (hl : s.L.length < 1099511626000) (hR : Old R w) :
    Calls Try.prog 28 #[.pointer (some ⟨b, 0, none⟩), .int .u64 n, .int .i64 k] w fun e w' => e = .returned (.int .i64 0) ∧ WrOf R b (s.all n k) w' ∧ Beside R b w w' := by
  have hk1 : decide ((k : Int) < 0) = false := decide_eq_false (by omega)
  have hk2 : decide ((64 : Int) < (k : Int)) = false := decide_eq_false (by omega)
  have A1 := Lib.hid (all_any R b s n k w h hok hn hk (by omega) hR)
  have L := Lib.hid (len64_any (n : Int) w (by omega) (by omega))
  rw [Int.toNat_natCast] at L
  generalize Lib.bitLen n = y at *
  have hd : decide ((k : Int) < (y : Int)) = false := decide_eq_false (by omega)
  have hd2 : ¬ k < y := by omega
  clear hn h hok
  go_enter Try.func28, Try.ntmps28
  go_wp2_with fail
  refine L.out.mono ?_
  rintro e w1 ⟨rfl, rfl⟩
  go_wp2_with fail
  refine A1.out.mono ?_
  rintro e w2 ⟨rfl, hW, hb2⟩
  go_wp2_with fail
  go_ret
  exact ⟨rfl, hW, hb2⟩

set_option maxRecDepth 100000 in
set_option maxHeartbeats 1000000 in
theorem wput_no (b n : Nat) (k : Int) (w : World) (hn : n < 18446744073709551616) (hk : k < 0 ∨ 64 < k ∨ k < (Lib.bitLen n : Int)) :
    Calls Try.prog 28 #[.pointer (some ⟨b, 0, none⟩), .int .u64 n, .int .i64 k] w fun e w' => e = .returned (.int .i64 1) ∧ w = w' := by
  have L := Lib.hid (len64_any (n : Int) w (by omega) (by omega))
  rw [Int.toNat_natCast] at L
  generalize Lib.bitLen n = y at *
  clear hn
  have hc : decide (k < 0) = true ∨ (decide (k < 0) = false ∧ decide (64 < k) = true) ∨ (decide (k < 0) = false ∧ decide (64 < k) = false ∧ decide (k < (y : Int)) = true) := by
    simp only [decide_eq_true_eq, decide_eq_false_iff_not]; omega
  clear hk
  rcases hc with h1 | ⟨h1, h2⟩ | ⟨h1, h2, h3⟩
  · go_enter Try.func28, Try.ntmps28
    go_wp2_with fail
    go_ret
    exact ⟨rfl, rfl⟩
  · go_enter Try.func28, Try.ntmps28
    go_wp2_with fail
    go_ret
    exact ⟨rfl, rfl⟩
  · go_enter Try.func28, Try.ntmps28
    go_wp2_with fail
    refine L.out.mono ?_
    rintro e w1 ⟨rfl, rfl⟩
    go_wp2_with fail
    go_ret
    exact ⟨rfl, rfl⟩

set_option maxRecDepth 100000 in
theorem rice_no (b n : Nat) (k : Int) (w : World) (hk : k < 0 ∨ 40 < k) :
    Calls Try.prog 15 #[.pointer (some ⟨b, 0, none⟩), .int .u64 n, .int .i64 k] w fun e w' => e = .returned (.int .i64 1) ∧ w = w' := by
  have hc : decide (k < 0) = true ∨ (decide (k < 0) = false ∧ decide (40 < k) = true) := by
    simp only [decide_eq_true_eq, decide_eq_false_iff_not]; omega
  clear hk
  rcases hc with h1 | ⟨h1, h2⟩
  all_goals
    go_enter Try.func15, Try.ntmps15
    go_wp2_with fail
    go_ret
    exact ⟨rfl, rfl⟩
end Go.Proofs.Ytmllnfplahaccaa
