/-
  The walk of the law 'RiceSmall'.
-/
import Derived.Test.YtmllnfplahaccaaWLen
namespace Go.Proofs.Ytmllnfplahaccaa
open Go Go.RowKit

theorem new_any (w : World) :
    Calls Try.prog 14 #[] w fun e w' => e = .returned (.pointer (some ⟨w.heap.size, 0, none⟩)) ∧ w' = w.alloc (.cells #[.pointer none, .slice none 0 0, .int .u64 0, .int .i64 0] 58) := by
  go_enter Try.func14, Try.ntmps14
  go_wp2_with fail
  go_ret
  exact ⟨rfl, rfl⟩

def WSt.none : WSt := ⟨[], 0, 0⟩
theorem none_ok : WSt.none.ok := by unfold WSt.ok WSt.none; decide
theorem new_wr (w : World) : WrOf (w.heap.size + 1) w.heap.size WSt.none (w.alloc (.cells #[.pointer none, .slice none 0 0, .int .u64 0, .int .i64 0] 58)) :=
  fresh_later (heap_alloc_new w _) (by omega)
theorem rice_ok {s : WSt} {n k : Nat} (h : s.ok) (hk : k ≤ 40) : (s.rice n k).ok ∧ (s.rice n k).L.length ≤ s.L.length + 20 := by
  unfold WSt.rice
  by_cases hq : 24 ≤ n / 2 ^ k
  · rw [if_pos hq]
    obtain ⟨h1, l1⟩ := all_ok 24 s 16777215 h
    obtain ⟨h2, l2⟩ := all_ok 64 _ n h1
    exact ⟨h2, by omega⟩
  · rw [if_neg hq]
    obtain ⟨h1, l1⟩ := all_ok (n / 2 ^ k + 1) s ((2 ^ (n / 2 ^ k) - 1) * 2) h
    obtain ⟨h2, l2⟩ := all_ok k _ (n % 2 ^ k) h1
    exact ⟨h2, by omega⟩

set_option maxRecDepth 100000 in
set_option maxHeartbeats 1000000 in
theorem riceSmall_walk (n k : Nat) (hn : n < 18446744073709551616) (hk : k < 256) (w : World) :
    Calls Try.prog 4 #[.int .u64 n, .int .u8 k] w fun e w' => e = .returned (.bool true) ∧ Below w.heap.size w w' := by
  obtain ⟨m, hm⟩ : ∃ m, m = k % 41 := ⟨_, rfl⟩
  have hmi : (k : Int) % 41 = (m : Int) := by omega
  have hm40 : m ≤ 40 := by omega
  obtain ⟨hok, hlen⟩ := rice_ok (n := n) (k := m) none_ok hm40
  have hl0 : WSt.none.L.length = 0 := rfl
  have N := Lib.hid (fun w => rice_any (w.heap.size + 1) w.heap.size WSt.none n m _ (new_wr w) none_ok hn hm40 (by rw [hl0]; omega) (by simp))
  have hb : (WSt.none.rice n m).len = costOne n m := by rw [rice_bits]; unfold WSt.len WSt.none; simp
  generalize WSt.none.rice n m = s at *
  have LN := Lib.hid (fun R b w h => len_any R b s w h hok (by omega))
  rw [hb] at LN
  have hc88 := costOne_le (n := n) hm40
  have hcost : m + 1 ≤ costOne n m ∧ (n < 2 ^ m → costOne n m = m + 1) ∧ (¬ n < 2 ^ m → m + 1 < costOne n m) := by
    have hp := Nat.two_pow_pos m
    refine ⟨?_, fun h => ?_, fun h => ?_⟩
    · unfold costOne; generalize n / 2 ^ m = q; split <;> omega
    · rw [costOne_small (by rw [Nat.div_eq_of_lt h]; omega), Nat.div_eq_of_lt h]; omega
    · have : 1 ≤ n / 2 ^ m := (Nat.le_div_iff_mul_le hp).2 (by rw [Nat.one_mul]; exact Nat.le_of_not_lt h)
      unfold costOne; generalize n / 2 ^ m = q at *; split <;> omega
  obtain ⟨h1, h2, h3⟩ := hcost
  generalize costOne n m = c at *
  have hd1 : decide ((c : Int) < (m : Int) + 1) = false := decide_eq_false (by omega)
  have hd2 : decide ((88 : Int) < (c : Int)) = false := decide_eq_false (by omega)
  have hmb : (m : Int) ≤ 40 := by omega
  have hpm : (2 : Nat) ^ m ≤ 1099511627776 := Nat.pow_le_pow_right (n := 2) (by decide) hm40
  have hpm0 := Nat.two_pow_pos m
  have hpi : (2 : Int) ^ m = ((2 ^ m : Nat) : Int) := by norm_cast
  have v2 : IntKind.u64.wrap ((2 : Int) ^ m) = (2 : Int) ^ m := IntWalk.u64_in _ (by omega)
  have hw1 : IntKind.u64.wrap (m : Int) = (m : Int) := IntWalk.u64_in _ (by omega)
  have hmn : min m 64 = m := by omega
  have hcase : (decide ((n : Int) < 2 ^ m) = true ∧ n < 2 ^ m ∧ ((c : Int) == (m : Int) + 1) = true) ∨ (decide ((n : Int) < 2 ^ m) = false ∧ ¬ n < 2 ^ m ∧ decide ((m : Int) + 1 < (c : Int)) = true) := by
    by_cases h : n < 2 ^ m
    · exact .inl ⟨decide_eq_true (by rw [hpi]; exact Int.ofNat_lt.2 h), h, by rw [beq_iff_eq]; have := h2 h; omega⟩
    · exact .inr ⟨decide_eq_false (by rw [hpi]; exact fun h' => h (Int.ofNat_lt.1 h')), h, decide_eq_true (by have := h3 h; omega)⟩
  clear hm hok hlen hl0 hb h1 h2 h3 hpm hpm0 hpi hn
  rcases hcase with ⟨hd3, hd4, hd5⟩ | ⟨hd3, hd4, hd5⟩
  all_goals
    go_enter Try.func4, Try.ntmps4
    go_wp2_with fail
    refine (new_any _).mono ?_
    rintro e w1 ⟨rfl, rfl⟩
    go_wp2_with fail
    refine (N.out _).mono ?_
    rintro e w1 ⟨rfl, hW1, hb1⟩
    go_wp2_with fail
    refine (LN.out _ _ _ hW1).mono ?_
    rintro e w2 ⟨rfl, hW2, hb2⟩
    go_wp2_with fail
    refine (LN.out _ _ _ hW2).mono ?_
    rintro e w3 ⟨rfl, hW3, hb3⟩
    go_wp2_with fail
    refine (LN.out _ _ _ hW3).mono ?_
    rintro e w4 ⟨rfl, hW4, hb4⟩
    go_wp2_with fail
    go_ret
    exact ⟨rfl, (Below.one w _).trans ((((hb1.trans hb2).trans hb3).trans hb4).below (Nat.le_refl _) (by omega))⟩
end Go.Proofs.Ytmllnfplahaccaa
