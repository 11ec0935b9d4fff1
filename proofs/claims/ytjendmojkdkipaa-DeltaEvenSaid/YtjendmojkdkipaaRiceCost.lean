/-
  The walk of rice.Cost.
-/
import Derived.Test.YtjendmojkdkipaaRicePlain
import Derived.Test.YtjendmojkdkipaaOwn
namespace Go.Proofs.Ytjendmojkdkipaa
open Go Go.RowKit

set_option maxRecDepth 100000 in
set_option maxHeartbeats 1000000 in
theorem cost_in (A : Option Addr) (c : Nat) (l : List Nat) (k : Nat) (w : World) (hr : Rd w 1 A l.length (u64Cells l)) (hl : l.length ≤ 5000) (hk : k ≤ 40) (hx : ∀ x ∈ l, x < 18446744073709551616) :
    Calls Try.prog 35 #[.slice A l.length c, .int .i64 k] w fun e w' => e = .returned (.int .i64 (costN l k)) ∧ Below w.heap.size w w' := by
  have hk1 : decide ((k : Int) < 0) = false := decide_eq_false (by omega)
  have hk2 : decide ((40 : Int) < (k : Int)) = false := decide_eq_false (by omega)
  have hki : (k : Int) ≤ 40 := by omega
  have Hx := Lib.hid hx
  clear hx
  go_enter Try.func35, Try.ntmps35
  go_wp2
  go_loopw [5, 17] (fun n i wr => ∃ j : Nat, i = .int .i64 j ∧ j ≤ l.length ∧ n = .int .i64 (costN (l.take j) k : Nat) ∧ Below w.heap.size w wr) (fun _ i _ => l.length - (intOf i).toNat)
  case atStart => exact ⟨0, rfl, by omega, rfl, Below.refl _ _⟩
  case round =>
    obtain ⟨j, rfl, hj, rfl, hbel⟩ := hrel
    by_cases hlt : j < l.length
    · obtain ⟨b, off, rfl, hb, e0⟩ := u64_at (hr.below hbel) hlt
      have hsn := costN_snoc (l.take j) l[j] k
      rw [← nat_take hlt] at hsn
      have Hsn := Lib.hid hsn
      have hcn := costN_le hk (l.take j)
      have hxj := Hx.out _ (List.getElem_mem hlt)
      rw [List.length_take] at hcn
      have hcb : costN (l.take j) k ≤ 440000 := by omega
      generalize costN (l.take j) k = n at *
      generalize l[j] = x at *
      have hqi := shr_nat x k
      by_cases hq : x / 2 ^ k < 24
      · have Hq := Lib.hid (costOne_small hq)
        generalize x / 2 ^ k = q at *
        go_wp2_with fail
        go_roundw
        case rel => exact ⟨j + 1, by go_num, by omega, by rw [Hsn.out, Hq.out]; go_num, hbel⟩
        case measure => simp [intOf]; omega
      · have Hq := Lib.hid (costOne_big hq)
        generalize x / 2 ^ k = q at *
        have hq' : decide ((q : Int) < 24) = false := decide_eq_false (by omega)
        go_wp2_with fail
        go_roundw
        case rel => exact ⟨j + 1, by go_num, by omega, by rw [Hsn.out, Hq.out]; go_num, hbel⟩
        case measure => simp [intOf]; omega
    · obtain rfl : j = l.length := by omega
      rw [List.take_length]
      go_wp2_with fail
      go_ret
      exact ⟨rfl, hbel⟩

theorem cost_any (A : Option Addr) (c : Nat) (l : List Nat) (k : Int) (w : World) (hr : Rd w 1 A l.length (u64Cells l)) (hl : l.length ≤ 5000) (hx : ∀ x ∈ l, x < 18446744073709551616) :
    Calls Try.prog 35 #[.slice A l.length c, .int .i64 k] w fun e w' => e = .returned (.int .i64 (costZ l k)) ∧ Below w.heap.size w w' := by
  by_cases hk : 0 ≤ k ∧ k ≤ 40
  · have h := cost_in A c l k.toNat w hr hl (by omega) hx
    have e : costZ l k = costN l k.toNat := by unfold costZ; rw [if_neg (by omega)]
    rw [show ((k.toNat : Nat) : Int) = k by omega] at h
    rw [e]; exact h
  · have e : costZ l k = 0 := by unfold costZ; rw [if_pos (by omega)]
    rw [e]
    have hk' : k < 0 ∨ (decide (k < 0) = false ∧ decide (40 < k) = true) := by
      by_cases h : k < 0
      · exact .inl h
      · exact .inr ⟨decide_eq_false h, decide_eq_true (by omega)⟩
    clear hk e
    rcases hk' with hk | ⟨hk, hk2⟩
    all_goals
      go_enter Try.func35, Try.ntmps35
      go_wp2_with fail
      go_ret
      exact ⟨rfl, Below.refl _ _⟩
end Go.Proofs.Ytjendmojkdkipaa
