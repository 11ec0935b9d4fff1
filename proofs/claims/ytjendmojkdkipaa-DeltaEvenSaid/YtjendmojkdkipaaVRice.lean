/-
  The walks of (*rice.Writer).Rice and Len.
-/
import Derived.Test.YtjendmojkdkipaaVAll
namespace Go.Proofs.Ytjendmojkdkipaa
open Go Go.RowKit

theorem all_ok : ∀ (k : Nat) (s : WSt) (n : Nat), s.ok → (s.all n k).ok ∧ (s.all n k).L.length ≤ s.L.length + k / 8 + 1 := by
  intro k
  induction k using Nat.strongRecOn with
  | ind k ih =>
    intro s n h
    by_cases hc : 8 < k
    · rw [all_big hc]
      have h1 := put_ok (n := n / 2 ^ (k - 8) % 256) (k := 8) h (Nat.mod_lt _ (by decide)) (by omega)
      have h2 := put_len s (n / 2 ^ (k - 8) % 256) 8
      obtain ⟨h3, h4⟩ := ih (k - 8) (by omega) _ n h1
      exact ⟨h3, by omega⟩
    · rw [all_small hc]
      have h2 := put_len s (n % 2 ^ k) k
      exact ⟨put_ok h (Nat.mod_lt _ (Nat.two_pow_pos _)) (by omega), by omega⟩

/-- a number's code, put behind -/
def WSt.rice (s : WSt) (n k : Nat) : WSt := if 24 ≤ n / 2 ^ k then (s.all 16777215 24).all n 64 else (s.all ((2 ^ (n / 2 ^ k) - 1) * 2) (n / 2 ^ k + 1)).all (n % 2 ^ k) k

set_option maxRecDepth 100000 in
set_option maxHeartbeats 1000000 in
theorem rice_any (R : Nat → Prop) (b : Nat) (s : WSt) (n k : Nat) (w : World) (h : WrOf R b s w) (hok : s.ok) (hn : n < 18446744073709551616) (hk : k ≤ 40) (hl : s.L.length < 1099511626000) (hR : Old R w) :
    Calls Try.prog 20 #[.pointer (some ⟨b, 0, none⟩), .int .u64 n, .int .i64 k] w fun e w' => e = .returned (.int .i64 0) ∧ WrOf R b (s.rice n k) w' ∧ Beside R b w w' := by
  have hk1 : decide ((k : Int) < 0) = false := decide_eq_false (by omega)
  have hk2 : decide ((40 : Int) < (k : Int)) = false := decide_eq_false (by omega)
  have hki : (k : Int) ≤ 40 := by omega
  have hsh := shr_nat n k
  by_cases hq : 24 ≤ n / 2 ^ k
  · have hr : s.rice n k = (s.all 16777215 24).all n 64 := by unfold WSt.rice; rw [if_pos hq]
    rw [hr]
    obtain ⟨o1, l1⟩ := all_ok 24 s 16777215 hok
    have A1 := Lib.hid (all_any R b s 16777215 24 w h hok (by omega) (by omega) (by omega) hR)
    have A2 := Lib.hid (fun w h hR => all_any R b (s.all 16777215 24) n 64 w h o1 hn (by omega) (by omega) hR)
    clear hr h hok o1 l1
    generalize n / 2 ^ k = q at *
    have hd : decide ((24 : Int) ≤ (q : Int)) = true := decide_eq_true (by omega)
    go_enter Try.func20, Try.ntmps20
    go_wp2_with fail
    refine A1.out.mono ?_
    rintro e w1 ⟨rfl, hW1, hb1⟩
    go_wp2_with fail
    refine (A2.out _ hW1 (hR.mono hb1.size)).mono ?_
    rintro e w2 ⟨rfl, hW2, hb2⟩
    go_wp2_with fail
    go_ret
    exact ⟨rfl, hW2, hb1.trans hb2⟩
  · obtain ⟨q, hqd⟩ : ∃ q, q = n / 2 ^ k := ⟨_, rfl⟩
    have hr : s.rice n k = (s.all ((2 ^ q - 1) * 2) (q + 1)).all (n % 2 ^ k) k := by unfold WSt.rice; rw [if_neg hq, ← hqd]
    rw [hr]
    rw [← hqd] at hsh hq
    obtain ⟨o1, l1⟩ := all_ok (q + 1) s ((2 ^ q - 1) * 2) hok
    have hpq : (2 : Nat) ^ q ≤ 8388608 := Nat.pow_le_pow_right (n := 2) (by decide) (by omega : q ≤ 23)
    have hpq0 := Nat.two_pow_pos q
    have A1 := Lib.hid (all_any R b s ((2 ^ q - 1) * 2) (q + 1) w h hok (by omega) (by omega) (by omega) hR)
    have A2 := Lib.hid (fun w h hR => all_any R b (s.all ((2 ^ q - 1) * 2) (q + 1)) (n % 2 ^ k) k w h o1 (Nat.lt_of_le_of_lt (Nat.mod_le _ _) hn) (by omega) (by omega) hR)
    have hqi : (q : Int) < 24 := by omega
    have hpi : (2 : Int) ^ q = ((2 ^ q : Nat) : Int) := by norm_cast
    have w2 : IntKind.u64.wrap ((2 : Int) ^ q) = (2 : Int) ^ q := IntWalk.u64_in _ (by omega)
    have w3 : IntKind.u64.wrap ((2 : Int) ^ q - 1) = (2 : Int) ^ q - 1 := IntWalk.u64_in _ (by omega)
    have w4 : IntKind.u64.wrap (((2 : Int) ^ q - 1) * 2) = (((2 ^ q - 1) * 2 : Nat) : Int) := by rw [IntWalk.u64_in _ (by omega)]; omega
    have hmq : min q 64 = q := by omega
    have hmk : min k 64 = k := by omega
    have hpk : (2 : Nat) ^ k ≤ 1099511627776 := Nat.pow_le_pow_right (n := 2) (by decide) hk
    have hpk0 := Nat.two_pow_pos k
    have hpki : (2 : Int) ^ k = ((2 ^ k : Nat) : Int) := by norm_cast
    have v2 : IntKind.u64.wrap ((2 : Int) ^ k) = (2 : Int) ^ k := IntWalk.u64_in _ (by omega)
    have v3 : IntKind.u64.wrap ((2 : Int) ^ k - 1) = (2 : Int) ^ k - 1 := IntWalk.u64_in _ (by omega)
    have hw1 : IntKind.u64.wrap (k : Int) = (k : Int) := IntWalk.u64_in _ (by omega)
    have hmask := bits_mask .u64 64 (by decide) wraps_u64 k (by omega) (n : Int) (by omega) (by omega)
    have hmi : (n : Int) % 2 ^ k = ((n % 2 ^ k : Nat) : Int) := by norm_cast
    have hd : decide ((24 : Int) ≤ (q : Int)) = false := decide_eq_false (by omega)
    rw [show ((q + 1 : Nat) : Int) = (q : Int) + 1 by omega] at A1
    clear hr h hok o1 l1 hpq hpq0 hpi hpk hpk0 hpki hqd
    generalize (2 ^ q - 1) * 2 = v at *
    generalize n % 2 ^ k = y at *
    go_enter Try.func20, Try.ntmps20
    go_wp2_with fail
    refine A1.out.mono ?_
    rintro e w1 ⟨rfl, hW1, hb1⟩
    go_wp2_with fail
    refine (A2.out _ hW1 (hR.mono hb1.size)).mono ?_
    rintro e w2 ⟨rfl, hW2, hb2⟩
    go_wp2_with fail
    go_ret
    exact ⟨rfl, hW2, hb1.trans hb2⟩
end Go.Proofs.Ytjendmojkdkipaa
