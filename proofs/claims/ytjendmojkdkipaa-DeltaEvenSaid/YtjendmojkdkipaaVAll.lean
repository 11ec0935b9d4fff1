/-
  The walk of (*rice.Writer).all.
-/
import Derived.Test.YtjendmojkdkipaaVPut
namespace Go.Proofs.Ytjendmojkdkipaa
open Go Go.RowKit

theorem put_ok {s : WSt} {n k : Nat} (h : s.ok) (hn : n < 2 ^ k) (hk : k ≤ 8) : (s.put n k).ok := by
  obtain ⟨h1, h2⟩ := h
  unfold WSt.put
  by_cases hc : 8 ≤ s.m + k
  · rw [if_pos hc]
    exact ⟨by simp only; omega, by simp only; exact Nat.mod_lt _ (Nat.two_pow_pos _)⟩
  · rw [if_neg hc]
    refine ⟨by simp only; omega, ?_⟩
    simp only
    rw [Nat.pow_add]
    have : (s.a + 1) * 2 ^ k ≤ 2 ^ s.m * 2 ^ k := Nat.mul_le_mul_right _ h2
    rw [Nat.add_mul] at this
    omega
theorem put_len (s : WSt) (n k : Nat) : (s.put n k).L.length ≤ s.L.length + 1 := by
  unfold WSt.put; split <;> simp

/-- a number's low bits, put behind byte by byte -/
def WSt.all (s : WSt) (n k : Nat) : WSt := if 8 < k then (s.put (n / 2 ^ (k - 8) % 256) 8).all n (k - 8) else s.put (n % 2 ^ k) k
termination_by k
decreasing_by omega
theorem all_big {s : WSt} {n k : Nat} (h : 8 < k) : s.all n k = (s.put (n / 2 ^ (k - 8) % 256) 8).all n (k - 8) := by rw [WSt.all, if_pos h]
theorem all_small {s : WSt} {n k : Nat} (h : ¬ 8 < k) : s.all n k = s.put (n % 2 ^ k) k := by rw [WSt.all, if_neg h]

theorem mask8 {q : Nat} (h : q < 18446744073709551616) : bits .and .u64 (q : Int) 255 = ((q % 256 : Nat) : Int) := by
  have := bits_mask .u64 64 (by decide) wraps_u64 8 (by decide) (q : Int) (by omega) (by omega)
  rw [show ((q % 256 : Nat) : Int) = (q : Int) % 256 by omega]
  simpa using this

set_option maxRecDepth 100000 in
set_option maxHeartbeats 1000000 in
theorem all_any (R : Nat → Prop) (b : Nat) (s : WSt) (n k : Nat) (w : World) (h : WrOf R b s w) (hok : s.ok) (hn : n < 18446744073709551616) (hk : k ≤ 64) (hl : s.L.length < 1099511627000) (hR : Old R w) :
    Calls Try.prog 37 #[.pointer (some ⟨b, 0, none⟩), .int .u64 n, .int .i64 k] w fun e w' => e = .returned (.tuple #[]) ∧ WrOf R b (s.all n k) w' ∧ Beside R b w w' := by
  go_enter Try.func37, Try.ntmps37
  go_wp2_with fail
  go_loopw [2] (fun mv wr => ∃ (j : Nat) (r : WSt), mv = .int .i64 j ∧ j ≤ 64 ∧ WrOf R b r wr ∧ r.ok ∧ r.all n j = s.all n k ∧ r.L.length + j ≤ s.L.length + 64 ∧ Beside R b w wr) (fun mv _ => (intOf mv).toNat)
  case atStart => exact ⟨k, s, rfl, hk, h, hok, rfl, by omega, Beside.refl _ _ _⟩
  case round =>
    obtain ⟨j, r, rfl, hj, hW, hrok, hall, hrl, hbs⟩ := hrel
    have hRr : Old R wr := hR.mono hbs.size
    by_cases hc : 8 < j
    · obtain ⟨t, ht⟩ : ∃ t, t = j - 8 := ⟨_, rfl⟩
      rw [all_big hc, ← ht] at hall
      have hall' := Lib.hid hall
      have hti : (j : Int) - 8 = (t : Int) := by omega
      have ht56 : (t : Int) ≤ 56 := by omega
      have hd : decide ((8 : Int) < (j : Int)) = true := decide_eq_true (by omega)
      have hw1 : IntKind.u64.wrap (t : Int) = (t : Int) := IntWalk.u64_in _ (by omega)
      have hmn : min t 64 = t := by omega
      have hsh := shr_nat n t
      have hqb : n / 2 ^ t < 18446744073709551616 := Nat.lt_of_le_of_lt (Nat.div_le_self _ _) hn
      have hmk := mask8 hqb
      have P := Lib.hid (put_any R b r (n / 2 ^ t % 256) 8 wr hW hrok (Nat.mod_lt _ (by decide)) (by omega) (by omega) hRr)
      have hok2 := Lib.hid (put_ok (n := n / 2 ^ t % 256) (k := 8) hrok (Nat.mod_lt _ (by decide)) (by omega))
      have hl2 := Lib.hid (put_len r (n / 2 ^ t % 256) 8)
      have hq256 : n / 2 ^ t % 256 < 256 := Nat.mod_lt _ (by decide)
      have Hb := Lib.hid hbs
      obtain ⟨y, hy⟩ : ∃ y, y = n / 2 ^ t % 256 := ⟨_, rfl⟩
      rw [← hy] at P hok2 hl2 hall' hq256 hmk
      generalize n / 2 ^ t = q at hsh hmk
      have Ht := Lib.hid ht
      clear hy hW hrok hall hbs hqb ht
      go_wp2_with fail
      refine P.out.mono ?_
      rintro e w2 ⟨rfl, hW2, hb2⟩
      go_wp2_with fail
      go_roundw
      case rel => exact ⟨t, r.put y 8, by go_num, by omega, hW2, hok2.out, hall'.out, by have := hl2.out; have := Ht.out; omega, Hb.out.trans hb2⟩
      case measure => simp [intOf]; have := Ht.out; omega
    · have hd : decide ((8 : Int) < (j : Int)) = false := decide_eq_false (by omega)
      have P := Lib.hid (put_any R b r (n % 2 ^ j) j wr hW hrok (Nat.mod_lt _ (Nat.two_pow_pos _)) (by omega) (by omega) hRr)
      rw [all_small hc] at hall
      rw [hall] at P
      have hj8 : (j : Int) ≤ 8 := by omega
      have hw1 : IntKind.u64.wrap (j : Int) = (j : Int) := IntWalk.u64_in _ (by omega)
      have hmn : min j 64 = j := by omega
      have hpt : (2 : Nat) ^ j ≤ 256 := Nat.pow_le_pow_right (n := 2) (by decide) (by omega : j ≤ 8)
      have hpt0 := Nat.two_pow_pos j
      have hpi : (2 : Int) ^ j = ((2 ^ j : Nat) : Int) := by norm_cast
      have w2 : IntKind.u64.wrap ((2 : Int) ^ j) = (2 : Int) ^ j := IntWalk.u64_in _ (by omega)
      have w3 : IntKind.u64.wrap ((2 : Int) ^ j - 1) = (2 : Int) ^ j - 1 := IntWalk.u64_in _ (by omega)
      have hmask := bits_mask .u64 64 (by decide) wraps_u64 j (by omega) (n : Int) (by omega) (by omega)
      have hmi : (n : Int) % 2 ^ j = ((n % 2 ^ j : Nat) : Int) := by norm_cast
      have Hb := Lib.hid hbs
      clear hpt hpt0 hpi hW hrok hall hbs
      generalize n % 2 ^ j = y at *
      go_wp2_with fail
      refine P.out.mono ?_
      rintro e w2 ⟨rfl, hW2, hb2⟩
      go_wp2_with fail
      go_end0
      exact ⟨rfl, hW2, Hb.out.trans hb2⟩
end Go.Proofs.Ytjendmojkdkipaa
