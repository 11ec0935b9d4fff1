/-
  Plain Lean: a writer's bits.
-/
import Derived.Test.YtjendmojkdkipaaVRice
namespace Go.Proofs.Ytjendmojkdkipaa

theorem lowL_get {n b i : Nat} (h : i < (lowL n b).length) : (lowL n b)[i] = n.testBit (b - 1 - i) := by simp [lowL]

theorem lowL_split {a n k : Nat} (m : Nat) (hn : n < 2 ^ k) : lowL (a * 2 ^ k + n) (m + k) = lowL a m ++ lowL n k := by
  apply List.ext_getElem
  · simp [lowL_length]
  · intro i h1 h2
    rw [lowL_length] at h1
    rw [lowL_get]
    rw [Nat.mul_comm, Nat.testBit_two_pow_mul_add a hn]
    by_cases hi : i < m
    · rw [List.getElem_append_left (by rw [lowL_length]; exact hi), lowL_get, if_neg (by omega)]
      congr 1; omega
    · rw [List.getElem_append_right (by rw [lowL_length]; omega), lowL_get, if_pos (by omega)]
      congr 1; rw [lowL_length]; omega

theorem lowL_mod (n b : Nat) : lowL (n % 2 ^ b) b = lowL n b := by
  apply List.ext_getElem
  · simp [lowL_length]
  · intro i h1 h2
    rw [lowL_length] at h1
    rw [lowL_get, lowL_get, Nat.testBit_mod_two_pow]
    simp; omega

/-- a writer's bits -/
def WSt.bits (s : WSt) : List Bool := (s.L.flatMap fun c => lowL c.toNat 8) ++ lowL s.a s.m

theorem put_is {s : WSt} {n k : Nat} (hn : n < 2 ^ k) : (s.put n k).bits = s.bits ++ lowL n k := by
  unfold WSt.put
  have h0 : lowL (s.a * 2 ^ k + n) (s.m + k) = lowL s.a s.m ++ lowL n k := lowL_split _ hn
  by_cases hc : 8 ≤ s.m + k
  · rw [if_pos hc]
    obtain ⟨t, ht⟩ : ∃ t, t = s.m + k - 8 := ⟨_, rfl⟩
    obtain ⟨x, hx⟩ : ∃ x, x = s.a * 2 ^ k + n := ⟨_, rfl⟩
    rw [← ht, ← hx]
    rw [← hx] at h0
    unfold WSt.bits
    simp only [List.flatMap_append, List.flatMap_singleton]
    have e1 : (byt (x / 2 ^ t)).toNat = x / 2 ^ t % 2 ^ 8 := by unfold byt; rw [UInt8.toNat_ofNat']
    have e2 : lowL x (s.m + k) = lowL (x / 2 ^ t) 8 ++ lowL (x % 2 ^ t) t := by
      have := lowL_split (a := x / 2 ^ t) (n := x % 2 ^ t) (k := t) 8 (Nat.mod_lt _ (Nat.two_pow_pos _))
      rw [Nat.mul_comm, Nat.div_add_mod] at this
      rw [← this]; congr 1; omega
    rw [e1, lowL_mod, List.append_assoc, ← e2, h0, List.append_assoc]
  · rw [if_neg hc]
    unfold WSt.bits
    simp only
    rw [h0, List.append_assoc]

theorem all_is : ∀ (k : Nat) (s : WSt) (n : Nat), (s.all n k).bits = s.bits ++ lowL n k := by
  intro k
  induction k using Nat.strongRecOn with
  | ind k ih =>
    intro s n
    by_cases hc : 8 < k
    · rw [all_big hc, ih (k - 8) (by omega), put_is (n := n / 2 ^ (k - 8) % 256) (k := 8) (Nat.mod_lt _ (by decide)), List.append_assoc]
      congr 1
      have := lowL_split (a := n / 2 ^ (k - 8)) (n := n % 2 ^ (k - 8)) (k := k - 8) 8 (Nat.mod_lt _ (Nat.two_pow_pos _))
      rw [Nat.mul_comm, Nat.div_add_mod, lowL_mod, show 8 + (k - 8) = k by omega] at this
      rw [this]
      congr 1
      exact lowL_mod _ 8
    · rw [all_small hc, put_is (Nat.mod_lt _ (Nat.two_pow_pos _)), lowL_mod]

theorem low_ones : lowL 16777215 24 = List.replicate 24 true := by decide
set_option maxRecDepth 100000 in
theorem low_unary : ∀ q : Fin 24, lowL ((2 ^ q.val - 1) * 2) (q.val + 1) = List.replicate q.val true ++ [false] := by decide

theorem rice_is (s : WSt) (n k : Nat) : (s.rice n k).bits = s.bits ++ codeL n k := by
  unfold WSt.rice codeL
  by_cases hq : 24 ≤ n / 2 ^ k
  · rw [if_pos hq, if_pos hq, all_is, all_is, low_ones, List.append_assoc]
  · rw [if_neg hq, if_neg hq, all_is, all_is, lowL_mod]
    have := low_unary ⟨n / 2 ^ k, by omega⟩
    simp only at this
    rw [this, List.append_assoc]
end Go.Proofs.Ytjendmojkdkipaa
