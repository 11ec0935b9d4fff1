/-
  Plain Lean: the number of a file's name.
-/
import Derived.Test.YtbheoahpaidpmaaDoorManInv
namespace Go.Proofs.YtbheoahpaidpmaaDoor
open Go Go.RowKit

def numF (l : List UInt8) : Int := if l = fileB (numD l.tail) ∧ numD l.tail < 100000000000000 then numD l.tail else -1
theorem fileB_tail (m : Nat) : (fileB m).tail = Lib.decDigits m := rfl
theorem numF_file {m : Nat} (h : m < 100000000000000) : numF (fileB m) = m := by
  unfold numF
  rw [fileB_tail, numD_digits, if_pos ⟨rfl, h⟩]
theorem numF_some {l : List UInt8} (h : numF l ≠ -1) : ∃ m : Nat, numF l = m ∧ l = fileB m ∧ m < 100000000000000 := by
  unfold numF at h ⊢
  split
  · rename_i hc
    exact ⟨_, rfl, hc.1, hc.2⟩
  · rename_i hc
    rw [if_neg hc] at h
    exact absurd rfl h
theorem numF_none {l : List UInt8} (h : ∀ m : Nat, m < 100000000000000 → l ≠ fileB m) : numF l = -1 := by
  unfold numF
  rw [if_neg fun hc => h _ hc.2 hc.1]
theorem digits_short : ∀ {k m : Nat}, 0 < k → m < 10 ^ k → (Lib.decDigits m).length ≤ k
  | 0, _, h, _ => absurd h (by omega)
  | k + 1, m, _, h => by
    rw [Lib.decDigits]
    by_cases h10 : m < 10
    · rw [dif_pos h10]; simp
    · rw [dif_neg h10]
      have hk : 0 < k := by
        rcases Nat.eq_zero_or_pos k with rfl | hk
        · simp at h; omega
        · exact hk
      have := digits_short hk (show m / 10 < 10 ^ k by rw [Nat.pow_succ] at h; omega)
      simp
      omega
theorem digits_pos (m : Nat) : 0 < (Lib.decDigits m).length := by
  rw [Lib.decDigits]
  split <;> simp
theorem digits_all (m : Nat) : ∀ b ∈ Lib.decDigits m, 48 ≤ b.toNat ∧ b.toNat ≤ 57 := by
  induction m using Nat.strongRecOn with
  | ind m ih =>
    have hd : ∀ d, d < 10 → 48 ≤ (UInt8.ofNat (48 + d)).toNat ∧ (UInt8.ofNat (48 + d)).toNat ≤ 57 := fun d hd => by
      have : (UInt8.ofNat (48 + d)).toNat = (48 + d) % 256 := rfl
      omega
    intro b hb
    rw [Lib.decDigits] at hb
    by_cases h10 : m < 10
    · rw [dif_pos h10] at hb
      rw [List.mem_singleton] at hb
      subst hb
      exact hd m h10
    · rw [dif_neg h10] at hb
      rcases List.mem_append.1 hb with hb | hb
      · exact ih (m / 10) (by omega) b hb
      · rw [List.mem_singleton] at hb
        subst hb
        exact hd _ (by omega)
theorem fileB_len {m : Nat} (h : m < 100000000000000) : 2 ≤ (fileB m).length ∧ (fileB m).length ≤ 15 := by
  have h1 := digits_pos m
  have h2 := digits_short (k := 14) (by decide) (show m < 10 ^ 14 by exact h)
  unfold fileB
  simp only [List.length_cons, Int.toNat_natCast]
  omega
theorem numF_len {l : List UInt8} (h : l.length < 2 ∨ 15 < l.length) : numF l = -1 :=
  numF_none fun m hm e => by
    have := fileB_len hm
    rw [← e] at this
    omega
theorem numF_head {l : List UInt8} (h : ∀ x, l.head? = some x → x ≠ 102) : numF l = -1 :=
  numF_none fun m _ e => by
    subst e
    exact h 102 rfl rfl
theorem numF_digit {l : List UInt8} {i : Nat} {x : UInt8} (h : l[i]? = some x) (hi : 0 < i) (hx : x.toNat < 48 ∨ 57 < x.toNat) : numF l = -1 :=
  numF_none fun m _ e => by
    subst e
    obtain ⟨j, rfl⟩ : ∃ j, i = j + 1 := ⟨i - 1, by omega⟩
    unfold fileB at h
    rw [List.getElem?_cons_succ] at h
    have := digits_all _ x (List.mem_of_getElem? h)
    omega
theorem numD_fold : ∀ (l : List UInt8) (a : Nat), (∀ b ∈ l, b.toNat ≤ 57) → l.foldl (fun a b => a * 10 + (b.toNat - 48)) a < (a + 1) * 10 ^ l.length
  | [], a, _ => by simp
  | b :: l, a, h => by
    have h1 := numD_fold l (a * 10 + (b.toNat - 48)) fun x hx => h x (List.mem_cons_of_mem _ hx)
    have h2 := h b (List.mem_cons_self ..)
    rw [List.foldl_cons, List.length_cons, Nat.pow_succ]
    refine Nat.lt_of_lt_of_le h1 ?_
    have h3 : a * 10 + (b.toNat - 48) + 1 ≤ (a + 1) * 10 := by omega
    calc _ ≤ (a + 1) * 10 * 10 ^ l.length := Nat.mul_le_mul_right _ h3
      _ = (a + 1) * (10 ^ l.length * 10) := by rw [Nat.mul_assoc, Nat.mul_comm 10]
theorem numD_lt {l : List UInt8} (h : ∀ b ∈ l, b.toNat ≤ 57) : numD l < 10 ^ l.length := by
  have := numD_fold l 0 h
  unfold numD
  omega
end Go.Proofs.YtbheoahpaidpmaaDoor
