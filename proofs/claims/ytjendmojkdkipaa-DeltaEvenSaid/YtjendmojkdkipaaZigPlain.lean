/-
  Plain laws of layer 1: integers as bytes, and how they are read. Nothing of the program is named here.
-/
import Derived.Test.YtjendmojkdkipaaZigNum
namespace Go.Proofs.Ytjendmojkdkipaa

/-- a number as a byte -/
def byt (n : Nat) : UInt8 := UInt8.ofNat n

/-- the bytes of a number -/
def uint (n : Nat) : List UInt8 := if n < 128 then [byt n] else byt (n % 128 + 128) :: uint (n / 128)
termination_by n
decreasing_by omega

theorem uint_small {n : Nat} (h : n < 128) : uint n = [byt n] := by rw [uint, if_pos h]
theorem uint_big {n : Nat} (h : 128 ≤ n) : uint n = byt (n % 128 + 128) :: uint (n / 128) := by rw [uint, if_neg (by omega)]

theorem u8_lt (n : Nat) (h : n < 256) : (byt n).toNat = n := by
  unfold byt; rw [UInt8.toNat_ofNat']; omega
theorem byt_toNat (c : UInt8) : byt c.toNat = c := by unfold byt; simp

theorem uint_pos (n : Nat) : 0 < (uint n).length := by
  rw [uint]; split <;> simp

theorem uint_len_le : ∀ (k n : Nat), n < 128 ^ (k + 1) → (uint n).length ≤ k + 1 := by
  intro k
  induction k with
  | zero => intro n h; rw [uint_small (by simpa using h)]; simp
  | succ k ih =>
    intro n h
    by_cases hn : n < 128
    · rw [uint_small hn]; simp
    · rw [uint_big (by omega)]
      have := ih (n / 128) (by rw [Nat.pow_succ] at h; omega)
      simp; omega

theorem uint_len_ten {n : Nat} (h : n < 18446744073709551616) : (uint n).length ≤ 10 :=
  uint_len_le 9 n (by have : (128 : Nat) ^ (9 + 1) = 1180591620717411303424 := by decide
                      omega)

theorem lt_pow_len (n : Nat) : n < 128 ^ (uint n).length := by
  induction n using Nat.strongRecOn with
  | ind n ih =>
    by_cases hn : n < 128
    · rw [uint_small hn]; simpa using hn
    · rw [uint_big (by omega)]
      have := ih (n / 128) (by omega)
      simp only [List.length_cons, Nat.pow_succ]
      omega

theorem pow_len_le (n : Nat) (h : 1 < (uint n).length) : 128 ^ ((uint n).length - 1) ≤ n := by
  induction n using Nat.strongRecOn with
  | ind n ih =>
    by_cases hn : n < 128
    · rw [uint_small hn] at h; simp at h
    · rw [uint_big (by omega)]
      simp only [List.length_cons, Nat.add_sub_cancel]
      by_cases h1 : 1 < (uint (n / 128)).length
      · have := ih (n / 128) (by omega) h1
        obtain ⟨k, hk⟩ : ∃ k, (uint (n / 128)).length = k + 1 := ⟨_, (Nat.succ_pred_eq_of_pos (by omega)).symm⟩
        rw [hk] at this ⊢
        simp only [Nat.add_sub_cancel] at this
        rw [Nat.pow_succ]; omega
      · have := uint_pos (n / 128)
        rw [show (uint (n / 128)).length = 1 by omega]; omega

/-- reading on: i bytes were read, which come to acc -/
def scan (i acc : Nat) : List UInt8 → Nat × Nat × Nat
  | [] => if 10 ≤ i then (0, 0, 11) else (0, 0, 10)
  | c :: r =>
    if 10 ≤ i then (0, 0, 11)
    else if i = 9 ∧ 1 < c.toNat then (0, 0, 11)
    else if c.toNat = 0 ∧ 0 < i then (0, 0, 11)
    else if c.toNat < 128 then (acc + c.toNat * 128 ^ i, i + 1, 0)
    else scan (i + 1) (acc + (c.toNat - 128) * 128 ^ i) r

/-- the number at the head of bytes: the number, how many bytes it takes, the error -/
def get0 (l : List UInt8) : Nat × Nat × Nat := scan 0 0 l

theorem scan_uint : ∀ (n i acc : Nat) (r : List UInt8), i + (uint n).length ≤ 10 → (0 < i → 0 < n) → n * 128 ^ i < 18446744073709551616 →
    scan i acc (uint n ++ r) = (acc + n * 128 ^ i, i + (uint n).length, 0) := by
  intro n
  induction n using Nat.strongRecOn with
  | ind n ih =>
    intro i acc r hl hp hb
    by_cases hn : n < 128
    · rw [uint_small hn] at hl ⊢
      simp only [List.length_singleton, List.singleton_append, scan, u8_lt n (by omega)] at hl ⊢
      rw [if_neg (by omega), if_neg (by
        rintro ⟨rfl, h1⟩
        have : (128 : Nat) ^ 9 = 9223372036854775808 := by decide
        rw [this] at hb; omega), if_neg (by rintro ⟨h1, h2⟩; have := hp h2; omega), if_pos hn]
    · have hq := uint_pos (n / 128)
      rw [uint_big (by omega)] at hl ⊢
      simp only [List.length_cons, List.cons_append, scan, u8_lt (n % 128 + 128) (by omega)] at hl ⊢
      rw [if_neg (by omega), if_neg (by omega), if_neg (by omega), if_neg (by omega), show n % 128 + 128 - 128 = n % 128 by omega]
      have e : 128 ^ (i + 1) = 128 * 128 ^ i := by rw [Nat.pow_succ, Nat.mul_comm]
      have hdm := Nat.div_add_mod n 128
      have key : n * 128 ^ i = n % 128 * 128 ^ i + n / 128 * 128 ^ (i + 1) := by
        rw [e, ← Nat.mul_assoc, ← Nat.add_mul]; congr 1; omega
      rw [ih (n / 128) (by omega) (i + 1) _ r (by omega) (fun _ => by omega) (by omega), key]
      simp only [Prod.mk.injEq, and_true]; omega

theorem get0_uint {n : Nat} (h : n < 18446744073709551616) (r : List UInt8) : get0 (uint n ++ r) = (n, (uint n).length, 0) := by
  have := scan_uint n 0 0 r (by have := uint_len_ten h; omega) (by omega) (by simpa using h)
  simpa [get0] using this

theorem scan_sound : ∀ (l : List UInt8) (i acc m k : Nat), scan i acc l = (m, k, 0) →
    ∃ n r, l = uint n ++ r ∧ m = acc + n * 128 ^ i ∧ k = i + (uint n).length ∧ (0 < i → 0 < n) ∧ k ≤ 10 ∧ (i = 9 → n ≤ 1) ∧ (i < 9 → n < 2 * 128 ^ (9 - i)) := by
  intro l
  induction l with
  | nil => intro i acc m k h; simp only [scan] at h; split at h <;> simp at h
  | cons c l ih =>
    intro i acc m k h
    simp only [scan] at h
    split at h
    · simp at h
    split at h
    · simp at h
    split at h
    · simp at h
    rename_i h10 h9 h0
    split at h
    · rename_i hc
      simp only [Prod.mk.injEq, and_true] at h
      refine ⟨c.toNat, l, ?_, h.1.symm, ?_, fun hi => by omega, by omega, fun hi => by omega, fun hi => ?_⟩
      · rw [uint_small hc, byt_toNat]; simp
      · rw [uint_small hc]; simp; omega
      · have : 128 ^ 1 ≤ 128 ^ (9 - i) := Nat.pow_le_pow_right (by omega) (by omega)
        omega
    · rename_i hc
      obtain ⟨n, r, hr, hm, hk, hp, hk10, h9', hlt⟩ := ih _ _ _ _ h
      have hcl := c.toNat_lt
      have hnp := hp (by omega)
      have hup := uint_pos n
      have hd : (n * 128 + (c.toNat - 128)) / 128 = n := by omega
      have hmod : (n * 128 + (c.toNat - 128)) % 128 = c.toNat - 128 := by omega
      have hu : uint (n * 128 + (c.toNat - 128)) = c :: uint n := by
        rw [uint_big (by omega), hd, hmod, show c.toNat - 128 + 128 = c.toNat by omega, byt_toNat]
      refine ⟨n * 128 + (c.toNat - 128), r, ?_, ?_, ?_, fun _ => by omega, hk10, fun hi => by omega, fun hi => ?_⟩
      · rw [hu, hr]; rfl
      · rw [hm, Nat.pow_succ, Nat.add_mul, Nat.mul_comm (128 ^ i) 128, ← Nat.mul_assoc]; omega
      · rw [hu, hk, List.length_cons]; omega
      · by_cases hi8 : i = 8
        · subst hi8; have := h9' rfl; simp; omega
        · have := hlt (by omega)
          rw [show 9 - i = (9 - (i + 1)) + 1 by omega, Nat.pow_succ]; omega

theorem get0_sound {l : List UInt8} {m k : Nat} (h : get0 l = (m, k, 0)) : ∃ r, l = uint m ++ r ∧ k = (uint m).length ∧ m < 18446744073709551616 := by
  obtain ⟨n, r, h1, h2, h3, _, _, _, h7⟩ := scan_sound l 0 0 m k h
  have : (128 : Nat) ^ 9 = 9223372036854775808 := by decide
  have h7' := h7 (by omega)
  simp only [Nat.sub_zero, this] at h7'
  simp at h2 h3
  subst h2
  exact ⟨r, h1, h3, by omega⟩

/-- an error leaves nothing else -/
theorem scan_err : ∀ (l : List UInt8) (i acc : Nat), (scan i acc l).2.2 ≠ 0 → (scan i acc l).1 = 0 ∧ (scan i acc l).2.1 = 0 ∧ ((scan i acc l).2.2 = 10 ∨ (scan i acc l).2.2 = 11) := by
  intro l
  induction l with
  | nil => intro i acc; simp only [scan]; split <;> simp
  | cons c l ih =>
    intro i acc
    simp only [scan]
    split
    · simp
    split
    · simp
    split
    · simp
    split
    · simp
    · exact ih _ _

/-- too short: less than ten bytes, all of which go on -/
theorem scan_short : ∀ (l : List UInt8) (i acc : Nat), (scan i acc l).2.2 = 10 ↔ i + l.length < 10 ∧ ∀ c ∈ l, 128 ≤ c.toNat := by
  intro l
  induction l with
  | nil => intro i acc; simp only [scan]; split <;> simp <;> omega
  | cons c l ih =>
    intro i acc
    simp only [scan]
    split
    · simp; omega
    split
    · rename_i h; simp; intro h'; omega
    split
    · rename_i h; simp; intro h' h''; omega
    split
    · rename_i h; simp; intro h' h''; omega
    · rename_i h
      rw [ih]
      simp only [List.length_cons, List.mem_cons, forall_eq_or_imp]
      constructor
      · rintro ⟨a, b⟩; exact ⟨by omega, by omega, b⟩
      · rintro ⟨a, _, b⟩; exact ⟨by omega, b⟩

theorem uint_init : ∀ (n : Nat) (c : UInt8), c ∈ (uint n).dropLast → 128 ≤ c.toNat := by
  intro n
  induction n using Nat.strongRecOn with
  | ind n ih =>
    intro c hc
    by_cases hn : n < 128
    · rw [uint_small hn] at hc; simp at hc
    · have hp := uint_pos (n / 128)
      rw [uint_big (by omega)] at hc
      rw [List.dropLast_cons_of_ne_nil (by intro e; rw [e] at hp; simp at hp)] at hc
      rcases List.mem_cons.1 hc with rfl | hc
      · rw [u8_lt _ (by omega)]; omega
      · exact ih _ (by omega) c hc

/-- bytes that begin with numbers' bytes are one way only -/
theorem uint_append_inj {a b : Nat} {x y : List UInt8} (ha : a < 18446744073709551616) (hb : b < 18446744073709551616) (h : uint a ++ x = uint b ++ y) : a = b ∧ x = y := by
  have h1 := get0_uint ha x
  rw [h, get0_uint hb y] at h1
  simp only [Prod.mk.injEq, and_true] at h1
  obtain rfl := h1.1
  exact ⟨rfl, by simpa using h⟩
end Go.Proofs.Ytjendmojkdkipaa
