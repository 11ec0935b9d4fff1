/-
  Plain laws on how the document reads an integer: count the bytes that go on, add up from the last one, compare.
-/
import Derived.Test.YtfhgjangeicbjaaDoorZigPlain
namespace Go.Proofs.YtfhgjangeicbjaaDoor

/-- what groups of seven bits come to -/
def val : List UInt8 → Nat
  | [] => 0
  | c :: r => c.toNat % 128 + 128 * val r

theorem val_uint (n : Nat) : val (uint n) = n := by
  induction n using Nat.strongRecOn with
  | ind n ih =>
    by_cases hn : n < 128
    · rw [uint_small hn]; simp only [val]; rw [u8_lt _ (by omega)]; omega
    · rw [uint_big (by omega)]; simp only [val]; rw [u8_lt _ (by omega), ih _ (by omega)]; omega

theorem uint_split (n : Nat) : ∃ p c, uint n = p ++ [c] ∧ c.toNat < 128 ∧ ∀ x ∈ p, 128 ≤ x.toNat := by
  induction n using Nat.strongRecOn with
  | ind n ih =>
    by_cases hn : n < 128
    · exact ⟨[], byt n, by rw [uint_small hn]; rfl, by rw [u8_lt _ (by omega)]; exact hn, by simp⟩
    · obtain ⟨p, c, h1, h2, h3⟩ := ih (n / 128) (by omega)
      refine ⟨byt (n % 128 + 128) :: p, c, by rw [uint_big (by omega), h1]; rfl, h2, fun x hx => ?_⟩
      rcases List.mem_cons.1 hx with rfl | hx
      · rw [u8_lt _ (by omega)]; omega
      · exact h3 x hx

theorem get0_cases (l : List UInt8) : (∃ m k, get0 l = (m, k, 0)) ∨ get0 l = (0, 0, 10) ∨ get0 l = (0, 0, 11) := by
  by_cases h : (get0 l).2.2 = 0
  · exact .inl ⟨(get0 l).1, (get0 l).2.1, by rw [← h]⟩
  · obtain ⟨h1, h2, h3⟩ := scan_err l 0 0 h
    rcases h3 with h3 | h3
    · exact .inr (.inl (Prod.ext h1 (Prod.ext h2 h3)))
    · exact .inr (.inr (Prod.ext h1 (Prod.ext h2 h3)))

/-- the first byte that does not go on is the last one -/
theorem get0_at {l : List UInt8} {j : Nat} {c : UInt8} (hc : l[j]? = some c) (hc' : c.toNat < 128) (hall : ∀ (i : Nat) (x : UInt8), i < j → l[i]? = some x → 128 ≤ x.toNat) :
    (∃ m, get0 l = (m, j + 1, 0) ∧ uint m = l.take (j + 1) ∧ m < 18446744073709551616) ∨ get0 l = (0, 0, 11) := by
  rcases get0_cases l with ⟨m, k, h⟩ | h | h
  · obtain ⟨r, h1, h2, h3⟩ := get0_sound h
    obtain ⟨p, d, e1, e2, e3⟩ := uint_split m
    rw [e1] at h1
    have hj : j = p.length := by
      rcases Nat.lt_trichotomy j p.length with h | h | h
      · rw [h1, List.append_assoc, List.getElem?_append_left h] at hc
        have := e3 c (List.mem_of_getElem? hc)
        omega
      · exact h
      · have := hall p.length d h (by rw [h1, List.append_assoc, List.getElem?_append_right (Nat.le_refl _)]; simp)
        omega
    left
    refine ⟨m, ?_, ?_, h3⟩
    · rw [h, h2, e1]; simp [hj]
    · rw [e1, h1, hj]
      have : p.length + 1 = (p ++ [d]).length := by simp
      rw [this, List.take_left]
  · have := (scan_short l 0 0).1 (by have := congrArg (fun x => x.2.2) h; simpa [get0] using this)
    have := this.2 c (List.mem_of_getElem? hc)
    omega
  · exact .inr h

theorem get0_far {l : List UInt8} (h : 10 ≤ l.length) (hall : ∀ (i : Nat) (x : UInt8), i < 10 → l[i]? = some x → 128 ≤ x.toNat) : get0 l = (0, 0, 11) := by
  rcases get0_cases l with ⟨m, k, h'⟩ | h' | h'
  · obtain ⟨r, h1, h2, h3⟩ := get0_sound h'
    obtain ⟨p, d, e1, e2, e3⟩ := uint_split m
    have hl := uint_len_ten h3
    rw [e1] at h1 hl
    simp at hl
    have := hall p.length d (by omega) (by rw [h1, List.append_assoc, List.getElem?_append_right (Nat.le_refl _)]; simp)
    omega
  · have := (scan_short l 0 0).1 (by have := congrArg (fun x => x.2.2) h'; simpa [get0] using this)
    omega
  · exact h'

theorem get0_none {l : List UInt8} (h : l.length < 10) (hall : ∀ (i : Nat) (x : UInt8), l[i]? = some x → 128 ≤ x.toNat) : get0 l = (0, 0, 10) := by
  have h10 : (get0 l).2.2 = 10 := (scan_short l 0 0).2 ⟨by omega, fun c hc => by
    obtain ⟨i, hi⟩ := List.getElem?_of_mem hc
    exact hall i c hi⟩
  obtain ⟨h1, h2, _⟩ := scan_err l 0 0 (by show (get0 l).2.2 ≠ 0; omega)
  exact Prod.ext h1 (Prod.ext h2 h10)

/-- the bytes from a place on come to too much: they are none -/
theorem get0_much {l : List UInt8} {j i : Nat} {c : UInt8} (hc : l[j]? = some c) (hc' : c.toNat < 128) (hall : ∀ (i : Nat) (x : UInt8), i < j → l[i]? = some x → 128 ≤ x.toNat)
    (hv : 144115188075855871 < val ((l.take (j + 1)).drop (i + 1))) : get0 l = (0, 0, 11) := by
  rcases get0_at hc hc' hall with ⟨m, _, h2, h3⟩ | h
  · exfalso
    have key : ∀ (l : List UInt8) (i : Nat), 128 ^ i * val (l.drop i) ≤ val l := by
      intro l
      induction l with
      | nil => intro i; simp [val]
      | cons c l ih =>
        intro i
        cases i with
        | zero => simp
        | succ i =>
          have := ih i
          simp only [List.drop_succ_cons, val, Nat.pow_succ]
          have e : 128 ^ i * 128 * val (l.drop i) = 128 * (128 ^ i * val (l.drop i)) := by rw [Nat.mul_comm (128 ^ i) 128, Nat.mul_assoc]
          omega
    have := key (l.take (j + 1)) (i + 1)
    rw [← h2, val_uint, h2] at this
    have hp : 128 ^ 1 ≤ 128 ^ (i + 1) := Nat.pow_le_pow_right (by omega) (by omega)
    have h4 : 128 * val ((l.take (j + 1)).drop (i + 1)) ≤ 128 ^ (i + 1) * val ((l.take (j + 1)).drop (i + 1)) := Nat.mul_le_mul_right _ (by simpa using hp)
    omega
  · exact h

theorem get0_ne {l : List UInt8} {j : Nat} {c : UInt8} (hc : l[j]? = some c) (hc' : c.toNat < 128) (hall : ∀ (i : Nat) (x : UInt8), i < j → l[i]? = some x → 128 ≤ x.toNat)
    (hv : uint (val (l.take (j + 1))) ≠ l.take (j + 1)) : get0 l = (0, 0, 11) := by
  rcases get0_at hc hc' hall with ⟨m, _, h2, h3⟩ | h
  · exact absurd (by rw [← h2, val_uint]) hv
  · exact h

theorem get0_eq {l : List UInt8} {v j : Nat} (hv : v < 18446744073709551616) (hj : j < l.length) (h : uint v = l.take (j + 1)) : get0 l = (v, j + 1, 0) := by
  have h1 := get0_uint hv (l.drop (j + 1))
  rw [h, List.take_append_drop] at h1
  rw [h1]; simp; omega
end Go.Proofs.YtfhgjangeicbjaaDoor
