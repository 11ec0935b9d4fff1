/-
  Plain Lean: bytes in hexadecimal digits.
-/
import Derived.Test.YtfhgjangeicbjaaDoorZigPlain
namespace Go.Proofs.YtfhgjangeicbjaaDoor

/-- the digit of a number below 16 -/
def hexd (n : Nat) : UInt8 := if n < 10 then byt (48 + n) else byt (87 + n)

/-- two digits for each byte -/
def hex : List UInt8 → List UInt8
  | [] => []
  | x :: l => hexd (x.toNat / 16) :: hexd (x.toNat % 16) :: hex l

/-- the number of a digit; 16: it is none -/
def dig (c : UInt8) : Nat := if 48 ≤ c.toNat ∧ c.toNat ≤ 57 then c.toNat - 48 else if 97 ≤ c.toNat ∧ c.toNat ≤ 102 then c.toNat - 87 else 16

theorem dig_le (c : UInt8) : dig c ≤ 16 := by unfold dig; split <;> (try split) <;> omega

theorem hexd_toNat {n : Nat} (h : n < 16) : (hexd n).toNat = if n < 10 then 48 + n else 87 + n := by
  unfold hexd; split <;> rw [u8_lt _ (by omega)]

theorem dig_hexd {n : Nat} (h : n < 16) : dig (hexd n) = n := by
  unfold dig; rw [hexd_toNat h]; split <;> split <;> (try split) <;> omega

theorem hexd_dig {c : UInt8} (h : dig c < 16) : hexd (dig c) = c := by
  apply UInt8.toNat_inj.1
  rw [hexd_toNat h]
  have hc := c.toNat_lt
  by_cases h1 : 48 ≤ c.toNat ∧ c.toNat ≤ 57
  · have e : dig c = c.toNat - 48 := by unfold dig; rw [if_pos h1]
    rw [e, if_pos (by omega)]; omega
  · by_cases h2 : 97 ≤ c.toNat ∧ c.toNat ≤ 102
    · have e : dig c = c.toNat - 87 := by unfold dig; rw [if_neg h1, if_pos h2]
      rw [e, if_neg (by omega)]; omega
    · have e : dig c = 16 := by unfold dig; rw [if_neg h1, if_neg h2]
      omega

theorem hex_append (a b : List UInt8) : hex (a ++ b) = hex a ++ hex b := by
  induction a with
  | nil => rfl
  | cons x l ih => simp [hex, ih]

theorem hex_length (a : List UInt8) : (hex a).length = 2 * a.length := by
  induction a with
  | nil => rfl
  | cons x l ih => simp [hex, ih]; omega

theorem hex_snoc (a : List UInt8) (c : UInt8) : hex (a ++ [c]) = hex a ++ [hexd (c.toNat / 16)] ++ [hexd (c.toNat % 16)] := by
  rw [hex_append]; simp [hex]

theorem hex_inj : ∀ {a b x y : List UInt8}, a.length = b.length → hex a ++ x = hex b ++ y → a = b ∧ x = y := by
  intro a
  induction a with
  | nil => intro b x y hl h; cases b with
    | nil => exact ⟨rfl, h⟩
    | cons _ _ => simp at hl
  | cons c l ih =>
    intro b x y hl h
    cases b with
    | nil => simp at hl
    | cons d r =>
      simp only [hex, List.cons_append, List.cons.injEq] at h
      obtain ⟨h1, h2, h3⟩ := h
      obtain ⟨rfl, rfl⟩ := ih (by simpa using hl) h3
      refine ⟨?_, rfl⟩
      have e1 := congrArg dig h1
      have e2 := congrArg dig h2
      have hc := c.toNat_lt
      have hd := d.toNat_lt
      rw [dig_hexd (by omega), dig_hexd (by omega)] at e1
      rw [dig_hexd (by omega), dig_hexd (by omega)] at e2
      have : c.toNat = d.toNat := by omega
      rw [UInt8.toNat_inj.1 this]

theorem hex_inj' {a b : List UInt8} (h : hex a = hex b) : a = b := by
  have hl := congrArg List.length h
  rw [hex_length, hex_length] at hl
  exact (hex_inj (x := []) (y := []) (by omega) (by simpa using h)).1

/-- every digit of a byte's text is one -/
theorem hex_digits (a : List UInt8) : ∀ c ∈ hex a, dig c < 16 := by
  induction a with
  | nil => simp [hex]
  | cons x l ih =>
    have hx := x.toNat_lt
    intro c hc
    simp only [hex, List.mem_cons] at hc
    rcases hc with rfl | rfl | hc
    · rw [dig_hexd (by omega)]; omega
    · rw [dig_hexd (by omega)]; omega
    · exact ih c hc

/-- two digits are a byte's -/
theorem hex_pair {c d : UInt8} (hc : dig c < 16) (hd : dig d < 16) : hex [byt (16 * dig c + dig d)] = [c, d] := by
  have e : (byt (16 * dig c + dig d)).toNat = 16 * dig c + dig d := u8_lt _ (by omega)
  simp only [hex]
  rw [e, show (16 * dig c + dig d) / 16 = dig c by omega, show (16 * dig c + dig d) % 16 = dig d by omega, hexd_dig hc, hexd_dig hd]
end Go.Proofs.YtfhgjangeicbjaaDoor
