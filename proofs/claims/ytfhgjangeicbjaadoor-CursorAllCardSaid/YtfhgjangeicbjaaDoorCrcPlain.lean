/-
  Plain laws of layer 8: the sum of bytes, bit by bit and by halves of bytes; two texts that differ in one byte have two sums. Nothing of the program is named here.
-/
import Derived.WalkKit
namespace Go.Proofs.YtfhgjangeicbjaaDoor

/-- one bit more -/
def bit1 (x : Nat) : Nat := (x * 2 % 65536) ^^^ (if x.testBit 15 then 4129 else 0)
def bit4 (x : Nat) : Nat := bit1 (bit1 (bit1 (bit1 x)))
/-- one byte more, as the document has it -/
def crcByte (c b : Nat) : Nat := bit4 (bit4 (c ^^^ b * 256))
def crcFrom (c : Nat) : List UInt8 → Nat
  | [] => c
  | b :: l => crcFrom (crcByte c b.toNat) l
/-- the sum of bytes -/
def crc (l : List UInt8) : Nat := crcFrom 65535 l

theorem xor_lt16 {a b : Nat} (ha : a < 65536) (hb : b < 65536) : a ^^^ b < 65536 := Nat.xor_lt_two_pow (n := 16) ha hb

theorem bit1_lt (x : Nat) : bit1 x < 65536 := by
  unfold bit1; exact xor_lt16 (Nat.mod_lt _ (by decide)) (by split <;> decide)
theorem bit4_lt (x : Nat) : bit4 x < 65536 := bit1_lt _
theorem crcByte_lt (c b : Nat) : crcByte c b < 65536 := bit4_lt _
theorem crcFrom_lt : ∀ (l : List UInt8) (c : Nat), c < 65536 → crcFrom c l < 65536 := by
  intro l
  induction l with
  | nil => intro c h; exact h
  | cons b l ih => intro c _; exact ih _ (crcByte_lt _ _)
theorem crc_lt (l : List UInt8) : crc l < 65536 := crcFrom_lt l _ (by decide)

theorem crcFrom_append : ∀ (l m : List UInt8) (c : Nat), crcFrom c (l ++ m) = crcFrom (crcFrom c l) m := by
  intro l
  induction l with
  | nil => intro m c; rfl
  | cons b l ih => intro m c; exact ih m _

theorem dbl_xor (x y : Nat) : (x ^^^ y) * 2 % 65536 = (x * 2 % 65536) ^^^ (y * 2 % 65536) := by
  have h1 : (x ^^^ y) * 2 = (x * 2) ^^^ (y * 2) := by
    have := Nat.shiftLeft_xor_distrib (a := x) (b := y) (i := 1)
    simpa [Nat.shiftLeft_eq] using this
  have h2 := Nat.xor_mod_two_pow (a := x * 2) (b := y * 2) (n := 16)
  rw [h1]
  exact h2

theorem xlc (a b c : Nat) : a ^^^ (b ^^^ c) = b ^^^ (a ^^^ c) := by rw [← Nat.xor_assoc, Nat.xor_comm a b, Nat.xor_assoc]
theorem xor_zero {x y : Nat} (h : x ^^^ y = 0) : x = y := by
  have : (x ^^^ y) ^^^ y = y := by rw [h, Nat.zero_xor]
  rwa [Nat.xor_assoc, Nat.xor_self, Nat.xor_zero] at this
theorem xor_right_cancel' {a b c : Nat} (h : a ^^^ c = b ^^^ c) : a = b := by
  have := congrArg (· ^^^ c) h
  simpa [Nat.xor_assoc] using this
theorem xor_left_cancel' {a b c : Nat} (h : a ^^^ b = a ^^^ c) : b = c := by
  rw [Nat.xor_comm a b, Nat.xor_comm a c] at h
  exact xor_right_cancel' h

theorem bit1_xor (x y : Nat) : bit1 (x ^^^ y) = bit1 x ^^^ bit1 y := by
  unfold bit1
  rw [dbl_xor, Nat.testBit_xor]
  generalize x * 2 % 65536 = A
  generalize y * 2 % 65536 = B
  have hk : ∀ K : Nat, ((A ^^^ B) ^^^ (if (x.testBit 15 ^^ y.testBit 15) = true then K else 0)) = (A ^^^ (if x.testBit 15 = true then K else 0)) ^^^ (B ^^^ (if y.testBit 15 = true then K else 0)) := by
    intro K
    cases x.testBit 15 <;> cases y.testBit 15
    · simp
    · simp [Nat.xor_assoc]
    · simp only [Bool.xor_false, if_true, Bool.false_eq_true, if_false, Nat.xor_zero]
      rw [Nat.xor_assoc, Nat.xor_comm B K, ← Nat.xor_assoc]
    · simp only [Bool.xor_self, Bool.false_eq_true, if_false, if_true, Nat.xor_zero]
      rw [Nat.xor_assoc A K, xlc K B K, Nat.xor_self, Nat.xor_zero]
  exact hk 4129

theorem bit4_xor (x y : Nat) : bit4 (x ^^^ y) = bit4 x ^^^ bit4 y := by
  unfold bit4; rw [bit1_xor, bit1_xor, bit1_xor, bit1_xor]

theorem top_bit {x : Nat} (h : x < 65536) : x.testBit 15 = decide (32768 ≤ x) := by
  rw [Nat.testBit_eq_decide_div_mod_eq]
  by_cases h1 : 32768 ≤ x
  · have : x / 2 ^ 15 % 2 = 1 := by omega
    simp [this, h1]
  · have : x / 2 ^ 15 % 2 = 0 := by omega
    simp [this, h1]

theorem bit1_small {x : Nat} (h : x < 32768) : bit1 x = x * 2 := by
  unfold bit1; rw [top_bit (by omega)]
  have : decide (32768 ≤ x) = false := by simp; omega
  rw [this]; simp; omega
theorem bit1_large {x : Nat} (h0 : 32768 ≤ x) (h : x < 65536) : bit1 x = (x * 2 - 65536) ^^^ 4129 := by
  unfold bit1; rw [top_bit h]
  have : decide (32768 ≤ x) = true := by simp; omega
  have e : x * 2 % 65536 = x * 2 - 65536 := by omega
  rw [this, e]; simp

theorem bit4_low {x : Nat} (h : x < 4096) : bit4 x = x * 16 := by
  unfold bit4
  rw [bit1_small (by omega : x < 32768), bit1_small (by omega : x * 2 < 32768), bit1_small (by omega : x * 2 * 2 < 32768), bit1_small (by omega : x * 2 * 2 * 2 < 32768)]
  omega

/-- what half a byte comes to -/
def stepOf (n : Nat) : Nat := bit4 (n * 4096)

theorem split12 (c : Nat) : c = (c / 4096 * 4096) ^^^ (c % 4096) := by
  have h : c % 4096 < 2 ^ 12 := Nat.mod_lt _ (by decide)
  have h1 := Nat.two_pow_add_eq_or_of_lt h (c / 4096)
  have h2 : 2 ^ 12 * (c / 4096) ||| c % 4096 = (2 ^ 12 * (c / 4096)) ^^^ (c % 4096) := by
    apply Nat.eq_of_testBit_eq
    intro i
    rw [Nat.testBit_or, Nat.testBit_xor, Nat.testBit_two_pow_mul]
    by_cases hi : i < 12
    · have : ¬ 12 ≤ i := by omega
      simp [this]
    · have : (c % 4096).testBit i = false := Nat.testBit_lt_two_pow (Nat.lt_of_lt_of_le h (Nat.pow_le_pow_right (by decide) (by omega)))
      simp [this]
  rw [← h1] at h2
  have h3 : 2 ^ 12 * (c / 4096) = c / 4096 * 4096 := by rw [Nat.mul_comm]
  rw [h3] at h2
  rw [← h2]
  omega

/-- half a byte, by the table -/
theorem half (c h : Nat) : (c * 16 % 65536) ^^^ stepOf ((c / 4096) ^^^ h) = bit4 (c ^^^ h * 4096) := by
  have e1 : c ^^^ h * 4096 = (((c / 4096) ^^^ h) * 4096) ^^^ (c % 4096) := by
    have hs : ((c / 4096) ^^^ h) * 4096 = (c / 4096 * 4096) ^^^ (h * 4096) := by
      have := Nat.shiftLeft_xor_distrib (a := c / 4096) (b := h) (i := 12)
      simpa [Nat.shiftLeft_eq] using this
    rw [hs]
    conv => lhs; rw [split12 c]
    rw [Nat.xor_assoc, Nat.xor_assoc, Nat.xor_comm (c % 4096)]
  rw [e1, bit4_xor, bit4_low (Nat.mod_lt _ (by decide)), Nat.xor_comm]
  unfold stepOf
  congr 1
  omega

/-- a byte, by two halves -/
theorem byte_halves (c b : Nat) (hb : b < 256) : crcByte c b = ((((c * 16 % 65536) ^^^ stepOf ((c / 4096) ^^^ (b / 16))) * 16) % 65536) ^^^ stepOf ((((c * 16 % 65536) ^^^ stepOf ((c / 4096) ^^^ (b / 16))) / 4096) ^^^ (b % 16)) := by
  rw [half, half]
  unfold crcByte
  have e : b * 256 = (b / 16 * 4096) ^^^ (b % 16 * 256) := by
    have hs : b = (b / 16 * 16) ^^^ (b % 16) := by
      have key : ∀ x : Fin 256, x.val = (x.val / 16 * 16) ^^^ (x.val % 16) := by decide +kernel
      exact key ⟨b, hb⟩
    have h1 := Nat.shiftLeft_xor_distrib (a := b / 16 * 16) (b := b % 16) (i := 8)
    rw [← hs] at h1
    simp only [Nat.shiftLeft_eq] at h1
    have h2 : b * 256 = b / 16 * 16 * 256 ^^^ b % 16 * 256 := h1
    rw [h2, Nat.mul_assoc]
  have e2 : bit4 (b % 16 * 256) = b % 16 * 4096 := by rw [bit4_low (by omega)]; omega
  rw [e, ← Nat.xor_assoc, bit4_xor (c ^^^ b / 16 * 4096), e2]

/-! two sums -/
theorem bit1_zero {x : Nat} (h : x < 65536) (h0 : bit1 x = 0) : x = 0 := by
  by_cases hx : x < 32768
  · rw [bit1_small hx] at h0; omega
  · rw [bit1_large (by omega) h] at h0
    have := xor_zero h0
    omega
theorem bit1_inj {x y : Nat} (hx : x < 65536) (hy : y < 65536) (h : bit1 x = bit1 y) : x = y := by
  refine xor_zero (bit1_zero (xor_lt16 hx hy) ?_)
  rw [bit1_xor, h, Nat.xor_self]
theorem bit4_inj {x y : Nat} (hx : x < 65536) (hy : y < 65536) (h : bit4 x = bit4 y) : x = y :=
  bit1_inj hx hy (bit1_inj (bit1_lt _) (bit1_lt _) (bit1_inj (bit1_lt _) (bit1_lt _) (bit1_inj (bit1_lt _) (bit1_lt _) h)))
theorem crcByte_inj {c d b e : Nat} (hc : c < 65536) (hd : d < 65536) (hb : b < 256) (he : e < 256) (h : crcByte c b = crcByte d e) : c ^^^ b * 256 = d ^^^ e * 256 := by
  unfold crcByte at h
  exact bit4_inj (xor_lt16 hc (by omega)) (xor_lt16 hd (by omega)) (bit4_inj (bit4_lt _) (bit4_lt _) h)
theorem crcByte_left {c d b : Nat} (hc : c < 65536) (hd : d < 65536) (hb : b < 256) (h : crcByte c b = crcByte d b) : c = d := by
  have := crcByte_inj hc hd hb hb h
  exact xor_right_cancel' this
theorem crcByte_right {c b e : Nat} (hc : c < 65536) (hb : b < 256) (he : e < 256) (h : crcByte c b = crcByte c e) : b = e := by
  have := crcByte_inj hc hc hb he h
  have := xor_left_cancel' this
  omega
theorem crcFrom_inj : ∀ (l : List UInt8) (c d : Nat), c < 65536 → d < 65536 → crcFrom c l = crcFrom d l → c = d := by
  intro l
  induction l with
  | nil => intro c d _ _ h; exact h
  | cons b l ih =>
    intro c d hc hd h
    exact crcByte_left hc hd b.toNat_lt (ih _ _ (crcByte_lt _ _) (crcByte_lt _ _) h)
/-- one byte changed: another sum -/
theorem crc_changed {l m : List UInt8} {b e : UInt8} (h : crc (l ++ b :: m) = crc (l ++ e :: m)) : b = e := by
  unfold crc at h
  rw [crcFrom_append, crcFrom_append] at h
  have := crcFrom_inj m _ _ (crcByte_lt _ _) (crcByte_lt _ _) h
  have := crcByte_right (crcFrom_lt l _ (by decide)) b.toNat_lt e.toNat_lt this
  exact UInt8.toNat_inj.1 this

theorem stepOf_table : (List.range 16).map stepOf = [0, 4129, 8258, 12387, 16516, 20645, 24774, 28903, 33032, 37161, 41290, 45419, 49548, 53677, 57806, 61935] := by decide +kernel
end Go.Proofs.YtfhgjangeicbjaaDoor
