/-
  Plain Lean: bits of bytes, numbers of bits, what a reader of bits takes.
-/
import Derived.Test.YtjendmojkdkipaaVBits
import Derived.Lib.BitFns
namespace Go.Proofs.Ytjendmojkdkipaa
open Go

/-- a number of bits, the highest one first -/
def numB (l : List Bool) : Nat := l.foldl (fun n b => 2 * n + b.toNat) 0
theorem numB_nil : numB [] = 0 := rfl
theorem numB_snoc (l : List Bool) (b : Bool) : numB (l ++ [b]) = 2 * numB l + b.toNat := by simp [numB]
theorem fold_acc : ∀ (m : List Bool) (a : Nat), m.foldl (fun n b => 2 * n + b.toNat) a = a * 2 ^ m.length + numB m := by
  intro m
  induction m with
  | nil => intro a; simp [numB]
  | cons b m ih =>
    intro a
    have h0 := ih (2 * 0 + b.toNat)
    unfold numB
    rw [List.foldl_cons, List.foldl_cons, ih, h0, List.length_cons, Nat.pow_succ]
    generalize numB m = z; generalize 2 ^ m.length = y
    rw [Nat.add_mul, Nat.add_mul, Nat.mul_comm 2 a, Nat.mul_assoc a, Nat.mul_comm 2 y]; omega
theorem numB_append (l m : List Bool) : numB (l ++ m) = numB l * 2 ^ m.length + numB m := by
  unfold numB
  rw [List.foldl_append, fold_acc]
  rfl
theorem numB_lt : ∀ (l : List Bool), numB l < 2 ^ l.length := by
  intro l
  induction l with
  | nil => simp [numB_nil]
  | cons b m ih =>
    have h := numB_append [b] m
    simp only [List.singleton_append] at h
    have hb : numB [b] ≤ 1 := by cases b <;> decide
    have hb2 : numB [b] * 2 ^ m.length ≤ 1 * 2 ^ m.length := Nat.mul_le_mul_right _ hb
    rw [h, List.length_cons, Nat.pow_succ]
    omega
theorem numB_cons (b : Bool) (l : List Bool) : numB (b :: l) = b.toNat * 2 ^ l.length + numB l := by
  have := numB_append [b] l
  simp only [List.singleton_append] at this
  rw [this]; congr 1; cases b <;> rfl
theorem numB_ones (q : Nat) : numB (List.replicate q true) = 2 ^ q - 1 := by
  induction q with
  | zero => rfl
  | succ q ih =>
    rw [List.replicate_succ, numB_cons, ih, List.length_replicate, Nat.pow_succ]
    have := Nat.two_pow_pos q
    simp; omega
theorem numB_zero {l : List Bool} : numB l = 0 ↔ ∀ b ∈ l, b = false := by
  induction l with
  | nil => simp [numB_nil]
  | cons b l ih =>
    rw [numB_cons]
    have := Nat.two_pow_pos l.length
    cases b
    · simp only [Bool.toNat_false, Nat.zero_mul, Nat.zero_add, ih, List.mem_cons, forall_eq_or_imp, true_and]
    · simp
theorem lowL_succ (n k : Nat) : lowL n (k + 1) = n.testBit k :: lowL n k := by
  unfold lowL
  rw [List.range_succ_eq_map, List.map_cons, List.map_map]
  congr 1
  apply List.map_congr_left
  intro i _
  simp only [Function.comp]
  congr 1; omega
theorem numB_low (n : Nat) : ∀ k, numB (lowL n k) = n % 2 ^ k := by
  intro k
  induction k with
  | zero => simp [lowL, numB_nil, Nat.mod_one]
  | succ k ih =>
    rw [lowL_succ, numB_cons, ih, lowL_length, Nat.mod_pow_succ, Nat.toNat_testBit, Nat.mul_comm, Nat.add_comm]

/-- the bits of bytes -/
def bitsOf (L : List UInt8) : List Bool := L.flatMap fun c => lowL c.toNat 8
theorem bitsOf_length (L : List UInt8) : (bitsOf L).length = 8 * L.length := by
  unfold bitsOf
  induction L with
  | nil => rfl
  | cons c L ih => rw [List.flatMap_cons, List.length_append, ih, lowL_length, List.length_cons]; omega
theorem bitsOf_cons (c : UInt8) (L : List UInt8) : bitsOf (c :: L) = lowL c.toNat 8 ++ bitsOf L := rfl
theorem bitsOf_append (L M : List UInt8) : bitsOf (L ++ M) = bitsOf L ++ bitsOf M := by simp [bitsOf]
theorem bitsOf_get : ∀ (L : List UInt8) (i o : Nat), o < 8 → (bitsOf L)[8 * i + o]? = (L[i]?).map fun c => c.toNat.testBit (7 - o) := by
  intro L
  induction L with
  | nil => intro i o _; simp [bitsOf]
  | cons c L ih =>
    intro i o ho
    rw [bitsOf_cons]
    cases i with
    | zero =>
      rw [Nat.mul_zero, Nat.zero_add, List.getElem?_append_left (by rw [lowL_length]; exact ho)]
      simp [lowL, ho]
    | succ i =>
      rw [List.getElem?_append_right (by rw [lowL_length]; omega), lowL_length, show 8 * (i + 1) + o - 8 = 8 * i + o by omega, ih i o ho]
      simp
theorem bitsOf_at (L : List UInt8) (j : Nat) : (bitsOf L)[j]? = (L[j / 8]?).map fun c => c.toNat.testBit (7 - j % 8) := by
  have := bitsOf_get L (j / 8) (j % 8) (Nat.mod_lt _ (by decide))
  rwa [Nat.div_add_mod] at this
theorem bitsOf_inj {L M : List UInt8} (h : bitsOf L = bitsOf M) : L = M := by
  have hl : L.length = M.length := by
    have := congrArg List.length h
    rw [bitsOf_length, bitsOf_length] at this; omega
  apply List.ext_getElem hl
  intro i h1 h2
  apply UInt8.toNat_inj.1
  apply Nat.eq_of_testBit_eq
  intro t
  by_cases ht : t < 8
  · have := congrArg (fun l => l[8 * i + (7 - t)]?) h
    simp only [bitsOf_get _ _ _ (show 7 - t < 8 by omega)] at this
    rw [List.getElem?_eq_getElem h1, List.getElem?_eq_getElem h2] at this
    have e : 7 - (7 - t) = t := by omega
    simpa [e] using this
  · have b1 : L[i].toNat < 2 ^ t := Nat.lt_of_lt_of_le (UInt8.toNat_lt _) (Nat.pow_le_pow_right (by decide) (by omega : 8 ≤ t))
    have b2 : M[i].toNat < 2 ^ t := Nat.lt_of_lt_of_le (UInt8.toNat_lt _) (Nat.pow_le_pow_right (by decide) (by omega : 8 ≤ t))
    rw [Nat.testBit_lt_two_pow b1, Nat.testBit_lt_two_pow b2]

/-- the part of a byte -/
theorem part_byte (L : List UInt8) (i o t : Nat) (hi : i < L.length) (h : o + t ≤ 8) : numB (((bitsOf L).drop (8 * i + o)).take t) = L[i].toNat / 2 ^ (8 - o - t) % 2 ^ t := by
  rw [← numB_low]
  congr 1
  apply List.ext_getElem?
  intro j
  rw [List.getElem?_take]
  by_cases hj : j < t
  · rw [if_pos hj, List.getElem?_drop, Nat.add_assoc, bitsOf_get _ _ _ (by omega), List.getElem?_eq_getElem hi, List.getElem?_eq_getElem (by rw [lowL_length]; exact hj), lowL_get, Nat.testBit_div_two_pow]
    simp only [Option.map_some]
    congr 2; omega
  · rw [if_neg hj, List.getElem?_eq_none (by rw [lowL_length]; omega)]

theorem take_add_num (l : List Bool) (j t : Nat) (h : j + t ≤ l.length) : numB (l.take (j + t)) = numB (l.take j) * 2 ^ t + numB ((l.drop j).take t) := by
  rw [List.take_add, numB_append, List.length_take, List.length_drop, Nat.min_eq_left (by omega)]

/-- how many bits 1 are at the head, m at most -/
def lead (l : List Bool) (m : Nat) : Nat := ((l.take m).takeWhile id).length
theorem lead_le (l : List Bool) (m : Nat) : lead l m ≤ m ∧ lead l m ≤ l.length := by
  have := (List.takeWhile_prefix (p := id) (l := l.take m)).length_le
  rw [List.length_take] at this
  unfold lead; omega
theorem lead_cut (l : List Bool) (m : Nat) : lead l (min m l.length) = lead l m := by
  unfold lead
  by_cases h : m ≤ l.length
  · rw [Nat.min_eq_left h]
  · rw [Nat.min_eq_right (by omega), List.take_length, List.take_of_length_le (by omega)]

/-- a number as Rice wrote it: the number, how many bits it takes, the error -/
def riceR (l : List Bool) (k : Nat) : Nat × Nat × Nat :=
  if lead l 24 < 24 then (if l.length < lead l 24 + 1 + k then (0, 0, 10) else (lead l 24 * 2 ^ k + numB ((l.drop (lead l 24 + 1)).take k), lead l 24 + 1 + k, 0))
  else if l.length < 88 then (0, 0, 10) else if numB ((l.drop 24).take 64) / 2 ^ k < 24 then (0, 0, 11) else (numB ((l.drop 24).take 64), 88, 0)
def getR (l : List Bool) (k : Nat) : Nat × Nat × Nat := if l.length < k then (0, 0, 10) else (numB (l.take k), k, 0)

theorem takeWhile_form : ∀ l : List Bool, (∃ q r, l = List.replicate q true ++ false :: r ∧ (l.takeWhile id).length = q) ∨ (l = List.replicate l.length true ∧ (l.takeWhile id).length = l.length) := by
  intro l
  induction l with
  | nil => right; simp
  | cons b l ih =>
    cases b
    · left; exact ⟨0, l, by simp, by simp⟩
    · rcases ih with ⟨q, r, h1, h2⟩ | ⟨h1, h2⟩
      · left; exact ⟨q + 1, r, by rw [List.replicate_succ, List.cons_append, ← h1], by simpa using h2⟩
      · right; exact ⟨by rw [List.length_cons, List.replicate_succ, ← h1], by simpa using h2⟩
theorem lead_ones (q : Nat) (r : List Bool) (m : Nat) (h : q < m) : lead (List.replicate q true ++ false :: r) m = q := by
  unfold lead
  rw [List.take_append, List.length_replicate, List.take_of_length_le (by rw [List.length_replicate]; omega)]
  obtain ⟨j, hj⟩ : ∃ j, m - q = j + 1 := ⟨m - q - 1, by omega⟩
  rw [hj, List.take_succ_cons, List.takeWhile_append_of_pos (by simp)]
  simp
theorem lead_full (r : List Bool) (m : Nat) : lead (List.replicate m true ++ r) m = m := by
  unfold lead
  rw [List.take_append, List.length_replicate, List.take_of_length_le (by rw [List.length_replicate]; omega), Nat.sub_self, List.take_zero, List.append_nil]
  rw [List.takeWhile_replicate]; simp

theorem rice_back {n k : Nat} (hn : n < 18446744073709551616) (r : List Bool) : riceR (codeL n k ++ r) k = (n, costOne n k, 0) := by
  unfold riceR
  by_cases hq : 24 ≤ n / 2 ^ k
  · have e : codeL n k = List.replicate 24 true ++ lowL n 64 := by unfold codeL; rw [if_pos hq]
    rw [e, List.append_assoc, lead_full, if_neg (by omega)]
    have hlen : ¬ (List.replicate 24 true ++ (lowL n 64 ++ r)).length < 88 := by simp [lowL_length] <;> omega
    rw [if_neg hlen]
    have h1 : ((List.replicate 24 true ++ (lowL n 64 ++ r)).drop 24).take 64 = lowL n 64 := by
      rw [List.drop_left' (by simp), List.take_left' (lowL_length _ _)]
    rw [h1, numB_low, Nat.mod_eq_of_lt hn, if_neg (by omega), costOne_big (by omega)]
  · obtain ⟨q, hqd⟩ : ∃ q, q = n / 2 ^ k := ⟨_, rfl⟩
    have e : codeL n k = List.replicate q true ++ [false] ++ lowL n k := by unfold codeL; rw [if_neg hq, hqd]
    rw [← hqd] at hq
    have e2 : codeL n k ++ r = List.replicate q true ++ false :: (lowL n k ++ r) := by rw [e]; simp
    rw [e2, lead_ones q _ 24 (by omega), if_pos (by omega)]
    have hlen : ¬ (List.replicate q true ++ false :: (lowL n k ++ r)).length < q + 1 + k := by simp [lowL_length] <;> omega
    rw [if_neg hlen]
    have h1 : ((List.replicate q true ++ false :: (lowL n k ++ r)).drop (q + 1)).take k = lowL n k := by
      have : List.replicate q true ++ false :: (lowL n k ++ r) = (List.replicate q true ++ [false]) ++ (lowL n k ++ r) := by simp
      rw [this, List.drop_left' (by simp), List.take_left' (lowL_length _ _)]
    rw [h1, numB_low, costOne_small (by omega), ← hqd]
    congr 1
    rw [hqd, Nat.mul_comm]; exact Nat.div_add_mod n (2 ^ k)
theorem get_back {n k : Nat} (hn : n < 2 ^ k) (r : List Bool) : getR (lowL n k ++ r) k = (n, k, 0) := by
  unfold getR
  rw [if_neg (by simp [lowL_length]), List.take_left' (lowL_length _ _), numB_low, Nat.mod_eq_of_lt hn]

theorem bitLen_le_iff {x k : Nat} (hx : x < 2 ^ 64) (hk : k ≤ 64) : Lib.bitLen x ≤ k ↔ x < 2 ^ k := by
  constructor
  · intro h
    apply Classical.byContradiction
    intro h1
    have h2 := Lib.bitLen_shift k x (by omega) hx
    have h3 : x / 2 ^ k ≠ 0 := by
      have := (Nat.le_div_iff_mul_le (Nat.two_pow_pos k)).2 (by rw [Nat.one_mul]; omega : 1 * 2 ^ k ≤ x)
      omega
    have h4 := Lib.bitLen_half (x / 2 ^ k) h3 (Nat.lt_of_le_of_lt (Nat.div_le_self _ _) hx)
    omega
  · exact Lib.bitLen_le x k hk
theorem bitLen_is {x k : Nat} (hx : x < 2 ^ 64) (hk : k ≤ 64) (h1 : x < 2 ^ k) (h2 : 0 < k → 2 ^ (k - 1) ≤ x) : Lib.bitLen x = k := by
  have a := (bitLen_le_iff hx hk).2 h1
  by_cases h : k = 0
  · omega
  · have b := mt (bitLen_le_iff (k := k - 1) hx (by omega)).1 (by have := h2 (by omega); omega)
    omega

/-- the bits 1 at the head, as the program counts them -/
theorem lz_lead (l : List Bool) (h : l.length ≤ 24) : Lib.bitLen (18446744073709551615 - numB l * 2 ^ (64 - l.length)) = 64 - (l.takeWhile id).length := by
  rcases takeWhile_form l with ⟨q, r, h1, h2⟩ | ⟨h1, h2⟩
  · rw [h2]
    have hl : l.length = q + 1 + r.length := by rw [h1]; simp; omega
    have hr := numB_lt r
    have hn : numB l = (2 ^ q - 1) * 2 ^ (1 + r.length) + numB r := by
      rw [h1, numB_append, numB_ones, numB_cons]
      simp [Nat.add_comm]
    have e64 : 2 ^ q * (2 * 2 ^ r.length) * 2 ^ (64 - l.length) = 18446744073709551616 := by
      rw [← Nat.pow_succ', ← Nat.pow_add, ← Nat.pow_add, show q + (r.length + 1) + (64 - l.length) = 64 by omega]
    have e63 : 2 ^ (64 - q) = 2 * 2 ^ r.length * 2 ^ (64 - l.length) := by
      rw [← Nat.pow_succ', ← Nat.pow_add]; congr 1; omega
    have e62 : 2 ^ (64 - q - 1) = 2 ^ r.length * 2 ^ (64 - l.length) := by
      rw [← Nat.pow_add]; congr 1; omega
    rw [hn]
    have hA := Nat.two_pow_pos q
    have hC := Nat.two_pow_pos (64 - l.length)
    rw [show 1 + r.length = r.length + 1 by omega, Nat.pow_succ']
    generalize numB r = x at *
    generalize 2 ^ r.length = B at *
    generalize 2 ^ (64 - l.length) = C at *
    generalize 2 ^ q = A at *
    have hX : ((A - 1) * (2 * B) + x) * C + (2 * B * C) = 18446744073709551616 + x * C := by
      obtain ⟨A', rfl⟩ : ∃ A', A = A' + 1 := ⟨A - 1, by omega⟩
      rw [← e64, Nat.add_sub_cancel]
      simp only [Nat.add_mul, Nat.one_mul]
      omega
    have hxC : x * C + C ≤ B * C := by
      have := Nat.mul_le_mul_right C (show x + 1 ≤ B by omega)
      rwa [Nat.add_mul, Nat.one_mul] at this
    have hBC : 2 * B * C = B * C + B * C := by rw [Nat.mul_assoc]; omega
    apply bitLen_is (by omega) (by omega)
    · rw [e63]; omega
    · intro _; rw [e62]; omega
  · rw [h2]
    obtain ⟨h', hh⟩ : ∃ h', h' = l.length := ⟨_, rfl⟩
    rw [h1, numB_ones, List.length_replicate]
    rw [← hh] at h ⊢
    have e64 : 2 ^ h' * 2 ^ (64 - h') = 18446744073709551616 := by
      rw [← Nat.pow_add, show h' + (64 - h') = 64 by omega]
    have hp := Nat.two_pow_pos h'
    have hp2 := Nat.two_pow_pos (64 - h')
    have hX : (2 ^ h' - 1) * 2 ^ (64 - h') = 18446744073709551616 - 2 ^ (64 - h') := by rw [Nat.sub_mul, e64, Nat.one_mul]
    have e63 : 2 ^ (64 - h') = 2 * 2 ^ (64 - h' - 1) := by rw [← Nat.pow_succ']; congr 1; omega
    rw [hX]
    have hle : 2 ^ (64 - h') ≤ 18446744073709551616 := by rw [← e64]; exact Nat.le_mul_of_pos_left _ hp
    apply bitLen_is (by omega) (by omega)
    · omega
    · intro _; omega

/-! what a writer has, as bytes -/
def WSt.out (s : WSt) : List UInt8 := if s.m = 0 then s.L else s.L ++ [byt (s.a * 2 ^ (8 - s.m))]
def pad (m : Nat) : Nat := if m = 0 then 0 else 8 - m
theorem low_pad {a m : Nat} (hm : m ≤ 8) : lowL (a * 2 ^ (8 - m)) 8 = lowL a m ++ List.replicate (8 - m) false := by
  have h := lowL_split (a := a) (n := 0) (k := 8 - m) m (Nat.two_pow_pos _)
  rw [Nat.add_zero, show m + (8 - m) = 8 by omega] at h
  rw [h]
  congr 1
  apply List.ext_getElem
  · simp [lowL_length]
  · intro i h1 h2; rw [lowL_get]; simp
theorem out_bits {s : WSt} (h : s.m < 8) : bitsOf s.out = s.bits ++ List.replicate (pad s.m) false := by
  unfold WSt.out pad WSt.bits
  by_cases hm : s.m = 0
  · rw [if_pos hm, if_pos hm, hm]; simp [lowL, bitsOf]
  · rw [if_neg hm, if_neg hm, bitsOf_append]
    have e : bitsOf [byt (s.a * 2 ^ (8 - s.m))] = lowL (s.a * 2 ^ (8 - s.m)) 8 := by
      rw [bitsOf_cons]
      unfold byt
      rw [UInt8.toNat_ofNat']
      rw [lowL_mod _ 8]; simp [bitsOf]
    rw [e, low_pad (by omega), List.append_assoc]; rfl
theorem bits_len (s : WSt) : s.bits.length = 8 * s.L.length + s.m := by
  have h := bitsOf_length s.L
  unfold bitsOf at h
  unfold WSt.bits
  rw [List.length_append, lowL_length, h]

set_option maxRecDepth 100000 in
theorem set_byte : ∀ (c : Fin 256) (o : Fin 8), c.val.testBit (7 - o.val) = false → c.val + 2 ^ (7 - o.val) < 256 ∧ lowL (c.val + 2 ^ (7 - o.val)) 8 = (lowL c.val 8).set o.val true := by decide +kernel
/-- a bit 1 is put into bytes -/
theorem set_bit : ∀ (L : List UInt8) (i o : Nat) (_ : o < 8) (hi : i < L.length), L[i].toNat.testBit (7 - o) = false →
    L[i].toNat + 2 ^ (7 - o) < 256 ∧ bitsOf (L.set i (byt (L[i].toNat + 2 ^ (7 - o)))) = (bitsOf L).set (8 * i + o) true := by
  intro L
  induction L with
  | nil => intro i o ho hi; exact absurd hi (by simp)
  | cons c L ih =>
    intro i o ho hi hb
    cases i with
    | zero =>
      obtain ⟨h1, h2⟩ := set_byte ⟨c.toNat, UInt8.toNat_lt c⟩ ⟨o, ho⟩ hb
      simp only at h1 h2
      refine ⟨h1, ?_⟩
      simp only [List.getElem_cons_zero, List.set_cons_zero]
      rw [bitsOf_cons, bitsOf_cons, u8_lt _ h1, h2, List.set_append_left _ _ (by rw [lowL_length]; omega)]
      simp
    | succ i =>
      obtain ⟨h1, h2⟩ := ih i o ho (by simpa using hi) hb
      refine ⟨h1, ?_⟩
      simp only [List.getElem_cons_succ, List.set_cons_succ]
      rw [bitsOf_cons, bitsOf_cons, List.set_append_right _ _ (by rw [lowL_length]; omega), lowL_length, h2]
      congr 2; omega
end Go.Proofs.Ytjendmojkdkipaa
