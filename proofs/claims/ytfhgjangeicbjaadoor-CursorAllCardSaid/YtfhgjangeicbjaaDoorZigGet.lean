/-
  The walk of zig.GetUint.
-/
import Derived.Test.YtfhgjangeicbjaaDoorOwn
import Derived.Test.YtfhgjangeicbjaaDoorZigPlain
namespace Go.Proofs.YtfhgjangeicbjaaDoor
open Go Go.RowKit

/-- the number at a place of bytes: the number, the next place, the error -/
def getAt (l : List UInt8) (at' : Int) : Nat × Int × Nat :=
  if at' < 0 ∨ (l.length : Int) < at' then (0, 0, 1)
  else if (get0 (l.drop at'.toNat)).2.2 = 0 then ((get0 (l.drop at'.toNat)).1, at' + (get0 (l.drop at'.toNat)).2.1, 0)
  else (0, 0, (get0 (l.drop at'.toNat)).2.2)

theorem getAt_out {l : List UInt8} {a : Int} (h : a < 0 ∨ (l.length : Int) < a) : getAt l a = (0, 0, 1) := by unfold getAt; rw [if_pos h]

theorem getAt_in {l : List UInt8} {k : Nat} (h : k ≤ l.length) :
    getAt l k = if (get0 (l.drop k)).2.2 = 0 then ((get0 (l.drop k)).1, (k : Int) + (get0 (l.drop k)).2.1, 0) else (0, 0, (get0 (l.drop k)).2.2) := by
  unfold getAt; rw [if_neg (by omega)]; rfl

theorem drop_byte {s : ByteArray} {k : Nat} (h : k < s.size) : s.data.toList.drop k = s[k] :: s.data.toList.drop (k + 1) := by
  have hl : k < s.data.toList.length := by rw [← Lib.size_eq]; exact h
  rw [List.drop_eq_getElem_cons hl]; rfl

theorem getAt_of {l : List UInt8} {k a b : Nat} (h : get0 (l.drop k) = (a, b, 0)) (hk : k ≤ l.length) : getAt l k = (a, (k : Int) + b, 0) := by
  rw [getAt_in hk, h]; simp
theorem getAt_of_err {l : List UInt8} {k e : Nat} (h : get0 (l.drop k) = (0, 0, e)) (he : e ≠ 0) (hk : k ≤ l.length) : getAt l k = (0, 0, e) := by
  rw [getAt_in hk, h]; simp [he]

theorem scan_ret {r : List UInt8} {j m : Nat} {c : UInt8} (hj : j < 10) (h9 : 9 ≤ j → c.toNat ≤ 1) (h0 : 0 < j → 0 < c.toNat) (hc : c.toNat < 128) : scan j m (c :: r) = (m + c.toNat * 128 ^ j, j + 1, 0) := by
  simp only [scan]
  rw [if_neg (by omega), if_neg (by omega), if_neg (by omega), if_pos hc]
theorem scan_form {r : List UInt8} {j m : Nat} {c : UInt8} (hj : (9 ≤ j ∧ 1 < c.toNat) ∨ (0 < j ∧ c.toNat < 1)) : scan j m (c :: r) = (0, 0, 11) := by
  simp only [scan]
  by_cases h10 : 10 ≤ j
  · rw [if_pos h10]
  · rw [if_neg h10]
    by_cases h9 : j = 9 ∧ 1 < c.toNat
    · rw [if_pos h9]
    · rw [if_neg h9, if_pos (by omega)]
theorem scan_end {j m : Nat} (hj : j < 10) : scan j m [] = (0, 0, 10) := by simp only [scan]; rw [if_neg (by omega)]
theorem scan_ten {r : List UInt8} {j m : Nat} (hj : 10 ≤ j) : scan j m r = (0, 0, 11) := by cases r <;> simp only [scan] <;> rw [if_pos hj]

theorem getAt_ret {l r : List UInt8} {k j m : Nat} {c : UInt8} (h : scan j m (c :: r) = get0 (l.drop k)) (hk : k ≤ l.length) (hj : j < 10) (h9 : 9 ≤ j → c.toNat ≤ 1) (h0 : 0 < j → 0 < c.toNat) (hc : c.toNat < 128) :
    getAt l k = (m + c.toNat * 128 ^ j, (k : Int) + j + 1, 0) := by
  rw [getAt_of (h.symm.trans (scan_ret hj h9 h0 hc)) hk]
  simp; omega
theorem getAt_form {l r : List UInt8} {k j m : Nat} {c : UInt8} (h : scan j m (c :: r) = get0 (l.drop k)) (hk : k ≤ l.length) (hj : (9 ≤ j ∧ 1 < c.toNat) ∨ (0 < j ∧ c.toNat < 1)) :
    getAt l k = (0, 0, 11) := getAt_of_err (h.symm.trans (scan_form hj)) (by decide) hk
theorem getAt_more {r : List UInt8} {j m : Nat} {c : UInt8} (hj : j < 9) (hc : 128 ≤ c.toNat) : scan j m (c :: r) = scan (j + 1) (m + c.toNat % 128 * 128 ^ j) r := by
  have := c.toNat_lt
  simp only [scan]
  rw [if_neg (by omega), if_neg (by omega), if_neg (by omega), if_neg (by omega), show c.toNat - 128 = c.toNat % 128 by omega]
theorem getAt_short {l : List UInt8} {k j m : Nat} (h : scan j m [] = get0 (l.drop k)) (hk : k ≤ l.length) (hj : j < 10) : getAt l k = (0, 0, 10) := getAt_of_err (h.symm.trans (scan_end hj)) (by decide) hk
theorem getAt_ten {l r : List UInt8} {k j m : Nat} (h : scan j m r = get0 (l.drop k)) (hk : k ≤ l.length) (hj : 10 ≤ j) : getAt l k = (0, 0, 11) := getAt_of_err (h.symm.trans (scan_ten hj)) (by decide) hk

theorem or_step {m j : Nat} {c : UInt8} (hm : m < 128 ^ j) (hj : j < 9) :
    bits .or .u64 (m : Int) (IntKind.u64.wrap (IntKind.u64.wrap (bits .and .u8 (c.toNat : Int) 127) * 2 ^ (7 * j))) = ((m + c.toNat % 128 * 128 ^ j : Nat) : Int) := by
  have hcl := c.toNat_lt
  have e1 : bits .and .u8 (c.toNat : Int) 127 = ((c.toNat % 128 : Nat) : Int) := by
    have := bits_mask .u8 8 (by decide) wraps_u8 7 (by decide) (c.toNat : Int) (by omega) (by omega)
    simpa using this
  have e2 : (128 : Nat) ^ j = 2 ^ (7 * j) := by rw [Nat.pow_mul]
  have hp : (2 : Nat) ^ (7 * j) ≤ 2 ^ 56 := Nat.pow_le_pow_right (by omega) (by omega)
  rw [e2] at hm ⊢
  have e3 : IntKind.u64.wrap (((c.toNat % 128 : Nat) : Int)) = ((c.toNat % 128 : Nat) : Int) := by rw [IntKind.wrap_u64]; omega
  have e4 : (((c.toNat % 128 : Nat) : Int)) * 2 ^ (7 * j) = ((c.toNat % 128 * 2 ^ (7 * j) : Nat) : Int) := by rw [Int.natCast_mul]; congr 1
  have hb : c.toNat % 128 * 2 ^ (7 * j) ≤ 127 * 2 ^ 56 := Nat.mul_le_mul (by omega) hp
  rw [e1, e3, e4]
  have e5 : IntKind.u64.wrap ((c.toNat % 128 * 2 ^ (7 * j) : Nat) : Int) = ((c.toNat % 128 * 2 ^ (7 * j) : Nat) : Int) := by rw [IntKind.wrap_u64]; omega
  rw [e5, bits_or_u64_nat _ _ (by omega) (by omega)]
  congr 1
  rw [Nat.or_comm, Nat.mul_comm, ← Nat.two_pow_add_eq_or_of_lt hm, Nat.add_comm, Nat.mul_comm]

theorem or_nine {m j : Nat} {c : UInt8} (hj : j = 9) (hm : m < 128 ^ j) (hc : c.toNat ≤ 1) :
    bits .or .u64 (m : Int) (IntKind.u64.wrap (IntKind.u64.wrap (bits .and .u8 (c.toNat : Int) 127) * 9223372036854775808)) = ((m + c.toNat * 128 ^ j : Nat) : Int) := by
  subst hj
  have e1 : bits .and .u8 (c.toNat : Int) 127 = ((c.toNat : Nat) : Int) := by
    have := bits_mask .u8 8 (by decide) wraps_u8 7 (by decide) (c.toNat : Int) (by omega) (by omega)
    simp at this; rw [this]; omega
  have e0 : (128 : Nat) ^ 9 = 2 ^ 63 := by decide
  rw [e0] at hm ⊢
  have e3 : IntKind.u64.wrap ((c.toNat : Nat) : Int) = ((c.toNat : Nat) : Int) := by rw [IntKind.wrap_u64]; omega
  have e5 : IntKind.u64.wrap ((c.toNat : Nat) * 9223372036854775808 : Int) = ((c.toNat * 2 ^ 63 : Nat) : Int) := by rw [IntKind.wrap_u64]; omega
  rw [e1, e3, e5, bits_or_u64_nat _ _ (by omega) (by omega)]
  congr 1
  rw [Nat.or_comm, Nat.mul_comm, ← Nat.two_pow_add_eq_or_of_lt hm, Nat.add_comm, Nat.mul_comm]

theorem pow_step {m j c : Nat} (hm : m < 128 ^ j) (hc : c < 128) : m + c * 128 ^ j < 128 ^ (j + 1) := by
  rw [Nat.pow_succ]
  have : c * 128 ^ j ≤ 127 * 128 ^ j := Nat.mul_le_mul_right _ (by omega)
  omega

theorem ret_three {n n' b b' e e' : Int} (h1 : n = n') (h2 : b = b') (h3 : e = e') :
    Ending.returned (.tuple #[.int .u64 n, .int .i64 b, .int .i64 e]) = .returned (.tuple #[.int .u64 n', .int .i64 b', .int .i64 e']) := by rw [h1, h2, h3]

set_option maxRecDepth 100000 in
set_option maxHeartbeats 1000000 in
theorem getUint_in (s : ByteArray) (k : Nat) (w : World) (hs : s.size < 1099511627776) (hk : k ≤ s.size) :
    Calls Tryd.prog 27 #[.string s, .int .i64 k] w fun e w' => e = .returned (.tuple #[.int .u64 (getAt s.data.toList k).1, .int .i64 (getAt s.data.toList k).2.1, .int .i64 (getAt s.data.toList k).2.2]) ∧ w = w' := by
  have hl : k ≤ s.data.toList.length := by rw [← Lib.size_eq]; exact hk
  have Hl := Lib.hid hl
  clear hl
  have hd1 : decide (s.size < k) = false := by simp; omega
  have hd2 : decide ((k : Int) < 0) = false := by simp
  go_enter Tryd.func27, Tryd.ntmps27
  go_wp2
  go_loop [4, 7, 17] (fun n _ i => ∃ (m j : Nat), n = .int .u64 m ∧ i = .int .i64 j ∧ j ≤ 10 ∧ k + j ≤ s.size ∧ m < 128 ^ j ∧ scan j m (s.data.toList.drop (k + j)) = get0 (s.data.toList.drop k)) (fun _ _ i => 10 - (intOf i).toNat)
  case atStart => exact ⟨0, 0, rfl, rfl, by omega, by omega, by simp, by simp [get0]⟩
  case round =>
    obtain ⟨m, j, rfl, rfl, hj, hkj, hm, hsc⟩ := hrel
    by_cases h10 : j < 10
    · by_cases hend : k + j < s.size
      · rw [drop_byte hend] at hsc
        have Hsc := Lib.hid hsc
        have Hm := Lib.hid hm
        clear hsc hm
        have hcl := (s[k + j]).toNat_lt
        by_cases hj9 : 9 ≤ j
        · by_cases hc1 : 1 < s[k + j].toNat
          · have Hr := Lib.hid (getAt_form Hsc.out Hl.out (.inl ⟨hj9, hc1⟩))
            go_wp2_with fail
            go_ret3
            exact ⟨by rw [Hr.out]; rfl, rfl⟩
          · by_cases hc0 : s[k + j].toNat < 1
            · have Hr := Lib.hid (getAt_form Hsc.out Hl.out (.inr ⟨by omega, hc0⟩))
              go_wp2_with fail
              go_ret3
              exact ⟨by rw [Hr.out]; rfl, rfl⟩
            · have Hr := Lib.hid (getAt_ret Hsc.out Hl.out h10 (by omega) (by omega) (by omega))
              have Ho := Lib.hid (or_nine (c := s[k + j]) (show j = 9 by omega) Hm.out (by omega))
              have Hj := Lib.hid (show j = 9 by omega)
              go_wp2_with fail
              go_ret3
              exact ⟨by rw [Hr.out]; exact ret_three (by rw [Ho.out]) (by simp [Hj.out]) rfl, rfl⟩
        · have Ho := Lib.hid (or_step (c := s[k + j]) Hm.out (by omega))
          by_cases hc : 128 ≤ s[k + j].toNat
          · have Hr := Lib.hid (getAt_more (r := List.drop (k + j + 1) s.data.toList) (j := j) (m := m) (by omega) hc)
            go_wp2_with fail
            go_round
            case rel => exact ⟨m + s[k + j].toNat % 128 * 128 ^ j, j + 1, by rw [Ho.out], by go_num, by omega, by omega, pow_step Hm.out (by omega), by rw [← Hsc.out, Hr.out]; rfl⟩
            case measure => simp [intOf]; omega
          · by_cases hj0 : 0 < j
            · by_cases hc0 : s[k + j].toNat < 1
              · have Hr := Lib.hid (getAt_form Hsc.out Hl.out (.inr ⟨by omega, hc0⟩))
                go_wp2_with fail
                go_ret3
                exact ⟨by rw [Hr.out]; rfl, rfl⟩
              · have Hr := Lib.hid (getAt_ret Hsc.out Hl.out h10 (by omega) (by omega) (by omega))
                have Hc := Lib.hid (show s[k + j].toNat % 128 = s[k + j].toNat by omega)
                go_wp2_with fail
                go_ret3
                exact ⟨by rw [Hr.out]; exact ret_three (by rw [Ho.out, Hc.out]) (by simp) rfl, rfl⟩
            · have Hr := Lib.hid (getAt_ret Hsc.out Hl.out h10 (by omega) (by omega) (by omega))
              have Hc := Lib.hid (show s[k + j].toNat % 128 = s[k + j].toNat by omega)
              by_cases hc0 : s[k + j].toNat < 1
              · have hz : s[k + j].toNat = 0 := by omega
                have Ho' := Ho.out
                rw [hz] at Ho'
                have Hz := Lib.hid hz
                have Ho2 := Lib.hid Ho'
                clear Ho' hz
                go_wp2_with fail
                go_ret3
                exact ⟨by rw [Hr.out]; exact ret_three (by rw [Hz.out]; exact Ho2.out) (by simp) rfl, rfl⟩
              · go_wp2_with fail
                go_ret3
                exact ⟨by rw [Hr.out]; exact ret_three (by rw [Ho.out, Hc.out]) (by simp) rfl, rfl⟩
      · have Hr := Lib.hid (getAt_short (by rw [← hsc, List.drop_eq_nil_of_le (by rw [← Lib.size_eq]; omega)]) Hl.out h10)
        clear hsc hm
        go_wp2_with fail
        go_ret3
        exact ⟨by rw [Hr.out]; rfl, rfl⟩
    · have Hr := Lib.hid (getAt_ten hsc Hl.out (by omega))
      clear hsc hm
      go_wp2_with fail
      go_ret3
      exact ⟨by rw [Hr.out]; rfl, rfl⟩
end Go.Proofs.YtfhgjangeicbjaaDoor
