/-
  What the walks of this claim stand on: Reader, Reader2, RReader, RRead2, one behind the other.
-/
import Derived.Test.YtmafdbdmmfpeeaaPackD
import Derived.Test.YtmafdbdmmfpeeaaPackB
import Derived.Lib.Builder
/-! Reader -/
namespace Go.Proofs.Ytmafdbdmmfpeeaa
open Go Go.RowKit

/-- a reader of either text lies at b: the bytes, the bit at which it stands -/
def RdrOf (T : TypeId) (b : Nat) (s : ByteArray) (j : Nat) (w : World) : Prop := w.heap[b]? = some (.cells #[.string s, .int .i64 (j : Int)] T (0, 0))
theorem RdrOf.cells {T : TypeId} {b j : Nat} {s : ByteArray} {w : World} (h : RdrOf T b s j w) : w.cell? ⟨b, 0, none⟩ = some (.string s) ∧ w.cell? ⟨b, 1, none⟩ = some (.int .i64 (j : Int)) ∧ w.frozen? ⟨b, 1, none⟩ = false :=
  ⟨(Lib.cell_of_heap h 0).trans rfl, (Lib.cell_of_heap h 1).trans rfl, Lib.frozen_of_heap h 1⟩
theorem RdrOf.set {T : TypeId} {b j k : Nat} {s : ByteArray} {w : World} (h : RdrOf T b s j w) : RdrOf T b s k (w.setCell ⟨b, 1, none⟩ (.int .i64 (k : Int))) := by
  unfold RdrOf at *
  simp [World.setCell, Array.getElem?_modify, h]
theorem RdrOf.set2 {T : TypeId} {b j k t : Nat} {s : ByteArray} {w : World} (h : RdrOf T b s j w) : RdrOf T b s (k + t) (w.setCell ⟨b, 1, none⟩ (.int .i64 ((k : Int) + (t : Int)))) := by
  rw [← Int.natCast_add]; exact h.set
/-- a call that leaves all but the block b, and makes nothing -/
structure But (b : Nat) (w w' : World) : Prop where
  os : w'.os = w.os
  tape : w'.tape = w.tape
  output : w'.output = w.output
  size : w'.heap.size = w.heap.size
  block : ∀ k, k ≠ b → w'.heap[k]? = w.heap[k]?
theorem But.refl (b : Nat) (w : World) : But b w w := ⟨rfl, rfl, rfl, rfl, fun _ _ => rfl⟩
theorem But.trans {b : Nat} {a c d : World} (h : But b a c) (k : But b c d) : But b a d :=
  ⟨k.os.trans h.os, k.tape.trans h.tape, k.output.trans h.output, k.size.trans h.size, fun i hi => (k.block i hi).trans (h.block i hi)⟩
theorem but_set (b j : Nat) (w : World) (v : Value) : But b w (w.setCell ⟨b, j, none⟩ v) :=
  ⟨rfl, rfl, rfl, by simp [World.setCell], fun k hk => Below.heap_setCell _ _ _ _ hk⟩
theorem But.drewl {b : Nat} {w w' : World} (h : But b w.drew w') : But b w w' := ⟨h.os, h.tape, h.output, h.size, h.block⟩
theorem But.drewr {b : Nat} {w w' : World} (h : But b w w') : But b w w'.drew := ⟨h.os, h.tape, h.output, h.size, h.block⟩
theorem But.below {b B : Nat} {w w' : World} (h : But b w w') (hb : B ≤ b) : Below B w w' := ⟨h.os, h.tape, h.output, Nat.le_of_eq h.size.symm, fun k hk => h.block k (by omega)⟩

def sbits (s : ByteArray) : List Bool := bitsOf s.data.toList
theorem sbits_size (s : ByteArray) : (sbits s).length = 8 * s.size := by unfold sbits; rw [bitsOf_length, Lib.size_eq]

theorem part_at {s : ByteArray} {i o t : Nat} (hi : i < s.size) (h : o + t ≤ 8) : numB (((sbits s).drop (8 * i + o)).take t) = s[i].toNat / 2 ^ (8 - o - t) % 2 ^ t := by
  have hl : i < s.data.toList.length := by rw [← Lib.size_eq]; exact hi
  exact part_byte s.data.toList i o t hl h

theorem take_num_lt (l : List Bool) (j k : Nat) : numB ((l.drop j).take k) < 2 ^ k := by
  refine Nat.lt_of_lt_of_le (numB_lt _) (Nat.pow_le_pow_right (by decide) ?_)
  rw [List.length_take]; omega

theorem peek_step {s : ByteArray} {p j i o t r : Nat} (hi : i < s.size) (hq : p + j = 8 * i + o) (ho : o + t ≤ 8) (hr : r = 8 - o - t) (hj : j + t ≤ 64) (hp : p + j + t ≤ 8 * s.size) :
    numB (((sbits s).drop p).take (j + t)) = numB (((sbits s).drop p).take j) * 2 ^ t + s[i].toNat / 2 ^ r % 2 ^ t ∧ numB (((sbits s).drop p).take j) * 2 ^ t + s[i].toNat / 2 ^ r % 2 ^ t < 18446744073709551616 ∧ s[i].toNat / 2 ^ r % 2 ^ t < 2 ^ t := by
  have hpart := part_at (s := s) (i := i) (o := o) (t := t) hi ho
  have hstep := take_add_num ((sbits s).drop p) j t (by rw [List.length_drop, sbits_size]; omega)
  rw [List.drop_drop, hq, hpart, ← hr] at hstep
  have hall := take_num_lt (sbits s) p (j + t)
  have h64 : (2 : Nat) ^ (j + t) ≤ 18446744073709551616 := Nat.pow_le_pow_right (n := 2) (by decide) hj
  exact ⟨hstep, by rw [← hstep]; omega, Nat.mod_lt _ (Nat.two_pow_pos t)⟩
theorem byte_shr (c : UInt8) (r : Nat) : c.toNat / 2 ^ r ≤ c.toNat ∧ c.toNat < 256 := ⟨Nat.div_le_self _ _, UInt8.toNat_lt c⟩
theorem pow_wraps {t : Nat} (ht : t ≤ 8) : IntKind.u64.wrap ((2 : Int) ^ t) = (2 : Int) ^ t ∧ IntKind.u64.wrap ((2 : Int) ^ t - 1) = (2 : Int) ^ t - 1 := by
  have hpt : (2 : Nat) ^ t ≤ 256 := Nat.pow_le_pow_right (n := 2) (by decide) ht
  have hpt0 := Nat.two_pow_pos t
  have hpi : (2 : Int) ^ t = ((2 ^ t : Nat) : Int) := by norm_cast
  exact ⟨IntWalk.u64_in _ (by omega), IntWalk.u64_in _ (by omega)⟩

set_option maxRecDepth 100000 in
set_option maxHeartbeats 1000000 in
theorem peek_any (b : Nat) (s : ByteArray) (p k : Nat) (w : World) (h0 : w.cell? ⟨b, 0, none⟩ = some (.string s)) (hs : s.size < 1099511627776) (hk : k ≤ 64) (hp : p + k ≤ 8 * s.size) :
    Calls Try.prog 76 #[.pointer (some ⟨b, 0, none⟩), .int .i64 p, .int .i64 k] w fun e w' => e = .returned (.int .u64 (numB (((sbits s).drop p).take k) : Nat)) ∧ w = w' := by
  go_enter Try.func76, Try.ntmps76
  go_wp2
  go_loop [1, 2, 7] (fun at' many n => ∃ j : Nat, j ≤ k ∧ at' = .int .i64 ((p + j : Nat) : Int) ∧ many = .int .i64 ((k - j : Nat) : Int) ∧ n = .int .u64 (numB (((sbits s).drop p).take j) : Nat)) (fun _ many _ => (intOf many).toNat)
  case atStart => exact ⟨0, by omega, rfl, rfl, rfl⟩
  case round =>
    obtain ⟨j, hj, rfl, rfl, rfl⟩ := hrel
    by_cases hlt : j < k
    · obtain ⟨q, hq⟩ : ∃ q, q = p + j := ⟨_, rfl⟩
      obtain ⟨m, hm⟩ : ∃ m, m = k - j := ⟨_, rfl⟩
      obtain ⟨i, hi⟩ : ∃ i, i = q / 8 := ⟨_, rfl⟩
      obtain ⟨o, ho⟩ : ∃ o, o = q % 8 := ⟨_, rfl⟩
      obtain ⟨t, ht⟩ : ∃ t, t = min (8 - o) m := ⟨_, rfl⟩
      have hmi : (if (m : Int) < 8 - (o : Int) then (m : Int) else 8 - (o : Int)) = (t : Int) := by split <;> omega
      have hmi3 : min (8 - (o : Int)) (m : Int) = (t : Int) := by rw [← hmi]; split <;> omega
      obtain ⟨r, hr⟩ : ∃ r, r = 8 - o - t := ⟨_, rfl⟩
      have hri : 8 - (o : Int) - (t : Int) = (r : Int) := by omega
      have hqi : (q : Int) / 8 = (i : Int) := by omega
      have hqo : (q : Int) % 8 = (o : Int) := by omega
      have his : i < s.size := by omega
      have ho8 : (o : Int) < 8 := by omega
      have hm0 : (0 : Int) < (m : Int) := by omega
      have hm64 : (m : Int) ≤ 64 := by omega
      have hqs : (q : Int) ≤ 8796093022208 := by omega
      obtain ⟨hstep, hsum, hylt⟩ := peek_step (s := s) (p := p) (j := j) (i := i) (o := o) (t := t) (r := r) his (by omega) (by omega) hr (by omega) (by omega)
      obtain ⟨hdv, hcl⟩ := byte_shr s[i] r
      have hsh := shr_nat s[i].toNat r
      have hmi2 : ((s[i].toNat / 2 ^ r : Nat) : Int) % 2 ^ t = ((s[i].toNat / 2 ^ r % 2 ^ t : Nat) : Int) := by norm_cast
      have ht8' : t ≤ 8 := by omega
      have hr8' : r ≤ 8 := by omega
      have htm : (t : Int) ≤ (m : Int) := by omega
      have h1t : (1 : Int) ≤ (t : Int) := by omega
      have h1m : 1 ≤ t ∧ t ≤ m ∧ m = k - j := by omega
      have Hs := Lib.hid hs
      have Hh := Lib.hid (And.intro hp h1m)
      rw [← hq, ← hm]
      have Hqq := Lib.hid hq
      clear hr hi ho ht hm hq h1m hs hp
      generalize s[i].toNat / 2 ^ r % 2 ^ t = y at *
      generalize s[i].toNat / 2 ^ r = z at *
      generalize numB (((sbits s).drop p).take j) = n at *
      have hor := or_put (a := n) (n := y) (k := t) hylt hsum
      have hw1 : IntKind.u64.wrap ((n : Int) * 2 ^ t) = (n : Int) * 2 ^ t := IntWalk.u64_in _ (by
        have : (n : Int) * 2 ^ t = ((n * 2 ^ t : Nat) : Int) := by norm_cast
        omega)
      obtain ⟨w2, w3⟩ := pow_wraps ht8'
      have hmask := bits_mask .u64 64 (by decide) wraps_u64 t (by omega) (z : Int) (by omega) (by omega)
      have w4 : IntKind.u64.wrap (r : Int) = (r : Int) := IntWalk.u64_in _ (by omega)
      have w5 : IntKind.u64.wrap (t : Int) = (t : Int) := IntWalk.u64_in _ (by omega)
      have w6 : IntKind.u64.wrap (s[i].toNat : Int) = (s[i].toNat : Int) := IntWalk.u64_in _ (by omega)
      have hmr : min r 64 = r := by omega
      have hmt : min t 64 = t := by omega
      have ht8 : (t : Int) ≤ 8 := by omega
      have hr8 : (r : Int) ≤ 8 := by omega
      have Hstep := Lib.hid hstep
      clear hsum hylt hdv hcl hstep
      go_wp2_with fail
      go_round
      case rel =>
        have := Hh.out
        have := Hqq.out
        clear hor hmask hmi2 hsh hw1 w2 w3
        exact ⟨j + t, by omega, by congr 1; omega, by congr 1; omega, by congr 1; rw [Hstep.out]; norm_cast⟩
      case measure => simp [intOf]; omega
    · obtain rfl : j = k := by omega
      rw [Nat.sub_self]
      go_wp2_with fail
      go_ret
      exact ⟨rfl, rfl⟩

/-- what Get answers, at whatever number of bits -/
def getZ (l : List Bool) (k : Int) : Nat × Nat × Nat := if 0 ≤ k ∧ k ≤ 64 then getR l k.toNat else (0, 0, 1)
def riceZ (l : List Bool) (k : Int) : Nat × Nat × Nat := if 0 ≤ k ∧ k ≤ 40 then riceR l k.toNat else (0, 0, 1)
/-- a reader's call: the number, how many bits are taken, the error -/
def Got (T : TypeId) (b : Nat) (s : ByteArray) (j : Nat) (g : Nat × Nat × Nat) (w : World) (e : Ending) (w' : World) : Prop :=
  e = .returned (.tuple #[.int .u64 (g.1 : Nat), .int .i64 (g.2.2 : Nat)]) ∧ RdrOf T b s (j + g.2.1) w' ∧ But b w w'

/-- a call that leaves the reader as it was -/
def Still (w w' : World) : Prop := w'.os = w.os ∧ w'.tape = w.tape ∧ w'.output = w.output ∧ w'.heap = w.heap
theorem Still.refl (w : World) : Still w w := ⟨rfl, rfl, rfl, rfl⟩
theorem Still.but {w w' : World} (h : Still w w') (b : Nat) : But b w w' := ⟨h.1, h.2.1, h.2.2.1, by rw [h.2.2.2], fun _ _ => by rw [h.2.2.2]⟩
theorem Still.rdr {w w' : World} (h : Still w w') {T : TypeId} {b j : Nat} {s : ByteArray} (hr : RdrOf T b s j w) : RdrOf T b s j w' := by unfold RdrOf at *; rw [h.2.2.2]; exact hr
theorem Still.below {w w' : World} (h : Still w w') : Below w.heap.size w w' := ⟨h.1, h.2.1, h.2.2.1, by rw [h.2.2.2]; exact Nat.le_refl _, fun _ _ => by rw [h.2.2.2]⟩

theorem left_any (b : Nat) (s : ByteArray) (j : Nat) (w : World) (h : RdrOf 122 b s j w) (hs : s.size < 1099511627776) (hj : j ≤ 8 * s.size) :
    Calls Try.prog 74 #[.pointer (some ⟨b, 0, none⟩)] w fun e w' => e = .returned (.int .i64 ((8 * s.size - j : Nat) : Int)) ∧ Still w w' := by
  obtain ⟨c0, c1, -⟩ := h.cells
  have e1 : ((8 * s.size - j : Nat) : Int) = 8 * (s.size : Int) - (j : Int) := by omega
  rw [e1]
  have e2 : IntKind.i64.wrap (8 * (s.size : Int)) = 8 * (s.size : Int) := IntWalk.i64_in _ (by omega)
  have e3 : IntKind.i64.wrap (8 * (s.size : Int) - (j : Int)) = 8 * (s.size : Int) - (j : Int) := IntWalk.i64_in _ (by omega)
  clear e1 hj
  go_enter Try.func74, Try.ntmps74
  go_wp2_with fail
  go_quiet (fail)
  go_wp2_with fail
  go_ret
  exact ⟨rfl, rfl, rfl, rfl, rfl⟩

end Go.Proofs.Ytmafdbdmmfpeeaa

/-! Reader2 -/
namespace Go.Proofs.Ytmafdbdmmfpeeaa
open Go Go.RowKit

theorem read_any (s : ByteArray) (w : World) :
    Calls Try.prog 66 #[.string s] w fun e w' => e = .returned (.pointer (some ⟨w.heap.size, 0, none⟩)) ∧ w' = w.alloc (.cells #[.string s, .int .i64 0] 122) := by
  go_enter Try.func66, Try.ntmps66
  go_wp2_with fail
  go_ret
  exact ⟨rfl, rfl⟩

/-- what End answers -/
def endE (l : List Bool) : Nat := if 8 ≤ l.length ∨ numB l ≠ 0 then 11 else 0

set_option maxRecDepth 100000 in
set_option maxHeartbeats 1000000 in
theorem end_any (b : Nat) (s : ByteArray) (j : Nat) (w : World) (h : RdrOf 122 b s j w) (hs : s.size < 1099511627776) (hj : j ≤ 8 * s.size) :
    Calls Try.prog 68 #[.pointer (some ⟨b, 0, none⟩)] w fun e w' => e = .returned (.int .i64 (endE ((sbits s).drop j) : Nat)) ∧ Still w w' := by
  have L := Lib.hid (left_any b s j w h hs hj)
  have HH := Lib.hid h
  have hl : ((sbits s).drop j).length = 8 * s.size - j := by rw [List.length_drop, sbits_size]
  by_cases hc : 8 ≤ 8 * s.size - j
  · have e : endE ((sbits s).drop j) = 11 := by unfold endE; rw [if_pos (.inl (by omega))]
    rw [e]
    have hd : decide ((8 : Int) ≤ ((8 * s.size - j : Nat) : Int)) = true := decide_eq_true (by omega)
    clear e hl h hj hc
    generalize 8 * s.size - j = x at *
    go_enter Try.func68, Try.ntmps68
    go_wp2_with fail
    refine L.out.mono ?_
    rintro e w1 ⟨rfl, hb1⟩
    go_wp2_with fail
    go_ret
    exact ⟨rfl, hb1⟩
  · have hd : decide ((8 : Int) ≤ ((8 * s.size - j : Nat) : Int)) = false := decide_eq_false (by omega)
    have P := Lib.hid (fun w1 h0 => peek_any b s j (8 * s.size - j) w1 h0 hs (by omega) (by omega))
    have ht : ((sbits s).drop j).take (8 * s.size - j) = (sbits s).drop j := List.take_of_length_le (by omega)
    rw [ht] at P
    have he : endE ((sbits s).drop j) = if numB ((sbits s).drop j) = 0 then 0 else 11 := by
      unfold endE
      by_cases h0 : numB ((sbits s).drop j) = 0
      · rw [if_neg (by rw [hl]; omega), if_pos h0]
      · rw [if_pos (.inr h0), if_neg h0]
    rw [he]
    clear he ht hl h hj hc
    generalize 8 * s.size - j = x at *
    generalize numB ((sbits s).drop j) = n at *
    have hcase : (((n : Int) == 0) = true ∧ (if n = 0 then (0 : Nat) else 11) = 0) ∨ (((n : Int) == 0) = false ∧ (if n = 0 then (0 : Nat) else 11) = 11) := by
      by_cases hn : n = 0
      · exact .inl ⟨by rw [hn]; rfl, if_pos hn⟩
      · exact .inr ⟨beq_eq_false_iff_ne.2 (by omega), if_neg hn⟩
    rcases hcase with ⟨hn0, hr⟩ | ⟨hn0, hr⟩
    all_goals
      rw [hr]
      clear hr
      go_enter Try.func68, Try.ntmps68
      go_wp2_with fail
      refine L.out.mono ?_
      rintro e w1 ⟨rfl, hb1⟩
      have hr1 := hb1.rdr HH.out
      obtain ⟨c0, c1, f1⟩ := RdrOf.cells hr1
      have HR1 := Lib.hid hr1
      have HB1 := Lib.hid hb1
      clear hr1 hb1
      go_wp2_with fail
      refine (P.out _ c0).mono ?_
      rintro e w2 ⟨rfl, rfl⟩
      go_wp2_with fail
      go_ret
      exact ⟨rfl, HB1.out⟩

/-- what the program reckons of the bits ahead: their number's complement, and how many bits 1 are at its head -/
theorem head_facts {l : List Bool} {hd q : Nat} (hl : (l.take hd).length = hd) (h24 : hd ≤ 24) (hq : ((l.take hd).takeWhile id).length = q) :
    ∃ Y Z sh : Nat, sh = 64 - hd ∧ Y = numB (l.take hd) * 2 ^ sh ∧ Y + Z = 18446744073709551615 ∧ Lib.bitLen Z = 64 - q ∧ q ≤ hd := by
  have hlz := lz_lead (l.take hd) (by omega)
  rw [hl, hq] at hlz
  have hn := numB_lt (l.take hd)
  rw [hl] at hn
  have hY : numB (l.take hd) * 2 ^ (64 - hd) < 18446744073709551616 := by
    have := Nat.mul_lt_mul_of_pos_right hn (Nat.two_pow_pos (64 - hd))
    rwa [← Nat.pow_add, show hd + (64 - hd) = 64 by omega] at this
  refine ⟨_, 18446744073709551615 - numB (l.take hd) * 2 ^ (64 - hd), 64 - hd, rfl, rfl, by omega, hlz, ?_⟩
  have := (List.takeWhile_prefix (p := id) (l := l.take hd)).length_le
  omega

theorem not_nat {Y Z : Nat} (h : Y + Z = 18446744073709551615) : bits .xor .u64 IntKind.u64.max (Y : Int) = (Z : Int) := by
  show bits .xor .u64 18446744073709551615 (Y : Int) = (Z : Int)
  have e := u64_xor_nat 18446744073709551615 Y (by omega) (by omega)
  have e2 : 18446744073709551615 ^^^ Y = Z := by
    obtain rfl : Z = 2 ^ 64 - (Y + 1) := by omega
    apply Nat.eq_of_testBit_eq
    intro i
    have h64 : (18446744073709551615 : Nat) = 2 ^ 64 - 1 := by decide
    rw [Nat.testBit_xor, Nat.testBit_two_pow_sub_succ (by omega), h64, Nat.testBit_two_pow_sub_one]
    by_cases hi : i < 64
    · simp [hi]
    · have : Y.testBit i = false := Nat.testBit_lt_two_pow (Nat.lt_of_lt_of_le (by omega : Y < 2 ^ 64) (Nat.pow_le_pow_right (by decide) (by omega)))
      simp [hi, this]
  rw [← e2]; exact e

theorem lz_any (Z q : Nat) (w : World) (hZ : Z ≤ 18446744073709551615) (hq : Lib.bitLen Z = 64 - q) (hq24 : q ≤ 24) :
    Calls Try.prog 75 #[.int .u64 Z] w fun e w' => e = .returned (.int .i64 q) ∧ w = w' := by
  refine (lz64_any (Z : Int) w (by omega) (by omega) (by rw [Int.toNat_natCast, hq]; omega)).mono ?_
  rintro e w' ⟨rfl, rfl⟩
  rw [Int.toNat_natCast, hq]
  exact ⟨by congr 2; omega, rfl⟩

set_option maxRecDepth 100000 in
set_option maxHeartbeats 2000000 in
theorem rice_small (b : Nat) (s : ByteArray) (j k : Nat) (w : World) (h : RdrOf 122 b s j w) (hs : s.size ≤ 1000000) (hj : j < 8 * s.size) (hk : k ≤ 40) (hq : lead ((sbits s).drop j) 24 < 24) :
    Calls Try.prog 67 #[.pointer (some ⟨b, 0, none⟩), .int .i64 k] w (Got 122 b s j (riceR ((sbits s).drop j) k) w) := by
  have hk1 : decide ((k : Int) < 0) = false := decide_eq_false (by omega)
  have hk2 : decide ((40 : Int) < (k : Int)) = false := decide_eq_false (by omega)
  have L := Lib.hid (left_any b s j w h (by omega) (by omega))
  have HH := Lib.hid h
  have hl : ((sbits s).drop j).length = 8 * s.size - j := by rw [List.length_drop, sbits_size]
  obtain ⟨x, hx⟩ : ∃ x, x = 8 * s.size - j := ⟨_, rfl⟩
  rw [← hx] at L
  obtain ⟨hd, hhd⟩ : ∃ hd, hd = min 24 x := ⟨_, rfl⟩
  have hif : (if (x : Int) < 24 then (x : Int) else 24) = (hd : Int) := by split <;> omega
  have hif' : min (24 : Int) (x : Int) = (hd : Int) := by omega
  obtain ⟨q, hqd⟩ : ∃ q, q = lead ((sbits s).drop j) 24 := ⟨_, rfl⟩
  have P := Lib.hid (fun w1 h0 => peek_any b s j hd w1 h0 (by omega) (by omega) (by omega))
  have hlt : (((sbits s).drop j).take hd).length = hd := by rw [List.length_take, hl]; omega
  have hqt : ((((sbits s).drop j).take hd).takeWhile id).length = q := by
    rw [hqd, ← lead_cut, hl, ← hx, ← hhd]; rfl
  obtain ⟨Y, Z, sh, hsh, hY, hYZ, hbl, hqh⟩ := head_facts hlt (by omega) hqt
  have LZ := Lib.hid (fun w => lz_any Z q w (by omega) hbl (by omega))
  have e1 : 64 - (hd : Int) = (sh : Int) := by omega
  have e2 : IntKind.u64.wrap (sh : Int) = (sh : Int) := IntWalk.u64_in _ (by omega)
  have e3 : min sh 64 = sh := by omega
  have e4 : IntKind.u64.wrap ((numB (((sbits s).drop j).take hd) : Int) * 2 ^ sh) = (Y : Int) := by
    have : (numB (((sbits s).drop j).take hd) : Int) * 2 ^ sh = ((numB (((sbits s).drop j).take hd) * 2 ^ sh : Nat) : Int) := by norm_cast
    rw [this, ← hY]; exact IntWalk.u64_in _ (by omega)
  have hd0 : ((hd : Int) == 0) = false := beq_eq_false_iff_ne.2 (by omega)
  have e5 : (if (hd : Int) < (q : Int) then (hd : Int) else (q : Int)) = (q : Int) := by split <;> omega
  have e5' : min (q : Int) (hd : Int) = (q : Int) := by omega
  have q24 : ((q : Int) == 24) = false := beq_eq_false_iff_ne.2 (by omega)
  have q24' : decide ((q : Int) < 24) = true := decide_eq_true (by omega)
  obtain ⟨a, ha⟩ : ∃ a, a = j + q + 1 := ⟨_, rfl⟩
  have e6 : (j : Int) + (q : Int) + 1 = (a : Int) := by omega
  have hj64 : (j : Int) ≤ 8000000 := by omega
  have hqi : (q : Int) ≤ 24 := by omega
  have hsz : (s.size : Int) ≤ 1000000 := by omega
  generalize hX : numB (((sbits s).drop j).take hd) = X at *
  have hxor := not_nat hYZ
  by_cases hsh' : x < q + 1 + k
  · have hr : riceR ((sbits s).drop j) k = (0, 0, 10) := by unfold riceR; rw [if_pos hq, if_pos (by rw [hl, ← hqd]; omega)]
    rw [hr]
    have hd3 : decide (8 * (s.size : Int) - (a : Int) < (k : Int)) = true := decide_eq_true (by omega)
    clear hx hhd hqd hlt hqt hsh hY hYZ hbl ha hX hj hq h hs hl hr hsh'
    go_enter Try.func67, Try.ntmps67
    go_wp2_with fail
    refine L.out.mono ?_
    rintro e w1 ⟨rfl, hb1⟩
    have hr1 := hb1.rdr HH.out
    obtain ⟨c0, c1, f1⟩ := RdrOf.cells hr1
    have HR1 := Lib.hid hr1
    have HB1 := Lib.hid hb1
    clear hr1 hb1
    go_wp2_with fail
    refine (P.out _ c0).mono ?_
    rintro e w2 ⟨rfl, rfl⟩
    go_wp2_with fail
    refine (LZ.out _).mono ?_
    rintro e w3 ⟨rfl, rfl⟩
    go_wp2_with fail
    go_ret2
    exact ⟨rfl, HR1.out, HB1.out.but b⟩
  · obtain ⟨n, hn⟩ : ∃ n, n = numB (((sbits s).drop a).take k) := ⟨_, rfl⟩
    have hr : riceR ((sbits s).drop j) k = (q * 2 ^ k + n, q + 1 + k, 0) := by
      unfold riceR; rw [if_pos hq, if_neg (by rw [hl, ← hqd]; omega), ← hqd, List.drop_drop, hn, ha]; simp only [Nat.add_assoc]
    rw [hr]
    have hnk : n < 2 ^ k := by rw [hn]; exact take_num_lt _ _ _
    have hd3 : decide (8 * (s.size : Int) - (a : Int) < (k : Int)) = false := decide_eq_false (by omega)
    have P2 := Lib.hid (fun w1 h0 => peek_any b s a k w1 h0 (by omega) (by omega) (by omega))
    rw [← hn] at P2
    have hpk : (2 : Nat) ^ k ≤ 1099511627776 := Nat.pow_le_pow_right (n := 2) (by decide) hk
    have hqk : q * 2 ^ k ≤ 24 * 1099511627776 := Nat.mul_le_mul (by omega) hpk
    have g1 : IntKind.u64.wrap (q : Int) = (q : Int) := IntWalk.u64_in _ (by omega)
    have g2 : IntKind.u64.wrap (k : Int) = (k : Int) := IntWalk.u64_in _ (by omega)
    have g3 : min k 64 = k := by omega
    have g4 : IntKind.u64.wrap ((q : Int) * 2 ^ k) = (q : Int) * 2 ^ k := IntWalk.u64_in _ (by
      have : (q : Int) * 2 ^ k = ((q * 2 ^ k : Nat) : Int) := by norm_cast
      omega)
    have g5 : Go.bits .or .u64 (n : Int) ((q : Int) * 2 ^ k) = ((q * 2 ^ k + n : Nat) : Int) := by
      have e : (q : Int) * 2 ^ k = ((q * 2 ^ k : Nat) : Int) := by norm_cast
      rw [e, u64_or_nat _ _ (by omega) (by omega), Nat.or_comm]
      congr 1
      rw [Nat.mul_comm, Nat.two_pow_add_eq_or_of_lt hnk]
    have hai : (a : Int) ≤ 8000100 := by omega
    have hki : (k : Int) ≤ 40 := by omega
    have Ha := Lib.hid ha
    clear hx hhd hqd hlt hqt hsh hY hYZ hbl ha hX hj hq h hs hl hr hsh' hn hnk hpk hqk
    generalize q * 2 ^ k + n = z at *
    go_enter Try.func67, Try.ntmps67
    go_wp2_with fail
    refine L.out.mono ?_
    rintro e w1 ⟨rfl, hb1⟩
    have hr1 := hb1.rdr HH.out
    obtain ⟨c0, c1, f1⟩ := RdrOf.cells hr1
    have HR1 := Lib.hid hr1
    have HB1 := Lib.hid hb1
    clear hr1 hb1
    go_wp2_with fail
    refine (P.out _ c0).mono ?_
    rintro e w2 ⟨rfl, rfl⟩
    go_wp2_with fail
    refine (LZ.out _).mono ?_
    rintro e w3 ⟨rfl, rfl⟩
    go_wp2_with fail
    refine (P2.out _ c0).mono ?_
    rintro e w4 ⟨rfl, rfl⟩
    go_wp2_with fail
    go_ret2
    refine ⟨rfl, ?_, (HB1.out.but b).trans (but_set _ _ _ _)⟩
    have e9 : j + (q + 1 + k) = a + k := by have := Ha.out; omega
    simp only [e9]
    exact RdrOf.set2 HR1.out

set_option maxRecDepth 100000 in
set_option maxHeartbeats 2000000 in
theorem rice_far (b : Nat) (s : ByteArray) (j k : Nat) (w : World) (h : RdrOf 122 b s j w) (hs : s.size ≤ 1000000) (hj : j ≤ 8 * s.size) (hk : k ≤ 40) (hq : ¬ lead ((sbits s).drop j) 24 < 24) :
    Calls Try.prog 67 #[.pointer (some ⟨b, 0, none⟩), .int .i64 k] w (Got 122 b s j (riceR ((sbits s).drop j) k) w) := by
  have hk1 : decide ((k : Int) < 0) = false := decide_eq_false (by omega)
  have hk2 : decide ((40 : Int) < (k : Int)) = false := decide_eq_false (by omega)
  have L := Lib.hid (left_any b s j w h (by omega) (by omega))
  have HH := Lib.hid h
  have hl : ((sbits s).drop j).length = 8 * s.size - j := by rw [List.length_drop, sbits_size]
  obtain ⟨x, hx⟩ : ∃ x, x = 8 * s.size - j := ⟨_, rfl⟩
  rw [← hx] at L
  have hle := lead_le ((sbits s).drop j) 24
  have hx24 : 24 ≤ x := by omega
  have hif : (if (x : Int) < 24 then (x : Int) else 24) = 24 := by split <;> omega
  have hif' : min (24 : Int) (x : Int) = 24 := by omega
  have P := Lib.hid (fun w1 h0 => peek_any b s j 24 w1 h0 (by omega) (by omega) (by omega))
  have hlt : (((sbits s).drop j).take 24).length = 24 := by rw [List.length_take, hl]; omega
  have hqt : ((((sbits s).drop j).take 24).takeWhile id).length = 24 := by
    have : ((((sbits s).drop j).take 24).takeWhile id).length = lead ((sbits s).drop j) 24 := rfl
    omega
  obtain ⟨Y, Z, sh, hsh, hY, hYZ, hbl, hqh⟩ := head_facts hlt (by omega) hqt
  have LZ : ∀ w, Calls Try.prog 75 #[.int .u64 Z] w fun e w' => e = .returned (.int .i64 24) ∧ w = w' := fun w => lz_any Z 24 w (by omega) hbl (by omega)
  have HLZ := Lib.hid LZ
  have hs40 : sh = 40 := by omega
  subst hs40
  have e4 : IntKind.u64.wrap ((numB (((sbits s).drop j).take 24) : Int) * 1099511627776) = (Y : Int) := by
    rw [hY]
    rw [IntWalk.u64_in _ (by omega)]; omega
  obtain ⟨a, ha⟩ : ∃ a, a = j + 24 := ⟨_, rfl⟩
  have e6 : (j : Int) + 24 = (a : Int) := by omega
  have hj64 : (j : Int) ≤ 8000000 := by omega
  have hsz : (s.size : Int) ≤ 1000000 := by omega
  generalize hX : numB (((sbits s).drop j).take 24) = X at *
  have hxor := not_nat hYZ
  by_cases hsh' : x < 88
  · have hr : riceR ((sbits s).drop j) k = (0, 0, 10) := by unfold riceR; rw [if_neg hq, if_pos (by rw [hl]; omega)]
    rw [hr]
    have hd3 : decide (8 * (s.size : Int) - (a : Int) < 64) = true := decide_eq_true (by omega)
    clear hx hlt hqt hY hYZ hbl ha hX hj hq h hs hl hr hsh' hle hx24 LZ hsh
    go_enter Try.func67, Try.ntmps67
    go_wp2_with fail
    refine L.out.mono ?_
    rintro e w1 ⟨rfl, hb1⟩
    have hr1 := hb1.rdr HH.out
    obtain ⟨c0, c1, f1⟩ := RdrOf.cells hr1
    have HR1 := Lib.hid hr1
    have HB1 := Lib.hid hb1
    clear hr1 hb1
    go_wp2_with fail
    refine (P.out _ c0).mono ?_
    rintro e w2 ⟨rfl, rfl⟩
    go_wp2_with fail
    refine (HLZ.out _).mono ?_
    rintro e w3 ⟨rfl, rfl⟩
    go_wp2_with fail
    go_ret2
    exact ⟨rfl, HR1.out, HB1.out.but b⟩
  · obtain ⟨n, hn⟩ : ∃ n, n = numB (((sbits s).drop a).take 64) := ⟨_, rfl⟩
    have hr : riceR ((sbits s).drop j) k = if n / 2 ^ k < 24 then (0, 0, 11) else (n, 88, 0) := by
      unfold riceR; rw [if_neg hq, if_neg (by rw [hl]; omega), List.drop_drop, ← ha, ← hn]
    have hd3 : decide (8 * (s.size : Int) - (a : Int) < 64) = false := decide_eq_false (by omega)
    have P2 := Lib.hid (fun w1 h0 => peek_any b s a 64 w1 h0 (by omega) (by omega) (by omega))
    rw [← hn] at P2
    have g2 : IntKind.u64.wrap (k : Int) = (k : Int) := IntWalk.u64_in _ (by omega)
    have g3 : min k 64 = k := by omega
    have hshr := shr_nat n k
    have hcase : (decide (((n / 2 ^ k : Nat) : Int) < 24) = true ∧ riceR ((sbits s).drop j) k = (0, 0, 11)) ∨ (decide (((n / 2 ^ k : Nat) : Int) < 24) = false ∧ riceR ((sbits s).drop j) k = (n, 88, 0)) := by
      by_cases hc : n / 2 ^ k < 24
      · exact .inl ⟨decide_eq_true (by omega), by rw [hr, if_pos hc]⟩
      · exact .inr ⟨decide_eq_false (by omega), by rw [hr, if_neg hc]⟩
    have hai : (a : Int) ≤ 8000100 := by omega
    have hki : (k : Int) ≤ 40 := by omega
    have Ha := Lib.hid ha
    clear hx hlt hqt hY hYZ hbl ha hX hj hq h hs hl hr hsh' hle hx24 LZ hsh hn
    generalize n / 2 ^ k = z at *
    rcases hcase with ⟨hd4, hr⟩ | ⟨hd4, hr⟩
    all_goals
      rw [hr]
      clear hr
      go_enter Try.func67, Try.ntmps67
      go_wp2_with fail
      refine L.out.mono ?_
      rintro e w1 ⟨rfl, hb1⟩
      have hr1 := hb1.rdr HH.out
      obtain ⟨c0, c1, f1⟩ := RdrOf.cells hr1
      have HR1 := Lib.hid hr1
      have HB1 := Lib.hid hb1
      clear hr1 hb1
      go_wp2_with fail
      refine (P.out _ c0).mono ?_
      rintro e w2 ⟨rfl, rfl⟩
      go_wp2_with fail
      refine (HLZ.out _).mono ?_
      rintro e w3 ⟨rfl, rfl⟩
      go_wp2_with fail
      refine (P2.out _ c0).mono ?_
      rintro e w4 ⟨rfl, rfl⟩
      go_wp2_with fail
      go_ret2
    · exact ⟨rfl, HR1.out, HB1.out.but b⟩
    · refine ⟨rfl, ?_, (HB1.out.but b).trans (but_set _ _ _ _)⟩
      have e9 : j + 88 = a + 64 := by have := Ha.out; omega
      simp only [e9]
      exact RdrOf.set2 (t := 64) HR1.out

set_option maxRecDepth 100000 in
set_option maxHeartbeats 2000000 in
theorem rice_none (b : Nat) (s : ByteArray) (j k : Nat) (w : World) (h : RdrOf 122 b s j w) (hs : s.size ≤ 1000000) (hj : j = 8 * s.size) (hk : k ≤ 40) :
    Calls Try.prog 67 #[.pointer (some ⟨b, 0, none⟩), .int .i64 k] w (Got 122 b s j (riceR ((sbits s).drop j) k) w) := by
  have hl : (sbits s).drop j = [] := List.eq_nil_of_length_eq_zero (by rw [List.length_drop, sbits_size]; omega)
  have hr : riceR ((sbits s).drop j) k = (0, 0, 10) := by rw [hl]; unfold riceR lead; simp
  rw [hr]
  have hk1 : decide ((k : Int) < 0) = false := decide_eq_false (by omega)
  have hk2 : decide ((40 : Int) < (k : Int)) = false := decide_eq_false (by omega)
  have L := Lib.hid (left_any b s j w h (by omega) (by omega))
  rw [show 8 * s.size - j = 0 by omega] at L
  have HH := Lib.hid h
  have P := Lib.hid (fun w1 h0 => peek_any b s j 0 w1 h0 (by omega) (by omega) (by omega))
  rw [List.take_zero, numB_nil] at P
  obtain ⟨Z, hZ⟩ : ∃ Z, 0 + Z = 18446744073709551615 := ⟨_, Nat.zero_add _⟩
  have hxor : Go.bits .xor .u64 IntKind.u64.max 0 = (Z : Int) := not_nat hZ
  have hm0 : min (24 : Int) 0 = 0 := by decide
  have hbl : Lib.bitLen Z = 64 - 0 := by
    obtain rfl : Z = 18446744073709551615 := by omega
    decide +kernel
  have LZ : ∀ w, Calls Try.prog 75 #[.int .u64 Z] w fun e w' => e = .returned (.int .i64 0) ∧ w = w' := fun w => lz_any Z 0 w (by omega) hbl (by omega)
  have HLZ := Lib.hid LZ
  have hj64 : (j : Int) ≤ 8000000 := by omega
  have hsz : (s.size : Int) ≤ 1000000 := by omega
  have hd3 : decide (8 * (s.size : Int) - ((j : Int) + 1) < (k : Int)) = true := decide_eq_true (by omega)
  clear hl hr hZ hbl LZ hj hs h
  go_enter Try.func67, Try.ntmps67
  go_wp2_with fail
  refine L.out.mono ?_
  rintro e w1 ⟨rfl, hb1⟩
  have hr1 := hb1.rdr HH.out
  obtain ⟨c0, c1, f1⟩ := RdrOf.cells hr1
  have HR1 := Lib.hid hr1
  have HB1 := Lib.hid hb1
  clear hr1 hb1
  go_wp2_with fail
  refine (P.out _ c0).mono ?_
  rintro e w2 ⟨rfl, rfl⟩
  go_wp2_with fail
  refine (HLZ.out _).mono ?_
  rintro e w3 ⟨rfl, rfl⟩
  go_wp2_with fail
  go_ret2
  exact ⟨rfl, HR1.out, HB1.out.but b⟩

set_option maxRecDepth 100000 in
theorem rice_bad (b : Nat) (s : ByteArray) (j : Nat) (k : Int) (w : World) (h : RdrOf 122 b s j w) (hk : k < 0 ∨ 40 < k) :
    Calls Try.prog 67 #[.pointer (some ⟨b, 0, none⟩), .int .i64 k] w (Got 122 b s j (0, 0, 1) w) := by
  have hc : decide (k < 0) = true ∨ (decide (k < 0) = false ∧ decide (40 < k) = true) := by
    simp only [decide_eq_true_eq, decide_eq_false_iff_not]; omega
  have HH := Lib.hid h
  clear hk h
  rcases hc with h1 | ⟨h1, h2⟩
  all_goals
    go_enter Try.func67, Try.ntmps67
    go_wp2_with fail
    go_ret2
    exact ⟨rfl, HH.out, But.refl _ _⟩

theorem readRice_any (b : Nat) (s : ByteArray) (j : Nat) (k : Int) (w : World) (h : RdrOf 122 b s j w) (hs : s.size ≤ 1000000) (hj : j ≤ 8 * s.size) :
    Calls Try.prog 67 #[.pointer (some ⟨b, 0, none⟩), .int .i64 k] w (Got 122 b s j (riceZ ((sbits s).drop j) k) w) := by
  unfold riceZ
  by_cases hk : 0 ≤ k ∧ k ≤ 40
  · rw [if_pos hk]
    obtain ⟨t, rfl⟩ := Int.eq_ofNat_of_zero_le hk.1
    have ht : t ≤ 40 := by omega
    show Calls _ _ #[_, .int .i64 ((t : Nat) : Int)] w (Got _ b s j (riceR ((sbits s).drop j) t) w)
    by_cases hq : lead ((sbits s).drop j) 24 < 24
    · by_cases he : j = 8 * s.size
      · exact rice_none b s j t w h hs he ht
      · exact rice_small b s j t w h hs (by omega) ht hq
    · exact rice_far b s j t w h hs hj ht hq
  · rw [if_neg hk]
    exact rice_bad b s j k w h (by omega)

theorem riceZ_le (l : List Bool) (k : Int) : (riceZ l k).2.1 ≤ l.length := by
  have hl := lead_le l 24
  unfold riceZ riceR
  split
  · split
    · split
      · exact Nat.zero_le _
      · rename_i h1 h2; exact Nat.le_of_not_lt h2
    · split
      · exact Nat.zero_le _
      · split
        · exact Nat.zero_le _
        · rename_i h1 h2 h3; exact Nat.le_of_not_lt h2
  · exact Nat.zero_le _
theorem getZ_le (l : List Bool) (k : Int) : (getZ l k).2.1 ≤ l.length := by
  unfold getZ getR
  split
  · split
    · exact Nat.zero_le _
    · rename_i h1 h2; exact Nat.le_of_not_lt h2
  · exact Nat.zero_le _
end Go.Proofs.Ytmafdbdmmfpeeaa

/-! RReader -/
namespace Go.Proofs.Ytmafdbdmmfpeeaa
open Go Go.RowKit

theorem rread_any (s : ByteArray) (w : World) :
    Calls Try.prog 54 #[.string s] w fun e w' => e = .returned (.pointer (some ⟨w.heap.size, 0, none⟩)) ∧ w' = w.alloc (.cells #[.string s, .int .i64 0] 119) := by
  go_enter Try.func54, Try.ntmps54
  go_wp2_with fail
  go_ret
  exact ⟨rfl, rfl⟩

theorem rleft_any (b : Nat) (s : ByteArray) (j : Nat) (w : World) (h : RdrOf 119 b s j w) (hs : s.size < 1099511627776) (hj : j ≤ 8 * s.size + 1) :
    Calls Try.prog 69 #[.pointer (some ⟨b, 0, none⟩)] w fun e w' => e = .returned (.int .i64 (8 * (s.size : Int) - (j : Int))) ∧ Still w w' := by
  obtain ⟨c0, c1, -⟩ := h.cells
  have e2 : IntKind.i64.wrap (8 * (s.size : Int)) = 8 * (s.size : Int) := IntWalk.i64_in _ (by omega)
  have e3 : IntKind.i64.wrap (8 * (s.size : Int) - (j : Int)) = 8 * (s.size : Int) - (j : Int) := IntWalk.i64_in _ (by omega)
  clear hj
  go_enter Try.func69, Try.ntmps69
  go_wp2_with fail
  go_quiet (fail)
  go_wp2_with fail
  go_ret
  exact ⟨rfl, rfl, rfl, rfl, rfl⟩

/-- a bit, as a number -/
def bitN (s : ByteArray) (p : Nat) : Nat := numB (((sbits s).drop p).take 1)
theorem ret_u64 {a b : Int} (h : a = b) : Ending.returned (.int .u64 a) = .returned (.int .u64 b) := by rw [h]
theorem bitN_le (s : ByteArray) (p : Nat) : bitN s p ≤ 1 := by have := take_num_lt (sbits s) p 1; unfold bitN; omega
theorem bitN_of {s : ByteArray} {p : Nat} (h : p < 8 * s.size) : ∃ hp : p < (sbits s).length, bitN s p = (sbits s)[p].toNat := by
  have hp : p < (sbits s).length := by rw [sbits_size]; exact h
  refine ⟨hp, ?_⟩
  unfold bitN
  rw [List.drop_eq_getElem_cons hp, List.take_succ_cons, List.take_zero, numB_cons]
  simp [numB]

set_option maxRecDepth 100000 in
theorem bit_any (b : Nat) (s : ByteArray) (p : Nat) (w : World) (h0 : w.cell? ⟨b, 0, none⟩ = some (.string s)) (hs : s.size ≤ 1000000) (hp : p < 8 * s.size) :
    Calls Try.prog 70 #[.pointer (some ⟨b, 0, none⟩), .int .i64 p] w fun e w' => e = .returned (.int .u64 (bitN s p)) ∧ w = w' := by
  obtain ⟨i, hi⟩ : ∃ i, i = p / 8 := ⟨_, rfl⟩
  obtain ⟨o, ho⟩ : ∃ o, o = p % 8 := ⟨_, rfl⟩
  obtain ⟨r, hr⟩ : ∃ r, r = 7 - o := ⟨_, rfl⟩
  have his : i < s.size := by omega
  have hb : bitN s p = s[i].toNat / 2 ^ r % 2 := by
    unfold bitN
    have := part_at (s := s) (i := i) (o := o) (t := 1) his (by omega)
    rw [show 8 * i + o = p by omega, show 8 - o - 1 = r by omega] at this
    exact this
  rw [hb]
  have hqi : (p : Int) / 8 = (i : Int) := by omega
  have hqo : (p : Int) % 8 = (o : Int) := by omega
  have hri : 7 - (o : Int) = (r : Int) := by omega
  have hsh := shr_nat s[i].toNat r
  obtain ⟨hdv, hcl⟩ := byte_shr s[i] r
  have hps : (p : Int) ≤ 8000000 := by omega
  have ho8 : (o : Int) < 8 := by omega
  have hr8 : (r : Int) < 8 := by omega
  have w4 : IntKind.u64.wrap (r : Int) = (r : Int) := IntWalk.u64_in _ (by omega)
  have hm8 : min r 8 = r := by omega
  have hm64 : min r 64 = r := by omega
  have hy : ((s[i].toNat / 2 ^ r : Nat) : Int) ≤ 255 := by omega
  clear hi ho hr hb hp hs
  have hy2 : ((s[i].toNat / 2 ^ r % 2 : Nat) : Int) = ((s[i].toNat / 2 ^ r : Nat) : Int) % 2 := by omega
  have HY2 := Lib.hid hy2
  clear hy2 hdv hcl
  generalize s[i].toNat / 2 ^ r = y at *
  have w5 : IntKind.u64.wrap (y : Int) = (y : Int) := IntWalk.u64_in _ (by omega)
  go_enter Try.func70, Try.ntmps70
  go_wp2_with fail
  go_ret
  exact ⟨ret_u64 HY2.out.symm, rfl⟩

theorem num_step {s : ByteArray} {j i : Nat} (h : j + i < 8 * s.size) (hi : i < 64) :
    numB (((sbits s).drop j).take (i + 1)) = 2 * numB (((sbits s).drop j).take i) + bitN s (j + i) ∧ 2 * numB (((sbits s).drop j).take i) + bitN s (j + i) < 18446744073709551616 := by
  have h1 := take_add_num ((sbits s).drop j) i 1 (by rw [List.length_drop, sbits_size]; omega)
  rw [List.drop_drop] at h1
  have e : numB (((sbits s).drop j).take (i + 1)) = 2 * numB (((sbits s).drop j).take i) + bitN s (j + i) := by
    rw [h1]; unfold bitN; omega
  refine ⟨e, ?_⟩
  rw [← e]
  exact Nat.lt_of_lt_of_le (take_num_lt _ _ _) (Nat.pow_le_pow_right (n := 2) (by decide) (by omega : i + 1 ≤ 64))

set_option maxRecDepth 100000 in
set_option maxHeartbeats 1000000 in
theorem rget_any (b : Nat) (s : ByteArray) (j : Nat) (k : Int) (w : World) (h : RdrOf 119 b s j w) (hs : s.size ≤ 1000000) (hj : j ≤ 8 * s.size) :
    Calls Try.prog 71 #[.pointer (some ⟨b, 0, none⟩), .int .i64 k] w (Got 119 b s j (getZ ((sbits s).drop j) k) w) := by
  have hc : (decide (k < 0) = true ∧ ¬ (0 ≤ k ∧ k ≤ 64)) ∨ (decide (k < 0) = false ∧ decide (64 < k) = true ∧ ¬ (0 ≤ k ∧ k ≤ 64)) ∨ (decide (k < 0) = false ∧ decide (64 < k) = false ∧ ∃ t : Nat, k = (t : Int) ∧ t ≤ 64) := by
    simp only [decide_eq_true_eq, decide_eq_false_iff_not]
    by_cases h1 : k < 0
    · exact .inl ⟨h1, by omega⟩
    · by_cases h2 : 64 < k
      · exact .inr (.inl ⟨h1, h2, by omega⟩)
      · exact .inr (.inr ⟨h1, h2, k.toNat, by omega, by omega⟩)
  have HH := Lib.hid h
  rcases hc with ⟨h1, h2⟩ | ⟨h1, h2, h3⟩ | ⟨h1, h2, t, rfl, h3⟩
  · have e : getZ ((sbits s).drop j) k = (0, 0, 1) := by unfold getZ; rw [if_neg h2]
    rw [e]
    clear e h2 h
    go_enter Try.func71, Try.ntmps71
    go_wp2_with fail
    go_ret2
    exact ⟨rfl, HH.out, But.refl _ _⟩
  · have e : getZ ((sbits s).drop j) k = (0, 0, 1) := by unfold getZ; rw [if_neg h3]
    rw [e]
    clear e h3 h
    go_enter Try.func71, Try.ntmps71
    go_wp2_with fail
    go_ret2
    exact ⟨rfl, HH.out, But.refl _ _⟩
  · have L := Lib.hid (rleft_any b s j w h (by omega) (by omega))
    have hl : ((sbits s).drop j).length = 8 * s.size - j := by rw [List.length_drop, sbits_size]
    by_cases hc : 8 * s.size - j < t
    · have e : getZ ((sbits s).drop j) (t : Int) = (0, 0, 10) := by unfold getZ getR; rw [if_pos ⟨by omega, by omega⟩, if_pos (by rw [hl]; omega)]
      rw [e]
      have hd : decide (8 * (s.size : Int) - (j : Int) < (t : Int)) = true := decide_eq_true (by omega)
      clear e hl h hj hc hs
      go_enter Try.func71, Try.ntmps71
      go_wp2_with fail
      refine L.out.mono ?_
      rintro e w1 ⟨rfl, hb1⟩
      go_wp2_with fail
      go_ret2
      exact ⟨rfl, hb1.rdr HH.out, hb1.but b⟩
    · have e : getZ ((sbits s).drop j) (t : Int) = (numB (((sbits s).drop j).take t), t, 0) := by unfold getZ getR; rw [if_pos ⟨by omega, by omega⟩, if_neg (by rw [hl]; omega)]; rfl
      rw [e]
      have hd : decide (8 * (s.size : Int) - (j : Int) < (t : Int)) = false := decide_eq_false (by omega)
      have hjs : (j : Int) ≤ 8000000 := by omega
      have ht64 : (t : Int) ≤ 64 := by omega
      have Hjt := Lib.hid (show j + t ≤ 8 * s.size by omega)
      have Hs := Lib.hid hs
      clear e hl h hj hc hs
      go_enter Try.func71, Try.ntmps71
      go_wp2_with fail
      refine L.out.mono ?_
      rintro e w1 ⟨rfl, hb1⟩
      have hr1 := hb1.rdr HH.out
      obtain ⟨c0, c1, f1⟩ := RdrOf.cells hr1
      have HR1 := Lib.hid hr1
      have HB1 := Lib.hid hb1
      clear hr1 hb1
      go_wp2_with fail
      go_loop [6, 7] (fun n ix => ∃ i : Nat, ix = .int .i64 i ∧ i ≤ t ∧ n = .int .u64 (numB (((sbits s).drop j).take i) : Nat)) (fun _ ix => t - (intOf ix).toNat)
      case atStart => exact ⟨0, rfl, by omega, rfl⟩
      case round =>
        obtain ⟨i, rfl, hi, rfl⟩ := hrel
        by_cases hlt : i < t
        · obtain ⟨n1, n2⟩ := num_step (s := s) (j := j) (i := i) (by have := Hjt.out; omega) (by omega)
          have B := Lib.hid (fun w h0 => bit_any b s (j + i) w h0 Hs.out (by have := Hjt.out; omega))
          have hji : (j : Int) + (i : Int) = ((j + i : Nat) : Int) := by omega
          have N1 := Lib.hid n1
          generalize bitN s (j + i) = y at *
          generalize numB (((sbits s).drop j).take i) = n at *
          have m1 : IntKind.u64.wrap (2 * (n : Int)) = 2 * (n : Int) := IntWalk.u64_in _ (by omega)
          have m2 : IntKind.u64.wrap (2 * (n : Int) + (y : Int)) = ((2 * n + y : Nat) : Int) := by rw [IntWalk.u64_in _ (by omega)]; omega
          clear n1 n2
          generalize j + i = p at *
          go_wp2_with fail
          refine (B.out _ c0).mono ?_
          rintro e w2 ⟨rfl, rfl⟩
          go_wp2_with fail
          go_round
          case rel => exact ⟨i + 1, by go_num, by omega, by congr 1; rw [N1.out]; omega⟩
          case measure => simp [intOf]; omega
        · obtain rfl : i = t := by omega
          go_wp2_with fail
          go_ret2
          exact ⟨rfl, RdrOf.set2 HR1.out, (HB1.out.but b).trans (but_set _ _ _ _)⟩

theorem bitN_zero {s : ByteArray} {j : Nat} (h : ∀ i, j ≤ i → i < 8 * s.size → bitN s i = 0) : numB ((sbits s).drop j) = 0 := by
  rw [numB_zero]
  intro b hb
  obtain ⟨i, hi, rfl⟩ := List.getElem_of_mem hb
  rw [List.length_drop, sbits_size] at hi
  obtain ⟨hp, e⟩ := bitN_of (s := s) (p := j + i) (by omega)
  have h0 := h (j + i) (by omega) (by omega)
  rw [List.getElem_drop]
  rw [h0] at e
  cases hx : (sbits s)[j + i]
  · rfl
  · rw [hx] at e; simp at e
theorem bitN_one {s : ByteArray} {j i : Nat} (hj : j ≤ i) (hi : i < 8 * s.size) (h : bitN s i = 1) : numB ((sbits s).drop j) ≠ 0 := by
  intro h0
  rw [numB_zero] at h0
  obtain ⟨hp, e⟩ := bitN_of (s := s) (p := i) hi
  have hm : (sbits s)[i] ∈ (sbits s).drop j := by
    rw [List.mem_iff_getElem]
    refine ⟨i - j, by rw [List.length_drop]; omega, ?_⟩
    rw [List.getElem_drop]; congr 1; omega
  rw [h0 _ hm, h] at e
  simp at e

end Go.Proofs.Ytmafdbdmmfpeeaa

/-! RRead2 -/
namespace Go.Proofs.Ytmafdbdmmfpeeaa
open Go Go.RowKit

theorem lead_form (l : List Bool) (m : Nat) : ∃ r, l.take m = List.replicate (lead l m) true ++ r ∧ (r = [] ∨ ∃ r', r = false :: r') := by
  unfold lead
  rcases takeWhile_form (l.take m) with ⟨q, r, h1, h2⟩ | ⟨h1, h2⟩
  · rw [h2]; exact ⟨_, h1, .inr ⟨r, rfl⟩⟩
  · rw [h2]; exact ⟨[], by rw [List.append_nil]; exact h1, .inl rfl⟩
theorem lead_in {l : List Bool} {m q : Nat} (h : q < lead l m) : q < m ∧ ∃ hq : q < l.length, l[q] = true := by
  have hle := lead_le l m
  obtain ⟨r, h1, _⟩ := lead_form l m
  refine ⟨by omega, by omega, ?_⟩
  have h2 : (l.take m)[q]? = some true := by
    rw [h1, List.getElem?_append_left (by rw [List.length_replicate]; exact h), List.getElem?_replicate, if_pos h]
  rw [List.getElem?_take, if_pos (by omega), List.getElem?_eq_getElem (by omega)] at h2
  exact Option.some.inj h2
theorem lead_stop {l : List Bool} {m : Nat} (h : lead l m < m) (hl : lead l m < l.length) : l[lead l m] = false := by
  obtain ⟨r, h1, h2⟩ := lead_form l m
  have hlen := congrArg List.length h1
  rw [List.length_take, List.length_append, List.length_replicate] at hlen
  rcases h2 with rfl | ⟨r', rfl⟩
  · simp at hlen; omega
  · have h2 : (l.take m)[lead l m]? = some false := by
      rw [h1, List.getElem?_append_right (by rw [List.length_replicate]; exact Nat.le_refl _), List.length_replicate, Nat.sub_self]; rfl
    rw [List.getElem?_take, if_pos h, List.getElem?_eq_getElem hl] at h2
    exact Option.some.inj h2

theorem drop_bit {s : ByteArray} {j q : Nat} (h : j + q < 8 * s.size) (hq : q < ((sbits s).drop j).length) : bitN s (j + q) = (((sbits s).drop j)[q]).toNat := by
  obtain ⟨hp, e⟩ := bitN_of (s := s) (p := j + q) h
  rw [e, List.getElem_drop]

theorem bit_one (b : Nat) (s : ByteArray) (p : Nat) (w : World) (h0 : w.cell? ⟨b, 0, none⟩ = some (.string s)) (hs : s.size ≤ 1000000) (hp : p < 8 * s.size) (h : bitN s p = 1) :
    Calls Try.prog 70 #[.pointer (some ⟨b, 0, none⟩), .int .i64 p] w fun e w' => e = .returned (.int .u64 1) ∧ w = w' := by
  have B := bit_any b s p w h0 hs hp
  rw [h] at B; exact B
theorem bit_zero (b : Nat) (s : ByteArray) (p : Nat) (w : World) (h0 : w.cell? ⟨b, 0, none⟩ = some (.string s)) (hs : s.size ≤ 1000000) (hp : p < 8 * s.size) (h : bitN s p = 0) :
    Calls Try.prog 70 #[.pointer (some ⟨b, 0, none⟩), .int .i64 p] w fun e w' => e = .returned (.int .u64 0) ∧ w = w' := by
  have B := bit_any b s p w h0 hs hp
  rw [h] at B; exact B

theorem got_of {T : TypeId} {b j : Nat} {s : ByteArray} {g g' : Nat × Nat × Nat} {w w' : World} {e : Ending} (h : g = g') (he : e = .returned (.tuple #[.int .u64 (g'.1 : Nat), .int .i64 (g'.2.2 : Nat)])) (hr : RdrOf T b s (j + g'.2.1) w') (hb : But b w w') :
    e = .returned (.tuple #[.int .u64 (g.1 : Nat), .int .i64 (g.2.2 : Nat)]) ∧ RdrOf T b s (j + g.2.1) w' ∧ But b w w' := by
  subst h; exact ⟨he, hr, hb⟩

/-- behind the bits 1 at the head -/
def Ones (b : Nat) (s : ByteArray) (j q : Nat) (w wr : World) : Prop := RdrOf 119 b s (j + q) wr ∧ But b w wr

set_option maxRecDepth 100000 in
set_option maxHeartbeats 2000000 in
theorem rrice_in (b : Nat) (s : ByteArray) (j k : Nat) (w : World) (h : RdrOf 119 b s j w) (hs : s.size ≤ 1000000) (hj : j ≤ 8 * s.size) (hk : k ≤ 40) :
    Calls Try.prog 55 #[.pointer (some ⟨b, 0, none⟩), .int .i64 k] w (Got 119 b s j (riceR ((sbits s).drop j) k) w) := by
  have hk1 : decide ((k : Int) < 0) = false := decide_eq_false (by omega)
  have hk2 : decide ((40 : Int) < (k : Int)) = false := decide_eq_false (by omega)
  obtain ⟨c0, c1, f1⟩ := RdrOf.cells h
  have HH := Lib.hid h
  have hl : ((sbits s).drop j).length = 8 * s.size - j := by rw [List.length_drop, sbits_size]
  have Hl := Lib.hid hl
  have hle := lead_le ((sbits s).drop j) 24
  obtain ⟨ld, hld⟩ : ∃ ld, ld = lead ((sbits s).drop j) 24 := ⟨_, rfl⟩
  rw [hl, ← hld] at hle
  have Hle := Lib.hid hle
  have Hld := Lib.hid hld
  have Hs := Lib.hid hs
  have Hj := Lib.hid hj
  have hj64 : (j : Int) ≤ 8000000 := by omega
  have hsz : (s.size : Int) ≤ 1000000 := by omega
  clear h hl hle hld hs hj
  go_enter Try.func55, Try.ntmps55
  go_wp2_with fail
  go_loopw [7] (fun qv wr => ∃ q : Nat, qv = .int .u64 q ∧ q ≤ ld ∧ Ones b s j q w wr) (fun qv _ => 24 - (intOf qv).toNat)
  case atStart => exact ⟨0, rfl, by omega, HH.out, But.refl _ _⟩
  case round =>
    clear c0 c1 f1
    obtain ⟨q, rfl, hq, hO⟩ := hrel
    have hle := Hle.out
    have hqi : (q : Int) ≤ 24 := by omega
    have HO := Lib.hid hO
    by_cases hlt : q < ld
    · obtain ⟨l1, l2, l3⟩ := lead_in (l := (sbits s).drop j) (m := 24) (q := q) (by rw [← Hld.out]; exact hlt)
      have hjq : j + q < 8 * s.size := by have := Hl.out; omega
      have hb1 : bitN s (j + q) = 1 := by rw [drop_bit hjq l2, l3]; rfl
      have L := Lib.hid (rleft_any b s (j + q) wr hO.1 (by have := Hs.out; omega) (by omega))
      have B := Lib.hid (fun w h0 => bit_one b s (j + q) w h0 Hs.out hjq hb1)
      have d1 : decide ((q : Int) < 24) = true := decide_eq_true (by omega)
      have d2 : decide ((0 : Int) < 8 * (s.size : Int) - ((j + q : Nat) : Int)) = true := decide_eq_true (by omega)
      have d3 : decide (((j + q : Nat) : Int) < 8 * (s.size : Int)) = true := decide_eq_true (by omega)
      have Hlt := Lib.hid (And.intro hlt l1)
      obtain ⟨p, hp⟩ : ∃ p, p = j + q := ⟨_, rfl⟩
      rw [← hp] at L B d2 d3
      have hpi : (p : Int) ≤ 8000000 := by have := Hs.out; omega
      have Hp := Lib.hid hp
      clear hlt l1 l2 l3 hjq hb1 hO hq hp hle
      go_wp2_with fail
      refine L.out.mono ?_
      rintro e w1 ⟨rfl, hs1⟩
      have hr1 := hs1.rdr HO.out.1
      rw [← Hp.out] at hr1
      obtain ⟨c0, c1, f1⟩ := RdrOf.cells hr1
      have HR1 := Lib.hid hr1
      have HB1 := Lib.hid hs1
      clear hr1 hs1
      go_wp2_with fail
      refine (B.out _ c0).mono ?_
      rintro e w2 ⟨rfl, rfl⟩
      go_wp2_with fail
      go_roundw
      case rel =>
        have := Hlt.out
        refine ⟨q + 1, by go_num, by omega, ?_, (HO.out.2.trans (HB1.out.but b)).trans (but_set _ _ _ _)⟩
        have e9 : j + (q + 1) = p + 1 := by have := Hp.out; omega
        rw [e9]
        exact RdrOf.set2 (t := 1) HR1.out
      case measure => have := Hlt.out; simp [intOf]; omega
    · have hqe : q = ld := by omega
      clear hlt
      have hlen := Hl.out
      have hlead : lead ((sbits s).drop j) 24 = q := by rw [hqe]; exact Hld.out.symm
      by_cases h24 : q = 24
      · obtain rfl := h24
        clear hqe
        have hr : riceR ((sbits s).drop j) k = if 8 * s.size - j < 88 then (0, 0, 10) else if numB (((sbits s).drop (j + 24)).take 64) / 2 ^ k < 24 then (0, 0, 11) else (numB (((sbits s).drop (j + 24)).take 64), 88, 0) := by
          unfold riceR; rw [hlead, if_neg (by omega), hlen, List.drop_drop]
        have hg : getZ ((sbits s).drop (j + 24)) 64 = if 8 * s.size - j < 88 then (0, 0, 10) else (numB (((sbits s).drop (j + 24)).take 64), 64, 0) := by
          unfold getZ getR
          rw [if_pos (by decide)]
          have : ((sbits s).drop (j + 24)).length = 8 * s.size - (j + 24) := by rw [List.length_drop, sbits_size]
          rw [this]
          show (if 8 * s.size - (j + 24) < 64 then _ else _) = _
          by_cases hc : 8 * s.size - j < 88
          · rw [if_pos hc, if_pos (by omega)]
          · rw [if_neg hc, if_neg (by omega)]; rfl
        have G := rget_any b s (j + 24) 64 wr hO.1 Hs.out (by omega)
        rw [hg] at G
        have g2 : IntKind.u64.wrap (k : Int) = (k : Int) := IntWalk.u64_in _ (by omega)
        have g3 : min k 64 = k := by omega
        have hki : (k : Int) ≤ 40 := by omega
        have f24 : decide (((24 : Nat) : Int) < 24) = false := by decide
        by_cases hc : 8 * s.size - j < 88
        · rw [if_pos hc] at G hr
          have G' := Lib.hid G
          have HR := Lib.hid hr
          clear G hr hg hc hlead hlen hO hle hq
          go_wp2_with fail
          refine G'.out.mono ?_
          rintro e w1 ⟨rfl, hr1, hb1⟩
          obtain ⟨c0, c1, f1⟩ := RdrOf.cells hr1
          have HR1 := Lib.hid hr1
          have HB1 := Lib.hid hb1
          clear hr1 hb1
          go_wp2_with fail
          go_ret2
          refine got_of HR.out rfl ?_ ((HO.out.2.trans HB1.out).trans (but_set _ _ _ _))
          exact HR1.out.set
        · rw [if_neg hc] at G hr
          have hshr := shr_nat (numB (((sbits s).drop (j + 24)).take 64)) k
          generalize numB (((sbits s).drop (j + 24)).take 64) = n at *
          have hcase : (decide (((n / 2 ^ k : Nat) : Int) < 24) = true ∧ n / 2 ^ k < 24) ∨ (decide (((n / 2 ^ k : Nat) : Int) < 24) = false ∧ ¬ n / 2 ^ k < 24) := by
            by_cases hc : n / 2 ^ k < 24
            · exact .inl ⟨decide_eq_true (by omega), hc⟩
            · exact .inr ⟨decide_eq_false (by omega), hc⟩
          rcases hcase with ⟨hd4, hcc⟩ | ⟨hd4, hcc⟩
          · rw [if_pos hcc] at hr
            have G' := Lib.hid G
            have HR := Lib.hid hr
            clear G hr hg hc hlead hlen hO hle hq hcc
            generalize n / 2 ^ k = z at *
            go_wp2_with fail
            refine G'.out.mono ?_
            rintro e w1 ⟨rfl, hr1, hb1⟩
            obtain ⟨c0, c1, f1⟩ := RdrOf.cells hr1
            have HR1 := Lib.hid hr1
            have HB1 := Lib.hid hb1
            clear hr1 hb1
            go_wp2_with fail
            go_ret2
            refine got_of HR.out rfl ?_ ((HO.out.2.trans HB1.out).trans (but_set _ _ _ _))
            exact HR1.out.set
          · rw [if_neg hcc] at hr
            have G' := Lib.hid G
            have HR := Lib.hid hr
            clear G hr hg hc hlead hlen hO hle hq hcc
            generalize n / 2 ^ k = z at *
            go_wp2_with fail
            refine G'.out.mono ?_
            rintro e w1 ⟨rfl, hr1, hb1⟩
            obtain ⟨c0, c1, f1⟩ := RdrOf.cells hr1
            have HR1 := Lib.hid hr1
            have HB1 := Lib.hid hb1
            clear hr1 hb1
            go_wp2_with fail
            go_ret2
            refine got_of HR.out rfl ?_ (HO.out.2.trans HB1.out)
            exact HR1.out
      · have hlt24 : q < 24 := by omega
        have f24 : decide ((q : Int) < 24) = true := decide_eq_true (by omega)
        obtain ⟨p, hp⟩ : ∃ p, p = j + q := ⟨_, rfl⟩
        have L := Lib.hid (rleft_any b s (j + q) wr hO.1 (by have := Hs.out; omega) (by have := Hj.out; omega))
        rw [← hp] at L
        have hpi : (p : Int) ≤ 8000000 := by have := Hs.out; have := Hj.out; omega
        by_cases hend : j + q = 8 * s.size
        · have hr : riceR ((sbits s).drop j) k = (0, 0, 10) := by unfold riceR; rw [hlead, if_pos hlt24, if_pos (by rw [hlen]; omega)]
          have HR := Lib.hid hr
          have d2 : decide ((0 : Int) < 8 * (s.size : Int) - (p : Int)) = false := decide_eq_false (by omega)
          have d3 : decide ((p : Int) < 8 * (s.size : Int)) = false := decide_eq_false (by omega)
          have d4 : decide ((0 : Int) ≤ 8 * (s.size : Int) - ((p + 1 : Nat) : Int)) = false := decide_eq_false (by omega)
          have d5 : decide (((p + 1 : Nat) : Int) ≤ 8 * (s.size : Int)) = false := decide_eq_false (by omega)
          have e1 : (p : Int) + 1 = ((p + 1 : Nat) : Int) := by omega
          have L2 := Lib.hid (fun w' (h' : RdrOf 119 b s (p + 1) w') => rleft_any b s (p + 1) w' h' (by have := Hs.out; omega) (by omega))
          have hr0 := hO.1
          rw [← hp] at hr0
          have HR0 := Lib.hid hr0
          have Hp := Lib.hid hp
          generalize hp1 : p + 1 = p1 at *
          have Hp1 := Lib.hid hp1
          clear hp1 hr hlead hlen hO hle hq hqe h24 hlt24 hp hend hr0
          go_wp2_with fail
          refine L.out.mono ?_
          rintro e w1 ⟨rfl, hs1⟩
          have hr1 := hs1.rdr HR0.out
          obtain ⟨c0, c1, f1⟩ := RdrOf.cells hr1
          have HR1 := Lib.hid hr1
          have HB1 := Lib.hid hs1
          clear hr1 hs1
          go_wp2_with fail
          have hr2 := RdrOf.set (k := p1) HR1.out
          refine (L2.out _ hr2).mono ?_
          rintro e w2 ⟨rfl, hs2⟩
          have hr3 := hs2.rdr hr2
          obtain ⟨c0, c1, f1⟩ := RdrOf.cells hr3
          have HR3 := Lib.hid hr3
          have HB2 := Lib.hid hs2
          clear hr3 hs2 hr2
          go_wp2_with fail
          go_ret2
          refine got_of HR.out rfl ?_ ((((HO.out.2.trans (HB1.out.but b)).trans (but_set _ _ _ _)).trans (HB2.out.but b)).trans (but_set _ _ _ _))
          exact HR3.out.set
        · have hj8 := Hj.out
          have hs8 := Hs.out
          have hqe2 : j + q < 8 * s.size := by omega
          have hqlen : q < ((sbits s).drop j).length := by rw [hlen]; omega
          have hb0 : bitN s (j + q) = 0 := by
            rw [drop_bit hqe2 hqlen]
            have := lead_stop (l := (sbits s).drop j) (m := 24) (by omega) (by omega)
            simp only [hlead] at this
            rw [this]; rfl
          have B := Lib.hid (fun w h0 => bit_zero b s (j + q) w h0 hs8 hqe2 hb0)
          rw [← hp] at B
          have hr : riceR ((sbits s).drop j) k = if 8 * s.size - j < q + 1 + k then (0, 0, 10) else (q * 2 ^ k + numB (((sbits s).drop (p + 1)).take k), q + 1 + k, 0) := by
            unfold riceR; rw [hlead, if_pos hlt24, hlen, List.drop_drop, hp, Nat.add_assoc j q 1]
          have hg : getZ ((sbits s).drop (p + 1)) k = if 8 * s.size - j < q + 1 + k then (0, 0, 10) else (numB (((sbits s).drop (p + 1)).take k), k, 0) := by
            unfold getZ getR
            rw [if_pos ⟨by omega, by omega⟩]
            have : ((sbits s).drop (p + 1)).length = 8 * s.size - (p + 1) := by rw [List.length_drop, sbits_size]
            rw [this]
            show (if 8 * s.size - (p + 1) < k then _ else _) = _
            by_cases hc : 8 * s.size - j < q + 1 + k
            · rw [if_pos hc, if_pos (by omega)]
            · rw [if_neg hc, if_neg (by omega)]; rfl
          have G := fun w' (h' : RdrOf 119 b s (p + 1) w') => rget_any b s (p + 1) k w' h' Hs.out (by omega)
          rw [hg] at G
          have d2 : decide ((0 : Int) < 8 * (s.size : Int) - (p : Int)) = true := decide_eq_true (by omega)
          have d3 : decide ((p : Int) < 8 * (s.size : Int)) = true := decide_eq_true (by omega)
          have d4 : decide ((0 : Int) ≤ 8 * (s.size : Int) - ((p + 1 : Nat) : Int)) = true := decide_eq_true (by omega)
          have d5 : decide (((p + 1 : Nat) : Int) ≤ 8 * (s.size : Int)) = true := decide_eq_true (by omega)
          have e1 : (p : Int) + 1 = ((p + 1 : Nat) : Int) := by omega
          have L2 := Lib.hid (fun w' (h' : RdrOf 119 b s (p + 1) w') => rleft_any b s (p + 1) w' h' (by have := Hs.out; omega) (by omega))
          have hr0 := hO.1
          rw [← hp] at hr0
          have HR0 := Lib.hid hr0
          have Hp := Lib.hid hp
          have hpk : (2 : Nat) ^ k ≤ 1099511627776 := Nat.pow_le_pow_right (n := 2) (by decide) hk
          have hqk : q * 2 ^ k ≤ 24 * 1099511627776 := Nat.mul_le_mul (by omega) hpk
          have hnk : numB (((sbits s).drop (p + 1)).take k) < 2 ^ k := take_num_lt _ _ _
          generalize numB (((sbits s).drop (p + 1)).take k) = n at *
          have g2 : IntKind.u64.wrap (k : Int) = (k : Int) := IntWalk.u64_in _ (by omega)
          have g3 : min k 64 = k := by omega
          have hqc : (q : Int) * 2 ^ k = ((q * 2 ^ k : Nat) : Int) := by norm_cast
          have g4 : IntKind.u64.wrap ((q : Int) * 2 ^ k) = (q : Int) * 2 ^ k := IntWalk.u64_in _ (by omega)
          have g5 : IntKind.u64.wrap ((q : Int) * 2 ^ k + (n : Int)) = ((q * 2 ^ k + n : Nat) : Int) := by rw [hqc, IntWalk.u64_in _ (by omega)]; omega
          have hki : (k : Int) ≤ 40 := by omega
          generalize hp1 : p + 1 = p1 at *
          have Hp1 := Lib.hid hp1
          clear hp1 hg hlead hlen hO hle hq hqe h24 hlt24 hp hend hr0 hqe2 hqlen hb0 hj8 hs8 hpk hqk hnk hqc
          by_cases hc : 8 * s.size - j < q + 1 + k
          · rw [if_pos hc] at hr G
            have HR := Lib.hid hr
            have HG := Lib.hid G
            clear hr G hc
            go_wp2_with fail
            refine L.out.mono ?_
            rintro e w1 ⟨rfl, hs1⟩
            have hr1 := hs1.rdr HR0.out
            obtain ⟨c0, c1, f1⟩ := RdrOf.cells hr1
            have HR1 := Lib.hid hr1
            have HB1 := Lib.hid hs1
            clear hr1 hs1
            go_wp2_with fail
            refine (B.out _ c0).mono ?_
            rintro e w2 ⟨rfl, rfl⟩
            go_wp2_with fail
            have hr2 := RdrOf.set (k := p1) HR1.out
            refine (L2.out _ hr2).mono ?_
            rintro e w2 ⟨rfl, hs2⟩
            have hr3 := hs2.rdr hr2
            have HR3 := Lib.hid hr3
            have HB2 := Lib.hid hs2
            clear hr3 hs2 hr2
            go_wp2_with fail
            refine (HG.out _ HR3.out).mono ?_
            rintro e w4 ⟨rfl, hr4, hb4⟩
            obtain ⟨c0, c1, f1⟩ := RdrOf.cells hr4
            have HR4 := Lib.hid hr4
            have HB4 := Lib.hid hb4
            clear hr4 hb4
            go_wp2_with fail
            go_ret2
            refine got_of HR.out rfl ?_ (((((HO.out.2.trans (HB1.out.but b)).trans (but_set _ _ _ _)).trans (HB2.out.but b)).trans HB4.out).trans (but_set _ _ _ _))
            exact HR4.out.set
          · rw [if_neg hc] at hr G
            have HR := Lib.hid hr
            have HG := Lib.hid G
            clear hr G hc
            go_wp2_with fail
            refine L.out.mono ?_
            rintro e w1 ⟨rfl, hs1⟩
            have hr1 := hs1.rdr HR0.out
            obtain ⟨c0, c1, f1⟩ := RdrOf.cells hr1
            have HR1 := Lib.hid hr1
            have HB1 := Lib.hid hs1
            clear hr1 hs1
            go_wp2_with fail
            refine (B.out _ c0).mono ?_
            rintro e w2 ⟨rfl, rfl⟩
            go_wp2_with fail
            have hr2 := RdrOf.set (k := p1) HR1.out
            refine (L2.out _ hr2).mono ?_
            rintro e w2 ⟨rfl, hs2⟩
            have hr3 := hs2.rdr hr2
            have HR3 := Lib.hid hr3
            have HB2 := Lib.hid hs2
            clear hr3 hs2 hr2
            go_wp2_with fail
            refine (HG.out _ HR3.out).mono ?_
            rintro e w4 ⟨rfl, hr4, hb4⟩
            have HR4 := Lib.hid hr4
            have HB4 := Lib.hid hb4
            clear hr4 hb4
            go_wp2_with fail
            go_ret2
            refine got_of HR.out rfl ?_ ((((HO.out.2.trans (HB1.out.but b)).trans (but_set _ _ _ _)).trans (HB2.out.but b)).trans HB4.out)
            have e9 : j + (q + 1 + k) = p1 + k := by have := Hp.out; have := Hp1.out; omega
            rw [e9]
            exact HR4.out

theorem rreadRice_any (b : Nat) (s : ByteArray) (j : Nat) (k : Int) (w : World) (h : RdrOf 119 b s j w) (hs : s.size ≤ 1000000) (hj : j ≤ 8 * s.size) :
    Calls Try.prog 55 #[.pointer (some ⟨b, 0, none⟩), .int .i64 k] w (Got 119 b s j (riceZ ((sbits s).drop j) k) w) := by
  unfold riceZ
  by_cases hk : 0 ≤ k ∧ k ≤ 40
  · rw [if_pos hk]
    obtain ⟨t, rfl⟩ := Int.eq_ofNat_of_zero_le hk.1
    exact rrice_in b s j t w h hs hj (by omega)
  · rw [if_neg hk]
    have hc : decide (k < 0) = true ∨ (decide (k < 0) = false ∧ decide (40 < k) = true) := by
      simp only [decide_eq_true_eq, decide_eq_false_iff_not]; omega
    have HH := Lib.hid h
    clear hk h
    rcases hc with h1 | ⟨h1, h2⟩
    all_goals
      go_enter Try.func55, Try.ntmps55
      go_wp2_with fail
      go_ret2
      exact ⟨rfl, HH.out, But.refl _ _⟩
end Go.Proofs.Ytmafdbdmmfpeeaa
