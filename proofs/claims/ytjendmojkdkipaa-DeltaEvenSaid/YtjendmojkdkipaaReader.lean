/-
  The walks of rice.Reader: peek, Left, Get, End.
-/
import Derived.Test.YtjendmojkdkipaaBitPlain
import Derived.Test.YtjendmojkdkipaaVPut
import Derived.Test.YtjendmojkdkipaaKeep
import Derived.Lib.Builder
namespace Go.Proofs.Ytjendmojkdkipaa
open Go Go.RowKit

/-- a reader of either text lies at b: the bytes, the bit at which it stands -/
def RdrOf (T : TypeId) (b : Nat) (s : ByteArray) (j : Nat) (w : World) : Prop := w.heap[b]? = some (.cells #[.string s, .int .i64 (j : Int)] T (0, 0))
theorem RdrOf.cells {T : TypeId} {b j : Nat} {s : ByteArray} {w : World} (h : RdrOf T b s j w) : w.cell? ⟨b, 0, none⟩ = some (.string s) ∧ w.cell? ⟨b, 1, none⟩ = some (.int .i64 (j : Int)) ∧ w.frozen? ⟨b, 1, none⟩ = false :=
  ⟨(Lib.cell_of_heap h 0).trans rfl, (Lib.cell_of_heap h 1).trans rfl, Lib.frozen_of_heap h 1⟩
theorem RdrOf.set {T : TypeId} {b j k : Nat} {s : ByteArray} {w : World} (h : RdrOf T b s j w) : RdrOf T b s k (w.setCell ⟨b, 1, none⟩ (.int .i64 (k : Int))) := by
  unfold RdrOf at *
  simp [World.setCell, Array.getElem?_modify, h]
theorem RdrOf.set2 {T : TypeId} {b j k t : Nat} {s : ByteArray} {w : World} (h : RdrOf T b s j w) : RdrOf T b s (k + t) (w.setCell ⟨b, 1, none⟩ (.int .i64 ((k : Int) + (t : Int)))) := by
  rw [← Int.natCast_add]; exact h.set
/-- a call that leaves all but the block b, and makes nothing -/
structure But (b : Nat) (w w' : World) : Prop where
  os : w'.os = w.os
  tape : w'.tape = w.tape
  output : w'.output = w.output
  size : w'.heap.size = w.heap.size
  block : ∀ k, k ≠ b → w'.heap[k]? = w.heap[k]?
theorem But.refl (b : Nat) (w : World) : But b w w := ⟨rfl, rfl, rfl, rfl, fun _ _ => rfl⟩
theorem But.trans {b : Nat} {a c d : World} (h : But b a c) (k : But b c d) : But b a d :=
  ⟨k.os.trans h.os, k.tape.trans h.tape, k.output.trans h.output, k.size.trans h.size, fun i hi => (k.block i hi).trans (h.block i hi)⟩
theorem but_set (b j : Nat) (w : World) (v : Value) : But b w (w.setCell ⟨b, j, none⟩ v) :=
  ⟨rfl, rfl, rfl, by simp [World.setCell], fun k hk => Below.heap_setCell _ _ _ _ hk⟩
theorem But.drewl {b : Nat} {w w' : World} (h : But b w.drew w') : But b w w' := ⟨h.os, h.tape, h.output, h.size, h.block⟩
theorem But.drewr {b : Nat} {w w' : World} (h : But b w w') : But b w w'.drew := ⟨h.os, h.tape, h.output, h.size, h.block⟩
theorem But.below {b B : Nat} {w w' : World} (h : But b w w') (hb : B ≤ b) : Below B w w' := ⟨h.os, h.tape, h.output, Nat.le_of_eq h.size.symm, fun k hk => h.block k (by omega)⟩

def sbits (s : ByteArray) : List Bool := bitsOf s.data.toList
theorem sbits_size (s : ByteArray) : (sbits s).length = 8 * s.size := by unfold sbits; rw [bitsOf_length, Lib.size_eq]

theorem part_at {s : ByteArray} {i o t : Nat} (hi : i < s.size) (h : o + t ≤ 8) : numB (((sbits s).drop (8 * i + o)).take t) = s[i].toNat / 2 ^ (8 - o - t) % 2 ^ t := by
  have hl : i < s.data.toList.length := by rw [← Lib.size_eq]; exact hi
  exact part_byte s.data.toList i o t hl h

theorem take_num_lt (l : List Bool) (j k : Nat) : numB ((l.drop j).take k) < 2 ^ k := by
  refine Nat.lt_of_lt_of_le (numB_lt _) (Nat.pow_le_pow_right (by decide) ?_)
  rw [List.length_take]; omega

theorem peek_step {s : ByteArray} {p j i o t r : Nat} (hi : i < s.size) (hq : p + j = 8 * i + o) (ho : o + t ≤ 8) (hr : r = 8 - o - t) (hj : j + t ≤ 64) (hp : p + j + t ≤ 8 * s.size) :
    numB (((sbits s).drop p).take (j + t)) = numB (((sbits s).drop p).take j) * 2 ^ t + s[i].toNat / 2 ^ r % 2 ^ t ∧ numB (((sbits s).drop p).take j) * 2 ^ t + s[i].toNat / 2 ^ r % 2 ^ t < 18446744073709551616 ∧ s[i].toNat / 2 ^ r % 2 ^ t < 2 ^ t := by
  have hpart := part_at (s := s) (i := i) (o := o) (t := t) hi ho
  have hstep := take_add_num ((sbits s).drop p) j t (by rw [List.length_drop, sbits_size]; omega)
  rw [List.drop_drop, hq, hpart, ← hr] at hstep
  have hall := take_num_lt (sbits s) p (j + t)
  have h64 : (2 : Nat) ^ (j + t) ≤ 18446744073709551616 := Nat.pow_le_pow_right (n := 2) (by decide) hj
  exact ⟨hstep, by rw [← hstep]; omega, Nat.mod_lt _ (Nat.two_pow_pos t)⟩
theorem byte_shr (c : UInt8) (r : Nat) : c.toNat / 2 ^ r ≤ c.toNat ∧ c.toNat < 256 := ⟨Nat.div_le_self _ _, UInt8.toNat_lt c⟩
theorem pow_wraps {t : Nat} (ht : t ≤ 8) : IntKind.u64.wrap ((2 : Int) ^ t) = (2 : Int) ^ t ∧ IntKind.u64.wrap ((2 : Int) ^ t - 1) = (2 : Int) ^ t - 1 := by
  have hpt : (2 : Nat) ^ t ≤ 256 := Nat.pow_le_pow_right (n := 2) (by decide) ht
  have hpt0 := Nat.two_pow_pos t
  have hpi : (2 : Int) ^ t = ((2 ^ t : Nat) : Int) := by norm_cast
  exact ⟨IntWalk.u64_in _ (by omega), IntWalk.u64_in _ (by omega)⟩

set_option maxRecDepth 100000 in
set_option maxHeartbeats 1000000 in
theorem peek_any (b : Nat) (s : ByteArray) (p k : Nat) (w : World) (h0 : w.cell? ⟨b, 0, none⟩ = some (.string s)) (hs : s.size < 1099511627776) (hk : k ≤ 64) (hp : p + k ≤ 8 * s.size) :
    Calls Try.prog 54 #[.pointer (some ⟨b, 0, none⟩), .int .i64 p, .int .i64 k] w fun e w' => e = .returned (.int .u64 (numB (((sbits s).drop p).take k) : Nat)) ∧ w = w' := by
  go_enter Try.func54, Try.ntmps54
  go_wp2
  go_loop [1, 2, 7] (fun at' many n => ∃ j : Nat, j ≤ k ∧ at' = .int .i64 ((p + j : Nat) : Int) ∧ many = .int .i64 ((k - j : Nat) : Int) ∧ n = .int .u64 (numB (((sbits s).drop p).take j) : Nat)) (fun _ many _ => (intOf many).toNat)
  case atStart => exact ⟨0, by omega, rfl, rfl, rfl⟩
  case round =>
    obtain ⟨j, hj, rfl, rfl, rfl⟩ := hrel
    by_cases hlt : j < k
    · obtain ⟨q, hq⟩ : ∃ q, q = p + j := ⟨_, rfl⟩
      obtain ⟨m, hm⟩ : ∃ m, m = k - j := ⟨_, rfl⟩
      obtain ⟨i, hi⟩ : ∃ i, i = q / 8 := ⟨_, rfl⟩
      obtain ⟨o, ho⟩ : ∃ o, o = q % 8 := ⟨_, rfl⟩
      obtain ⟨t, ht⟩ : ∃ t, t = min (8 - o) m := ⟨_, rfl⟩
      have hmi : (if (m : Int) < 8 - (o : Int) then (m : Int) else 8 - (o : Int)) = (t : Int) := by split <;> omega
      obtain ⟨r, hr⟩ : ∃ r, r = 8 - o - t := ⟨_, rfl⟩
      have hri : 8 - (o : Int) - (t : Int) = (r : Int) := by omega
      have hqi : (q : Int) / 8 = (i : Int) := by omega
      have hqo : (q : Int) % 8 = (o : Int) := by omega
      have his : i < s.size := by omega
      have ho8 : (o : Int) < 8 := by omega
      have hm0 : (0 : Int) < (m : Int) := by omega
      have hm64 : (m : Int) ≤ 64 := by omega
      have hqs : (q : Int) ≤ 8796093022208 := by omega
      obtain ⟨hstep, hsum, hylt⟩ := peek_step (s := s) (p := p) (j := j) (i := i) (o := o) (t := t) (r := r) his (by omega) (by omega) hr (by omega) (by omega)
      obtain ⟨hdv, hcl⟩ := byte_shr s[i] r
      have hsh := shr_nat s[i].toNat r
      have hmi2 : ((s[i].toNat / 2 ^ r : Nat) : Int) % 2 ^ t = ((s[i].toNat / 2 ^ r % 2 ^ t : Nat) : Int) := by norm_cast
      have ht8' : t ≤ 8 := by omega
      have hr8' : r ≤ 8 := by omega
      have htm : (t : Int) ≤ (m : Int) := by omega
      have h1t : (1 : Int) ≤ (t : Int) := by omega
      have h1m : 1 ≤ t ∧ t ≤ m ∧ m = k - j := by omega
      have Hs := Lib.hid hs
      have Hh := Lib.hid (And.intro hp h1m)
      rw [← hq, ← hm]
      have Hqq := Lib.hid hq
      clear hr hi ho ht hm hq h1m hs hp
      generalize s[i].toNat / 2 ^ r % 2 ^ t = y at *
      generalize s[i].toNat / 2 ^ r = z at *
      generalize numB (((sbits s).drop p).take j) = n at *
      have hor := or_put (a := n) (n := y) (k := t) hylt hsum
      have hw1 : IntKind.u64.wrap ((n : Int) * 2 ^ t) = (n : Int) * 2 ^ t := IntWalk.u64_in _ (by
        have : (n : Int) * 2 ^ t = ((n * 2 ^ t : Nat) : Int) := by norm_cast
        omega)
      obtain ⟨w2, w3⟩ := pow_wraps ht8'
      have hmask := bits_mask .u64 64 (by decide) wraps_u64 t (by omega) (z : Int) (by omega) (by omega)
      have w4 : IntKind.u64.wrap (r : Int) = (r : Int) := IntWalk.u64_in _ (by omega)
      have w5 : IntKind.u64.wrap (t : Int) = (t : Int) := IntWalk.u64_in _ (by omega)
      have w6 : IntKind.u64.wrap (s[i].toNat : Int) = (s[i].toNat : Int) := IntWalk.u64_in _ (by omega)
      have hmr : min r 64 = r := by omega
      have hmt : min t 64 = t := by omega
      have ht8 : (t : Int) ≤ 8 := by omega
      have hr8 : (r : Int) ≤ 8 := by omega
      have Hstep := Lib.hid hstep
      clear hsum hylt hdv hcl hstep
      go_wp2_with fail
      go_round
      case rel =>
        have := Hh.out
        have := Hqq.out
        clear hor hmask hmi2 hsh hw1 w2 w3
        exact ⟨j + t, by omega, by congr 1; omega, by congr 1; omega, by congr 1; rw [Hstep.out]; norm_cast⟩
      case measure => simp [intOf]; omega
    · obtain rfl : j = k := by omega
      rw [Nat.sub_self]
      go_wp2_with fail
      go_ret
      exact ⟨rfl, rfl⟩

/-- what Get answers, at whatever number of bits -/
def getZ (l : List Bool) (k : Int) : Nat × Nat × Nat := if 0 ≤ k ∧ k ≤ 64 then getR l k.toNat else (0, 0, 1)
def riceZ (l : List Bool) (k : Int) : Nat × Nat × Nat := if 0 ≤ k ∧ k ≤ 40 then riceR l k.toNat else (0, 0, 1)
/-- a reader's call: the number, how many bits are taken, the error -/
def Got (T : TypeId) (b : Nat) (s : ByteArray) (j : Nat) (g : Nat × Nat × Nat) (w : World) (e : Ending) (w' : World) : Prop :=
  e = .returned (.tuple #[.int .u64 (g.1 : Nat), .int .i64 (g.2.2 : Nat)]) ∧ RdrOf T b s (j + g.2.1) w' ∧ But b w w'

/-- a call that leaves the reader as it was -/
def Still (w w' : World) : Prop := w'.os = w.os ∧ w'.tape = w.tape ∧ w'.output = w.output ∧ w'.heap = w.heap
theorem Still.refl (w : World) : Still w w := ⟨rfl, rfl, rfl, rfl⟩
theorem Still.but {w w' : World} (h : Still w w') (b : Nat) : But b w w' := ⟨h.1, h.2.1, h.2.2.1, by rw [h.2.2.2], fun _ _ => by rw [h.2.2.2]⟩
theorem Still.rdr {w w' : World} (h : Still w w') {T : TypeId} {b j : Nat} {s : ByteArray} (hr : RdrOf T b s j w) : RdrOf T b s j w' := by unfold RdrOf at *; rw [h.2.2.2]; exact hr
theorem Still.below {w w' : World} (h : Still w w') : Below w.heap.size w w' := ⟨h.1, h.2.1, h.2.2.1, by rw [h.2.2.2]; exact Nat.le_refl _, fun _ _ => by rw [h.2.2.2]⟩

theorem left_any (b : Nat) (s : ByteArray) (j : Nat) (w : World) (h : RdrOf 87 b s j w) (hs : s.size < 1099511627776) (hj : j ≤ 8 * s.size) :
    Calls Try.prog 52 #[.pointer (some ⟨b, 0, none⟩)] w fun e w' => e = .returned (.int .i64 ((8 * s.size - j : Nat) : Int)) ∧ Still w w' := by
  obtain ⟨c0, c1, -⟩ := h.cells
  have e1 : ((8 * s.size - j : Nat) : Int) = 8 * (s.size : Int) - (j : Int) := by omega
  rw [e1]
  have e2 : IntKind.i64.wrap (8 * (s.size : Int)) = 8 * (s.size : Int) := IntWalk.i64_in _ (by omega)
  have e3 : IntKind.i64.wrap (8 * (s.size : Int) - (j : Int)) = 8 * (s.size : Int) - (j : Int) := IntWalk.i64_in _ (by omega)
  clear e1 hj
  go_enter Try.func52, Try.ntmps52
  go_wp2_with fail
  go_quiet (fail)
  go_wp2_with fail
  go_ret
  exact ⟨rfl, rfl, rfl, rfl, rfl⟩

end Go.Proofs.Ytjendmojkdkipaa
