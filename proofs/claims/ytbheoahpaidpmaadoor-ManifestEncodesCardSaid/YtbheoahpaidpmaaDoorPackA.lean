/-
  What the walks of this claim stand on: Base, ZigNum, ZigFold, ZigPlain, Own, ZigUint, ZigWrite, ZigRefPlain, ZigGet, ZigRGet, ZigRead, one behind the other.
-/
import Derived.Test.YtbheoahpaidpmaaDoorRows
import Derived.WalkKit
import Derived.ProofKit
import Derived.OpenShut
import Derived.ShutString
import Derived.ChangeOld
import Derived.Below
import Derived.Lib.Hide
import Derived.Lib.Strings
import Derived.WalkSpells
import Derived.WalkLawsBesides
import Derived.BigQuiet
import Derived.Deep.QuietTactic
import Derived.Deep.RegionWith
import Derived.Deep.RegionHeld3
import Derived.Deep.LoopGhost
import Derived.Deep.DeepMust
import Derived.Deep.DeepFit
import Derived.Outline
import Derived.StillTailTactics
import Derived.Laws.BitsAllLaws
import Derived.Lib.Zigzag
import Derived.Laws.Bits64
import Derived.Laws.IdiomStrings
import Derived.Maps.AppendAt
/-! Base -/
namespace Go.Proofs.YtbheoahpaidpmaaDoor
open Go Go.RowKit

theorem ret_int {k : IntKind} {a b : Int} (h : a = b) : Ending.returned (.int k a) = .returned (.int k b) := by rw [h]
theorem ret_bool {a b : Bool} (h : a = b) : Ending.returned (.bool a) = .returned (.bool b) := by rw [h]
theorem ret_str {a b : ByteArray} (h : a = b) : Ending.returned (.string a) = .returned (.string b) := by rw [h]
/-- two calls, one behind the other -/
theorem _root_.Go.RowKit.Below.then {a b c : World} (h : Below a.heap.size a b) (k : Below b.heap.size b c) : Below a.heap.size a c := h.trans (k.mono h.size)
theorem below_two (w : World) (o o' : Obj) : Below w.heap.size w ((w.alloc o).alloc o') := ((Below.refl _ _).alloc (Nat.le_refl _) o).alloc (by simp) o'
/-- what a call that makes memory leaves as it was: two rules for the walk -/
theorem bcell {W w1 : World} (hb : Below W.heap.size W w1) : (∀ b o, b < W.heap.size → w1.cell? ⟨b, o, none⟩ = W.cell? ⟨b, o, none⟩) ∧ (∀ b o, b < W.heap.size → w1.frozen? ⟨b, o, none⟩ = W.frozen? ⟨b, o, none⟩) :=
  ⟨fun b o h => hb.cell (p := ⟨b, o, none⟩) h, fun b o h => hb.frozen (p := ⟨b, o, none⟩) h⟩
theorem keepc {w w1 : World} {a : Addr} {v : Value} (hb : Below w.heap.size w w1) (h : w.cell? a = some v) : w1.cell? a = some v := (hb.cell (World.block_lt_of_cell? w a h)).trans h
theorem _root_.Go.RowKit.Below.drewl {w w' : World} (h : Below w.drew.heap.size w.drew w') : Below w.heap.size w w' := ((Below.refl _ _).drew).trans h
theorem _root_.Go.RowKit.Below.allocl {w w' : World} {o : Obj} (h : Below (w.alloc o).heap.size (w.alloc o) w') : Below w.heap.size w w' := Below.then ((Below.refl _ _).alloc (Nat.le_refl _) o) h
theorem _root_.Go.RowKit.Below.one (w : World) (o : Obj) : Below w.heap.size w (w.alloc o) := (Below.refl _ _).alloc (Nat.le_refl _) o
end Go.Proofs.YtbheoahpaidpmaaDoor

/-! ZigNum -/
namespace Go.Proofs.YtbheoahpaidpmaaDoor
open Go Go.RowKit

/-- the number of an integer: 0, -1, 1, -2, .. -/
def foldN (n : Int) : Nat := if 0 ≤ n then (2 * n).toNat else (-2 * n - 1).toNat
/-- the integer of a number -/
def unfoldN (k : Nat) : Int := if k % 2 = 0 then (k / 2 : Nat) else -((k / 2 : Nat) : Int) - 1

theorem foldN_lt {n : Int} (h0 : -9223372036854775808 ≤ n) (h1 : n ≤ 9223372036854775807) : foldN n < 18446744073709551616 := by
  unfold foldN; split <;> omega
theorem unfoldN_lo {k : Nat} (h : k < 18446744073709551616) : -9223372036854775808 ≤ unfoldN k := by
  unfold unfoldN; split <;> omega
theorem unfoldN_hi {k : Nat} (h : k < 18446744073709551616) : unfoldN k ≤ 9223372036854775807 := by
  unfold unfoldN; split <;> omega
theorem unfold_fold (n : Int) : unfoldN (foldN n) = n := by
  unfold unfoldN foldN; split <;> split <;> omega
theorem fold_unfold (k : Nat) : foldN (unfoldN k) = k := by
  unfold unfoldN foldN; split <;> split <;> omega
theorem foldN_small {n : Int} (h0 : -1000 ≤ n) (h1 : n ≤ 1000) : foldN n ≤ 2000 := by
  unfold foldN; split <;> omega
theorem foldN_inj {a b : Int} (h : foldN a = foldN b) : a = b := by
  have := congrArg unfoldN h; simpa [unfold_fold] using this

/-- 'uint64(n<<1) ^ uint64(n>>63)' -/
theorem fold_prog {n : Int} (h0 : -9223372036854775808 ≤ n) (h1 : n ≤ 9223372036854775807) :
    bits .xor .u64 (IntKind.u64.wrap (wrap64 (n * 2))) (IntKind.u64.wrap (n / 9223372036854775808)) = (foldN n : Int) := by
  by_cases h : 0 ≤ n
  · have e1 : IntKind.u64.wrap (wrap64 (n * 2)) = ((2 * n).toNat : Int) := by rw [IntKind.wrap_u64]; unfold wrap64; omega
    have e2 : IntKind.u64.wrap (n / 9223372036854775808) = ((0 : Nat) : Int) := by rw [IntKind.wrap_u64]; omega
    rw [e1, e2, bits_xor_u64_nat _ _ (by omega) (by omega)]
    unfold foldN; rw [if_pos h, Nat.xor_zero]
  · have e1 : IntKind.u64.wrap (wrap64 (n * 2)) = ((2 * n + 18446744073709551616).toNat : Int) := by rw [IntKind.wrap_u64]; unfold wrap64; omega
    have e2 : IntKind.u64.wrap (n / 9223372036854775808) = ((2 ^ 64 - 1 : Nat) : Int) := by
      have : n / 9223372036854775808 = -1 := by omega
      rw [this, IntKind.wrap_u64]; rfl
    rw [e1, e2, bits_xor_u64_nat _ _ (by omega) (by omega), Nat.xor_comm, Lib.xor_ones64 _ (by omega)]
    unfold foldN; rw [if_neg h]; omega

/-- 'int(n>>1) ^ -int(n&1)' -/
theorem unfold_prog {k : Nat} (h : k < 18446744073709551616) :
    bits .xor .i64 (wrap64 ((k : Int) / 2)) (wrap64 (-wrap64 (bits .and .u64 (k : Int) 1))) = unfoldN k := by
  rw [Lib.u64_and1 _ (by omega) (by omega)]
  have e1 : wrap64 ((k : Int) / 2) = ((k / 2 : Nat) : Int) := by unfold wrap64; omega
  by_cases hk : k % 2 = 0
  · have e2 : wrap64 (-wrap64 ((k : Int) % 2)) = ((0 : Nat) : Int) := by unfold wrap64; omega
    rw [e1, e2]
    show IntKind.i64.wrap ((BitVec.ofInt 64 ((k / 2 : Nat) : Int) ^^^ BitVec.ofInt 64 ((0 : Nat) : Int)).toNat : Int) = _
    have h1 : (BitVec.ofInt 64 ((k / 2 : Nat) : Int)).toNat = k / 2 := by
      rw [BitVec.ofInt_natCast, BitVec.toNat_ofNat]; exact Nat.mod_eq_of_lt (by omega)
    have h2 : (BitVec.ofInt 64 ((0 : Nat) : Int)).toNat = 0 := by decide
    rw [BitVec.toNat_xor, h1, h2, Nat.xor_zero, IntKind.wrap_i64]
    unfold unfoldN; rw [if_pos hk]; omega
  · have e2 : wrap64 (-wrap64 ((k : Int) % 2)) = -1 := by unfold wrap64; omega
    rw [e1, e2]
    show IntKind.i64.wrap ((BitVec.ofInt 64 ((k / 2 : Nat) : Int) ^^^ BitVec.ofInt 64 (-1)).toNat : Int) = _
    have h1 : (BitVec.ofInt 64 ((k / 2 : Nat) : Int)).toNat = k / 2 := by
      rw [BitVec.ofInt_natCast, BitVec.toNat_ofNat]; exact Nat.mod_eq_of_lt (by omega)
    have h2 : (BitVec.ofInt 64 (-1)).toNat = 2 ^ 64 - 1 := by decide
    rw [BitVec.toNat_xor, h1, h2, Nat.xor_comm, Lib.xor_ones64 _ (by omega), IntKind.wrap_i64]
    unfold unfoldN; rw [if_neg hk]; omega

theorem rfold_nonneg {n : Int} (h0 : 0 ≤ n) (h1 : n ≤ 9223372036854775807) : IntKind.u64.wrap (2 * IntKind.u64.wrap n) = (foldN n : Int) := by
  rw [IntKind.wrap_u64, IntKind.wrap_u64]; unfold foldN; rw [if_pos h0]; omega
theorem rfold_neg {n : Int} (h0 : n < 0) (h1 : -9223372036854775808 ≤ n) :
    IntKind.u64.wrap (IntKind.u64.wrap (2 * IntKind.u64.wrap (wrap64 (-wrap64 (n + 1)))) + 1) = (foldN n : Int) := by
  have : wrap64 (-wrap64 (n + 1)) = -(n + 1) := by unfold wrap64; omega
  rw [this, IntKind.wrap_u64, IntKind.wrap_u64, IntKind.wrap_u64]; unfold foldN; rw [if_neg (by omega)]; omega
theorem runfold_even {k : Nat} (he : k % 2 = 0) : (k : Int) / 2 = unfoldN k := by
  unfold unfoldN; rw [if_pos he]; omega
theorem runfold_odd {k : Nat} (he : ¬k % 2 = 0) : -((k : Int) / 2) - 1 = unfoldN k := by
  unfold unfoldN; rw [if_neg he]; omega
end Go.Proofs.YtbheoahpaidpmaaDoor

/-! ZigFold -/
namespace Go.Proofs.YtbheoahpaidpmaaDoor
open Go Go.RowKit

end Go.Proofs.YtbheoahpaidpmaaDoor

/-! ZigPlain -/
namespace Go.Proofs.YtbheoahpaidpmaaDoor

/-- a number as a byte -/
def byt (n : Nat) : UInt8 := UInt8.ofNat n

/-- the bytes of a number -/
def uint (n : Nat) : List UInt8 := if n < 128 then [byt n] else byt (n % 128 + 128) :: uint (n / 128)
termination_by n
decreasing_by omega

theorem uint_small {n : Nat} (h : n < 128) : uint n = [byt n] := by rw [uint, if_pos h]
theorem uint_big {n : Nat} (h : 128 ≤ n) : uint n = byt (n % 128 + 128) :: uint (n / 128) := by rw [uint, if_neg (by omega)]

theorem u8_lt (n : Nat) (h : n < 256) : (byt n).toNat = n := by
  unfold byt; rw [UInt8.toNat_ofNat']; omega
theorem byt_toNat (c : UInt8) : byt c.toNat = c := by unfold byt; simp

theorem uint_pos (n : Nat) : 0 < (uint n).length := by
  rw [uint]; split <;> simp

theorem uint_len_le : ∀ (k n : Nat), n < 128 ^ (k + 1) → (uint n).length ≤ k + 1 := by
  intro k
  induction k with
  | zero => intro n h; rw [uint_small (by simpa using h)]; simp
  | succ k ih =>
    intro n h
    by_cases hn : n < 128
    · rw [uint_small hn]; simp
    · rw [uint_big (by omega)]
      have := ih (n / 128) (by rw [Nat.pow_succ] at h; omega)
      simp; omega

theorem uint_len_ten {n : Nat} (h : n < 18446744073709551616) : (uint n).length ≤ 10 :=
  uint_len_le 9 n (by have : (128 : Nat) ^ (9 + 1) = 1180591620717411303424 := by decide
                      omega)

theorem lt_pow_len (n : Nat) : n < 128 ^ (uint n).length := by
  induction n using Nat.strongRecOn with
  | ind n ih =>
    by_cases hn : n < 128
    · rw [uint_small hn]; simpa using hn
    · rw [uint_big (by omega)]
      have := ih (n / 128) (by omega)
      simp only [List.length_cons, Nat.pow_succ]
      omega

theorem pow_len_le (n : Nat) (h : 1 < (uint n).length) : 128 ^ ((uint n).length - 1) ≤ n := by
  induction n using Nat.strongRecOn with
  | ind n ih =>
    by_cases hn : n < 128
    · rw [uint_small hn] at h; simp at h
    · rw [uint_big (by omega)]
      simp only [List.length_cons, Nat.add_sub_cancel]
      by_cases h1 : 1 < (uint (n / 128)).length
      · have := ih (n / 128) (by omega) h1
        obtain ⟨k, hk⟩ : ∃ k, (uint (n / 128)).length = k + 1 := ⟨_, (Nat.succ_pred_eq_of_pos (by omega)).symm⟩
        rw [hk] at this ⊢
        simp only [Nat.add_sub_cancel] at this
        rw [Nat.pow_succ]; omega
      · have := uint_pos (n / 128)
        rw [show (uint (n / 128)).length = 1 by omega]; omega

/-- reading on: i bytes were read, which come to acc -/
def scan (i acc : Nat) : List UInt8 → Nat × Nat × Nat
  | [] => if 10 ≤ i then (0, 0, 11) else (0, 0, 10)
  | c :: r =>
    if 10 ≤ i then (0, 0, 11)
    else if i = 9 ∧ 1 < c.toNat then (0, 0, 11)
    else if c.toNat = 0 ∧ 0 < i then (0, 0, 11)
    else if c.toNat < 128 then (acc + c.toNat * 128 ^ i, i + 1, 0)
    else scan (i + 1) (acc + (c.toNat - 128) * 128 ^ i) r

/-- the number at the head of bytes: the number, how many bytes it takes, the error -/
def get0 (l : List UInt8) : Nat × Nat × Nat := scan 0 0 l

theorem scan_uint : ∀ (n i acc : Nat) (r : List UInt8), i + (uint n).length ≤ 10 → (0 < i → 0 < n) → n * 128 ^ i < 18446744073709551616 →
    scan i acc (uint n ++ r) = (acc + n * 128 ^ i, i + (uint n).length, 0) := by
  intro n
  induction n using Nat.strongRecOn with
  | ind n ih =>
    intro i acc r hl hp hb
    by_cases hn : n < 128
    · rw [uint_small hn] at hl ⊢
      simp only [List.length_singleton, List.singleton_append, scan, u8_lt n (by omega)] at hl ⊢
      rw [if_neg (by omega), if_neg (by
        rintro ⟨rfl, h1⟩
        have : (128 : Nat) ^ 9 = 9223372036854775808 := by decide
        rw [this] at hb; omega), if_neg (by rintro ⟨h1, h2⟩; have := hp h2; omega), if_pos hn]
    · have hq := uint_pos (n / 128)
      rw [uint_big (by omega)] at hl ⊢
      simp only [List.length_cons, List.cons_append, scan, u8_lt (n % 128 + 128) (by omega)] at hl ⊢
      rw [if_neg (by omega), if_neg (by omega), if_neg (by omega), if_neg (by omega), show n % 128 + 128 - 128 = n % 128 by omega]
      have e : 128 ^ (i + 1) = 128 * 128 ^ i := by rw [Nat.pow_succ, Nat.mul_comm]
      have hdm := Nat.div_add_mod n 128
      have key : n * 128 ^ i = n % 128 * 128 ^ i + n / 128 * 128 ^ (i + 1) := by
        rw [e, ← Nat.mul_assoc, ← Nat.add_mul]; congr 1; omega
      rw [ih (n / 128) (by omega) (i + 1) _ r (by omega) (fun _ => by omega) (by omega), key]
      simp only [Prod.mk.injEq, and_true]; omega

theorem get0_uint {n : Nat} (h : n < 18446744073709551616) (r : List UInt8) : get0 (uint n ++ r) = (n, (uint n).length, 0) := by
  have := scan_uint n 0 0 r (by have := uint_len_ten h; omega) (by omega) (by simpa using h)
  simpa [get0] using this

theorem scan_sound : ∀ (l : List UInt8) (i acc m k : Nat), scan i acc l = (m, k, 0) →
    ∃ n r, l = uint n ++ r ∧ m = acc + n * 128 ^ i ∧ k = i + (uint n).length ∧ (0 < i → 0 < n) ∧ k ≤ 10 ∧ (i = 9 → n ≤ 1) ∧ (i < 9 → n < 2 * 128 ^ (9 - i)) := by
  intro l
  induction l with
  | nil => intro i acc m k h; simp only [scan] at h; split at h <;> simp at h
  | cons c l ih =>
    intro i acc m k h
    simp only [scan] at h
    split at h
    · simp at h
    split at h
    · simp at h
    split at h
    · simp at h
    rename_i h10 h9 h0
    split at h
    · rename_i hc
      simp only [Prod.mk.injEq, and_true] at h
      refine ⟨c.toNat, l, ?_, h.1.symm, ?_, fun hi => by omega, by omega, fun hi => by omega, fun hi => ?_⟩
      · rw [uint_small hc, byt_toNat]; simp
      · rw [uint_small hc]; simp; omega
      · have : 128 ^ 1 ≤ 128 ^ (9 - i) := Nat.pow_le_pow_right (by omega) (by omega)
        omega
    · rename_i hc
      obtain ⟨n, r, hr, hm, hk, hp, hk10, h9', hlt⟩ := ih _ _ _ _ h
      have hcl := c.toNat_lt
      have hnp := hp (by omega)
      have hup := uint_pos n
      have hd : (n * 128 + (c.toNat - 128)) / 128 = n := by omega
      have hmod : (n * 128 + (c.toNat - 128)) % 128 = c.toNat - 128 := by omega
      have hu : uint (n * 128 + (c.toNat - 128)) = c :: uint n := by
        rw [uint_big (by omega), hd, hmod, show c.toNat - 128 + 128 = c.toNat by omega, byt_toNat]
      refine ⟨n * 128 + (c.toNat - 128), r, ?_, ?_, ?_, fun _ => by omega, hk10, fun hi => by omega, fun hi => ?_⟩
      · rw [hu, hr]; rfl
      · rw [hm, Nat.pow_succ, Nat.add_mul, Nat.mul_comm (128 ^ i) 128, ← Nat.mul_assoc]; omega
      · rw [hu, hk, List.length_cons]; omega
      · by_cases hi8 : i = 8
        · subst hi8; have := h9' rfl; simp; omega
        · have := hlt (by omega)
          rw [show 9 - i = (9 - (i + 1)) + 1 by omega, Nat.pow_succ]; omega

theorem get0_sound {l : List UInt8} {m k : Nat} (h : get0 l = (m, k, 0)) : ∃ r, l = uint m ++ r ∧ k = (uint m).length ∧ m < 18446744073709551616 := by
  obtain ⟨n, r, h1, h2, h3, _, _, _, h7⟩ := scan_sound l 0 0 m k h
  have : (128 : Nat) ^ 9 = 9223372036854775808 := by decide
  have h7' := h7 (by omega)
  simp only [Nat.sub_zero, this] at h7'
  simp at h2 h3
  subst h2
  exact ⟨r, h1, h3, by omega⟩

/-- an error leaves nothing else -/
theorem scan_err : ∀ (l : List UInt8) (i acc : Nat), (scan i acc l).2.2 ≠ 0 → (scan i acc l).1 = 0 ∧ (scan i acc l).2.1 = 0 ∧ ((scan i acc l).2.2 = 10 ∨ (scan i acc l).2.2 = 11) := by
  intro l
  induction l with
  | nil => intro i acc; simp only [scan]; split <;> simp
  | cons c l ih =>
    intro i acc
    simp only [scan]
    split
    · simp
    split
    · simp
    split
    · simp
    split
    · simp
    · exact ih _ _

/-- too short: less than ten bytes, all of which go on -/
theorem scan_short : ∀ (l : List UInt8) (i acc : Nat), (scan i acc l).2.2 = 10 ↔ i + l.length < 10 ∧ ∀ c ∈ l, 128 ≤ c.toNat := by
  intro l
  induction l with
  | nil => intro i acc; simp only [scan]; split <;> simp <;> omega
  | cons c l ih =>
    intro i acc
    simp only [scan]
    split
    · simp; omega
    split
    · rename_i h; simp; intro h'; omega
    split
    · rename_i h; simp; intro h' h''; omega
    split
    · rename_i h; simp; intro h' h''; omega
    · rename_i h
      rw [ih]
      simp only [List.length_cons, List.mem_cons, forall_eq_or_imp]
      constructor
      · rintro ⟨a, b⟩; exact ⟨by omega, by omega, b⟩
      · rintro ⟨a, _, b⟩; exact ⟨by omega, b⟩

theorem uint_init : ∀ (n : Nat) (c : UInt8), c ∈ (uint n).dropLast → 128 ≤ c.toNat := by
  intro n
  induction n using Nat.strongRecOn with
  | ind n ih =>
    intro c hc
    by_cases hn : n < 128
    · rw [uint_small hn] at hc; simp at hc
    · have hp := uint_pos (n / 128)
      rw [uint_big (by omega)] at hc
      rw [List.dropLast_cons_of_ne_nil (by intro e; rw [e] at hp; simp at hp)] at hc
      rcases List.mem_cons.1 hc with rfl | hc
      · rw [u8_lt _ (by omega)]; omega
      · exact ih _ (by omega) c hc

/-- bytes that begin with numbers' bytes are one way only -/
theorem uint_append_inj {a b : Nat} {x y : List UInt8} (ha : a < 18446744073709551616) (hb : b < 18446744073709551616) (h : uint a ++ x = uint b ++ y) : a = b ∧ x = y := by
  have h1 := get0_uint ha x
  rw [h, get0_uint hb y] at h1
  simp only [Prod.mk.injEq, and_true] at h1
  obtain rfl := h1.1
  exact ⟨rfl, by simpa using h⟩
end Go.Proofs.YtbheoahpaidpmaaDoor

/-! Own -/
namespace Go.Proofs.YtbheoahpaidpmaaDoor
open Go Go.RowKit

/-- bytes, as cells -/
def cellsOf (l : List UInt8) : List Value := l.map fun b => .int .u8 (b.toNat : Int)
theorem cellsOf_length (l : List UInt8) : (cellsOf l).length = l.length := by simp [cellsOf]
theorem cellsOf_append (l r : List UInt8) : cellsOf (l ++ r) = cellsOf l ++ cellsOf r := by simp [cellsOf]
theorem cellsOf_snoc (l : List UInt8) (c : UInt8) : cellsOf (l ++ [c]) = cellsOf l ++ [.int .u8 (c.toNat : Int)] := by simp [cellsOf]

/-- bytes, as a text -/
def S (l : List UInt8) : ByteArray := ⟨l.toArray⟩
theorem S_size (l : List UInt8) : (S l).size = l.length := by simp [S, ByteArray.size]
theorem S_data (s : ByteArray) : S s.data.toList = s := by simp [S]
theorem S_toList (l : List UInt8) : (S l).data.toList = l := by simp [S]
theorem S_inj {a b : List UInt8} (h : S a = S b) : a = b := by
  have := congrArg (fun s => s.data.toList) h; simpa [S] using this
theorem S_append (a b : List UInt8) : S a ++ S b = S (a ++ b) := by
  apply ByteArray.ext; simp [S, ByteArray.data_append]

theorem cell_new (w : World) (us : Array Value) (t : TypeId) : ∀ j u, us.toList[j]? = some u → (w.alloc (.cells us t)).cell? ((⟨w.heap.size, 0, none⟩ : Addr).add j) = some u := by
  intro j u hj
  have hadd : (⟨w.heap.size, 0, none⟩ : Addr).add j = ⟨w.heap.size, j, none⟩ := by unfold Addr.add; split <;> simp_all
  rw [hadd, cell_of_row (w.alloc (.cells us t)) w.heap.size j us t (0, 0) (heap_alloc_new w _)]
  simpa using hj

theorem wpList_append_elem {P : Program} {ops : Array Oper} {rest : List Oper} {o : Oper} {a : Act} {Q : Exit → Act → World → Prop} (hgd : o.guard = none) (s x : Operand) (T : TypeId)
    (ho : o.op = Op.call { callee := Callee.builtin Builtin.append, args := #[s, x], argTypes := #[T, T] })
    (e : TypeId) (z : Value) (size bytes : Nat) (ht : P.underlying T = some (.slice e)) (hinf : (P.info? e).map (fun i => (i.zero, i.size, i.bytes)) = some (some z, size, bytes))
    (hzs : z.cells.size = size) (hsz : 0 < size) (base n : Nat) (xs : List Value) (v : Value) (W w0 : World) (us : Array Value) (hus : us.size = size) (h1 : ∀ u ∈ us.toList, u.oneCell' = true)
    (hown : w0.ownsRow base e size v n xs) (hs : a.eval s = v) (hbel : Below base W w0) (hbase : base ≤ w0.heap.size) (hx : a.eval x = .slice (some ⟨w0.heap.size, 0, none⟩) 1 1)
    (hn : n + 1 ≤ maxLen) (hb : (n + 1) * bytes ≤ 140737488355328)
    (h : ∀ v' w', w'.ownsRow base e size v' (n + 1) (xs ++ us.toList) → w0.grownBy w' v.ownBlock → Below base W w' → base ≤ w'.heap.size → w0.heap.size < w'.heap.size → v' ≠ .slice none 0 0 → wpList P ops Q rest (a.put o.dst v') w') :
    wpList P ops Q (o :: rest) a (w0.alloc (.cells us e)) := by
  obtain ⟨i, hi, hz, hz1, hz2⟩ := info_parts hinf
  have hg0 := World.grownBy_alloc w0 (.cells us e) v.ownBlock
  refine wpList_append_own _ hgd s x T ho base e i z size bytes ht hi hz hz1 hz2 hzs hsz v n xs hs (hown.alloc _) ⟨w0.heap.size, 0, none⟩ 1 1 us.toList hx (by simp [hus]) (cell_new w0 us e) h1 hn hb (by simp; omega) ?_
  intro v' w' hown' hgr hnil
  have hsize : w0.heap.size < w'.heap.size := by have := hgr.size; simp at this; omega
  refine h v' w' hown' ⟨hgr.os.trans hg0.os, hgr.tape.trans hg0.tape, hgr.output.trans hg0.output, by omega, fun k hk hne => (hgr.block k (by simp; omega) hne).trans (hg0.block k hk hne)⟩ ?_ (by omega) hsize ?_
  · refine (hbel.alloc hbase _).grown hgr (by simp; omega) fun k hk => ?_
    exact (hown.lt k hk).1
  · intro e'
    have := hnil.1 e'
    simp at this

/-- 'append(b, c)', b a row of bytes of the call's own -/
theorem wpList_append_byte {P : Program} {ops : Array Oper} {rest : List Oper} {o : Oper} {a : Act} {Q : Exit → Act → World → Prop} (hgd : o.guard = none) (s x : Operand) (T : TypeId)
    (ho : o.op = Op.call { callee := Callee.builtin Builtin.append, args := #[s, x], argTypes := #[T, T] })
    (e : TypeId) (ht : P.underlying T = some (.slice e)) (hinf : (P.info? e).map (fun i => (i.zero, i.size, i.bytes)) = some (some (.int .u8 0), 1, 1))
    (base n : Nat) (l : List UInt8) (v : Value) (W w0 : World) (y : Int) (c : UInt8) (hy : y = (c.toNat : Int))
    (hown : w0.ownsRow base e 1 v n (cellsOf l)) (hs : a.eval s = v) (hbel : Below base W w0) (hbase : base ≤ w0.heap.size) (hx : a.eval x = .slice (some ⟨w0.heap.size, 0, none⟩) 1 1)
    (hn : n + 1 ≤ 140737488355328)
    (h : ∀ v' w', w'.ownsRow base e 1 v' (n + 1) (cellsOf (l ++ [c])) → w0.grownBy w' v.ownBlock → Below base W w' → base ≤ w'.heap.size → w0.heap.size < w'.heap.size → v' ≠ .slice none 0 0 → wpList P ops Q rest (a.put o.dst v') w') :
    wpList P ops Q (o :: rest) a (w0.alloc (.cells #[.int .u8 y] e)) := by
  subst hy
  refine wpList_append_elem hgd s x T ho e (.int .u8 0) 1 1 ht hinf rfl (by decide) base n (cellsOf l) v W w0 #[.int .u8 (c.toNat : Int)] rfl (by intro u hu; simp at hu; subst hu; rfl) hown hs hbel hbase hx (by unfold maxLen; omega) (by omega) ?_
  intro v' w' h1
  exact h v' w' (by rw [cellsOf_snoc]; exact h1)

/-- 'string(b)' of a row of the call's own -/
theorem run_ownedBytes_string {P : Program} {w : World} {B n : Nat} {src dst e : TypeId} {v : Value} {l : List UInt8} (h : w.ownsRow B e 1 v n (cellsOf l))
    (hs : P.underlying src = some (.slice e)) (he : P.underlying e = some (.int .u8)) (hd : P.underlying dst = some .string) (hv : v ≠ .slice none 0 0) :
    (convert src dst v).run P w = .ok (.string (S l)) w := by
  have hn := h.1
  have hc : ∀ g, v.ownBlock = some g → ∀ j (hj : j < l.length), w.cell? ((⟨g, 0, none⟩ : Addr).add j) = some (.int .u8 (l[j].toNat : Int)) :=
    fun g hg j hj => h.cells hg j _ (by simp [cellsOf, hj])
  rcases h.2 with ⟨rfl, _⟩ | ⟨g, cap, cur, rfl, hb, hg, hr⟩
  · exact absurd rfl hv
  · rw [cellsOf_length] at hn
    obtain rfl : n = l.length := by omega
    exact run_convert_bytes_back w src dst e ⟨g, 0, none⟩ cap l hs he hd (hc g rfl)

/-- 'string([]byte{c})' -/
theorem run_one_string {P : Program} (w : World) {src dst e : TypeId} (y : Int) (c : UInt8) (hy : y = (c.toNat : Int))
    (hs : P.underlying src = some (.slice e)) (he : P.underlying e = some (.int .u8)) (hd : P.underlying dst = some .string) :
    (convert src dst (.slice (some ⟨w.heap.size, 0, none⟩) 1 1)).run P (w.alloc (.cells #[.int .u8 y] e)) = .ok (.string (S [c])) (w.alloc (.cells #[.int .u8 y] e)) := by
  subst hy
  refine run_convert_bytes_back (w.alloc (.cells #[.int .u8 (c.toNat : Int)] e)) src dst e ⟨w.heap.size, 0, none⟩ 1 [c] hs he hd fun j hj => ?_
  obtain rfl : j = 0 := by simpa using hj
  exact cell_new w #[.int .u8 (c.toNat : Int)] e 0 _ rfl

/-- 'string([]byte{b, c})' -/
theorem run_two_string {P : Program} (w : World) {src dst e : TypeId} (x y : Int) (b c : UInt8) (hx : x = (b.toNat : Int)) (hy : y = (c.toNat : Int))
    (hs : P.underlying src = some (.slice e)) (he : P.underlying e = some (.int .u8)) (hd : P.underlying dst = some .string) :
    (convert src dst (.slice (some ⟨w.heap.size, 0, none⟩) 2 2)).run P (w.alloc (.cells #[.int .u8 x, .int .u8 y] e)) = .ok (.string (S [b, c])) (w.alloc (.cells #[.int .u8 x, .int .u8 y] e)) := by
  subst hx hy
  refine run_convert_bytes_back (w.alloc (.cells #[.int .u8 (b.toNat : Int), .int .u8 (c.toNat : Int)] e)) src dst e ⟨w.heap.size, 0, none⟩ 2 [b, c] hs he hd fun j hj => ?_
  have hj2 : j < 2 := by simpa using hj
  match j, hj2 with
  | 0, _ => exact cell_new w #[.int .u8 (b.toNat : Int), .int .u8 (c.toNat : Int)] e 0 _ rfl
  | 1, _ => exact cell_new w #[.int .u8 (b.toNat : Int), .int .u8 (c.toNat : Int)] e 1 _ rfl
/-- '[]byte(s)': a new row that holds the bytes -/
theorem bytes_of_string {P : Program} (w : World) (src dst e : TypeId) (s : ByteArray) (hs : P.underlying src = some .string) (hd : P.underlying dst = some (.slice e)) (he : P.underlying e = some (.int .u8)) :
    ∃ cap w1, (convert src dst (.string s)).run P w = .ok (.slice (some ⟨w.heap.size, 0, none⟩) s.size cap) w1 ∧ Below w.heap.size w w1 ∧ w.heap.size < w1.heap.size ∧ s.size ≤ cap ∧
      ∀ j (hj : j < s.size), w1.cell? ⟨w.heap.size, j, none⟩ = some (.int .u8 (s[j].toNat : Int)) := by
  refine ⟨_, _, run_bytes_of_string w src dst e s hs hd he, ?_, ?_, grownCap_ge _ _ _ _, fun j hj => ?_⟩
  · exact (Below.refl _ _).drew.alloc (Nat.le_refl _) _
  · simp
  · rw [cell_of_row (w.drew.alloc _) w.heap.size j _ e _ (heap_alloc_new w.drew _)]
    exact bytesRow_at s _ j hj

theorem i64_xor_nat (a b : Nat) (ha : a < 9223372036854775808) (hb : b < 9223372036854775808) : bits .xor .i64 (a : Int) (b : Int) = ((a ^^^ b : Nat) : Int) := by
  have hx : a ^^^ b < 2 ^ 63 := Nat.xor_lt_two_pow (by omega) (by omega)
  have h1 : (BitVec.ofInt 64 (a : Int)).toNat = a := by
    rw [BitVec.ofInt_natCast, BitVec.toNat_ofNat]; exact Nat.mod_eq_of_lt (by omega)
  have h2 : (BitVec.ofInt 64 (b : Int)).toNat = b := by
    rw [BitVec.ofInt_natCast, BitVec.toNat_ofNat]; exact Nat.mod_eq_of_lt (by omega)
  show IntKind.i64.wrap ((BitVec.ofInt 64 (a : Int) ^^^ BitVec.ofInt 64 (b : Int)).toNat : Int) = _
  rw [BitVec.toNat_xor, h1, h2, IntKind.wrap_i64]
  omega
theorem i64_or_nat (a b : Nat) (ha : a < 9223372036854775808) (hb : b < 9223372036854775808) : bits .or .i64 (a : Int) (b : Int) = ((a ||| b : Nat) : Int) := by
  have hx : a ||| b < 2 ^ 63 := Nat.or_lt_two_pow (by omega) (by omega)
  have h1 : (BitVec.ofInt 64 (a : Int)).toNat = a := by
    rw [BitVec.ofInt_natCast, BitVec.toNat_ofNat]; exact Nat.mod_eq_of_lt (by omega)
  have h2 : (BitVec.ofInt 64 (b : Int)).toNat = b := by
    rw [BitVec.ofInt_natCast, BitVec.toNat_ofNat]; exact Nat.mod_eq_of_lt (by omega)
  show IntKind.i64.wrap ((BitVec.ofInt 64 (a : Int) ||| BitVec.ofInt 64 (b : Int)).toNat : Int) = _
  rw [BitVec.toNat_or, h1, h2, IntKind.wrap_i64]
  omega

/-- 'string(b)' of two bytes that lie somewhere -/
theorem run_two_at {P : Program} {src dst e : TypeId} (x y : Int) (b c : UInt8) (hx : x = (b.toNat : Int)) (hy : y = (c.toNat : Int))
    (hs : P.underlying src = some (.slice e)) (he : P.underlying e = some (.int .u8)) (hd : P.underlying dst = some .string) (w : World) (g : Nat) (h0 : w.cell? ⟨g, 0, none⟩ = some (.int .u8 x)) (h1 : w.cell? ⟨g, 1, none⟩ = some (.int .u8 y)) :
    (convert src dst (.slice (some ⟨g, 0, none⟩) 2 2)).run P w = .ok (.string (S [b, c])) w := by
  subst hx hy
  refine run_convert_bytes_back w src dst e ⟨g, 0, none⟩ 2 [b, c] hs he hd fun j hj => ?_
  have hj2 : j < 2 := by simpa using hj
  match j, hj2 with
  | 0, _ => exact h0
  | 1, _ => exact h1

end Go.Proofs.YtbheoahpaidpmaaDoor

/-! ZigUint -/
namespace Go.Proofs.YtbheoahpaidpmaaDoor
open Go Go.RowKit

theorem u8_or128 (m : Nat) : bits .or .u8 ((m : Int) % 256) 128 = ((byt (m % 128 + 128)).toNat : Int) := by
  rw [u8_lt _ (by omega)]
  have e : (m : Int) % 256 = ((m % 256 : Nat) : Int) := by omega
  rw [e]
  have := u8_or_nat (m % 256) 128 (by omega) (by omega)
  have e2 : (128 : Int) = ((128 : Nat) : Int) := rfl
  rw [e2, this]
  have key : ∀ x : Fin 256, x.val ||| 128 = x.val % 128 + 128 := by decide +kernel
  have := key ⟨m % 256, by omega⟩
  simp only at this
  rw [this]; omega

theorem u8_of {m : Nat} (h : m < 256) : (m : Int) = ((byt m).toNat : Int) := by
  rw [u8_lt _ h]

theorem u8inf : (Tryd.prog.info? 5).map (fun i => (i.zero, i.size, i.bytes)) = some (some (.int .u8 0), 1, 1) := by kernel_rfl

set_option maxRecDepth 100000 in
set_option maxHeartbeats 1000000 in
theorem uint_any (n : Nat) (w : World) (h : n < 18446744073709551616) :
    Calls Tryd.prog 44 #[.int .u64 n] w fun e w' => e = .returned (.string (S (uint n))) ∧ Below w.heap.size w w' := by
  have hmk : ∀ w, (Instr.makeSlice 80 (.int .i64 0) (.int .i64 10)).run Tryd.prog w = .ok (.slice (some ⟨w.heap.size, 0, none⟩) 0 10) (w.alloc (.cells #[.int .u8 0, .int .u8 0, .int .u8 0, .int .u8 0, .int .u8 0, .int .u8 0, .int .u8 0, .int .u8 0, .int .u8 0, .int .u8 0] 5)) := fun _ => by kernel_rfl
  go_enter Tryd.func44, Tryd.ntmps44
  go_wp2
  go_loopw [0, 3] (fun x b wr => ∃ m pre, x = .int .u64 (m : Nat) ∧ uint n = pre ++ uint m ∧ pre.length + (uint m).length ≤ 10 ∧ wr.ownsRow w.heap.size 5 1 b pre.length (cellsOf pre) ∧ Below w.heap.size w wr ∧ w.heap.size ≤ wr.heap.size) (fun x _ _ => (intOf x).toNat)
  case atStart => exact ⟨n, [], rfl, rfl, by have := uint_len_ten h; simpa using this, World.ownsRow_made _ _ _ (Nat.le_refl _) (by decide) rfl, (Below.refl _ _).alloc (Nat.le_refl _) _, by simp⟩
  case round =>
    obtain ⟨m, pre, rfl, hpre, hlen, hown, hbel, hsz⟩ := hrel
    have Hpre := Lib.hid hpre
    clear hpre hmk h
    by_cases hlt : 128 ≤ m
    · have hub := uint_big hlt
      have Hub := Lib.hid hub
      clear hub
      go_wp2_with (at_builtin; refine wpList_append_byte rfl _ _ 80 rfl 5 Tryd.underlying80 u8inf w.heap.size _ pre _ w _ _ _ (u8_or128 m) hown rfl hbel hsz rfl (by omega) ?_; intro v' w1 hown1 hgr1 hbel1 hsz1 hlt1 hnn1)
      go_roundw
      case rel => exact ⟨m / 128, pre ++ [byt (m % 128 + 128)], by go_num, by rw [Hpre.out, Hub.out]; simp, by rw [Hub.out] at hlen; simp at hlen ⊢; omega, by simpa using hown1, hbel1, hsz1⟩
      case measure => simp [intOf]; omega
    · have hm : m < 256 := by omega
      have hus := uint_small (show m < 128 by omega)
      have Hus := Lib.hid hus
      clear hus
      go_wp2_with (at_builtin; refine wpList_append_byte rfl _ _ 80 rfl 5 Tryd.underlying80 u8inf w.heap.size _ pre _ w _ _ _ (u8_of hm) hown rfl hbel hsz rfl (by omega) ?_; intro v' w1 hown1 hgr1 hbel1 hsz1 hlt1 hnn1; have hcv := run_ownedBytes_string (P := Tryd.prog) (src := 80) (dst := 9) hown1 Tryd.underlying80 Tryd.underlying5 Tryd.underlying9 hnn1)
      go_ret
      exact ⟨ret_str (by rw [Hpre.out, Hus.out]), hbel1⟩
end Go.Proofs.YtbheoahpaidpmaaDoor

/-! ZigWrite -/
namespace Go.Proofs.YtbheoahpaidpmaaDoor
open Go Go.RowKit

set_option maxRecDepth 100000 in
set_option maxHeartbeats 1000000 in
theorem ruint_any (n : Nat) (w : World) (h : n < 18446744073709551616) :
    Calls Tryd.prog 47 #[.int .u64 n] w fun e w' => e = .returned (.string (S (uint n))) ∧ Below w.heap.size w w' := by
  have Hh := Lib.hid h
  clear h
  go_enter Tryd.func47, Tryd.ntmps47
  go_wp2
  go_loopw [0, 3] (fun x s wr => ∃ m pre, x = .int .u64 (m : Nat) ∧ m < 18446744073709551616 ∧ uint n = pre ++ uint m ∧ s = .string (S pre) ∧ (S pre).size + (uint m).length ≤ 10 ∧ Below w.heap.size w wr ∧ w.heap.size ≤ wr.heap.size) (fun x _ _ => (intOf x).toNat)
  case atStart => exact ⟨n, [], rfl, Hh.out, rfl, rfl, by have := uint_len_ten Hh.out; simpa [S_size] using this, Below.refl _ _, Nat.le_refl _⟩
  case round =>
    obtain ⟨m, pre, rfl, hm, hpre, rfl, hlen, hbel, hsz⟩ := hrel
    have Hpre := Lib.hid hpre
    clear hpre
    by_cases hlt : 127 < m
    · have hcv := run_one_string (P := Tryd.prog) wr (src := 80) (dst := 9) ((m : Int) % 128 + 128) (byt (m % 128 + 128)) (by rw [u8_lt _ (by omega)]; omega) Tryd.underlying80 Tryd.underlying5 Tryd.underlying9
      have Hub := Lib.hid (uint_big (show 128 ≤ m by omega))
      have hb1 : (S [byt (m % 128 + 128)]).size ≤ 1 := by simp [S_size]
      go_wp2
      go_roundw
      case rel => exact ⟨m / 128, pre ++ [byt (m % 128 + 128)], by go_num, by omega, by rw [Hpre.out, Hub.out]; simp, by rw [S_append], by rw [Hub.out] at hlen; simp [S_size] at hlen ⊢; omega, hbel.alloc hsz _, by simp; omega⟩
      case measure => simp [intOf]; omega
    · have hcv := run_one_string (P := Tryd.prog) wr (src := 80) (dst := 9) (m : Int) (byt m) (by rw [u8_lt _ (by omega)]) Tryd.underlying80 Tryd.underlying5 Tryd.underlying9
      have Hus := Lib.hid (uint_small (show m < 128 by omega))
      have hb1 : (S [byt m]).size ≤ 1 := by simp [S_size]
      go_wp2
      go_ret
      exact ⟨ret_str (by rw [Hpre.out, Hus.out, S_append]), hbel.alloc hsz _⟩

/-- the bytes of a text -/
def text (l : List UInt8) : List UInt8 := uint l.length ++ l

end Go.Proofs.YtbheoahpaidpmaaDoor

/-! ZigRefPlain -/
namespace Go.Proofs.YtbheoahpaidpmaaDoor

/-- what groups of seven bits come to -/
def val : List UInt8 → Nat
  | [] => 0
  | c :: r => c.toNat % 128 + 128 * val r

theorem val_uint (n : Nat) : val (uint n) = n := by
  induction n using Nat.strongRecOn with
  | ind n ih =>
    by_cases hn : n < 128
    · rw [uint_small hn]; simp only [val]; rw [u8_lt _ (by omega)]; omega
    · rw [uint_big (by omega)]; simp only [val]; rw [u8_lt _ (by omega), ih _ (by omega)]; omega

theorem uint_split (n : Nat) : ∃ p c, uint n = p ++ [c] ∧ c.toNat < 128 ∧ ∀ x ∈ p, 128 ≤ x.toNat := by
  induction n using Nat.strongRecOn with
  | ind n ih =>
    by_cases hn : n < 128
    · exact ⟨[], byt n, by rw [uint_small hn]; rfl, by rw [u8_lt _ (by omega)]; exact hn, by simp⟩
    · obtain ⟨p, c, h1, h2, h3⟩ := ih (n / 128) (by omega)
      refine ⟨byt (n % 128 + 128) :: p, c, by rw [uint_big (by omega), h1]; rfl, h2, fun x hx => ?_⟩
      rcases List.mem_cons.1 hx with rfl | hx
      · rw [u8_lt _ (by omega)]; omega
      · exact h3 x hx

theorem get0_cases (l : List UInt8) : (∃ m k, get0 l = (m, k, 0)) ∨ get0 l = (0, 0, 10) ∨ get0 l = (0, 0, 11) := by
  by_cases h : (get0 l).2.2 = 0
  · exact .inl ⟨(get0 l).1, (get0 l).2.1, by rw [← h]⟩
  · obtain ⟨h1, h2, h3⟩ := scan_err l 0 0 h
    rcases h3 with h3 | h3
    · exact .inr (.inl (Prod.ext h1 (Prod.ext h2 h3)))
    · exact .inr (.inr (Prod.ext h1 (Prod.ext h2 h3)))

/-- the first byte that does not go on is the last one -/
theorem get0_at {l : List UInt8} {j : Nat} {c : UInt8} (hc : l[j]? = some c) (hc' : c.toNat < 128) (hall : ∀ (i : Nat) (x : UInt8), i < j → l[i]? = some x → 128 ≤ x.toNat) :
    (∃ m, get0 l = (m, j + 1, 0) ∧ uint m = l.take (j + 1) ∧ m < 18446744073709551616) ∨ get0 l = (0, 0, 11) := by
  rcases get0_cases l with ⟨m, k, h⟩ | h | h
  · obtain ⟨r, h1, h2, h3⟩ := get0_sound h
    obtain ⟨p, d, e1, e2, e3⟩ := uint_split m
    rw [e1] at h1
    have hj : j = p.length := by
      rcases Nat.lt_trichotomy j p.length with h | h | h
      · rw [h1, List.append_assoc, List.getElem?_append_left h] at hc
        have := e3 c (List.mem_of_getElem? hc)
        omega
      · exact h
      · have := hall p.length d h (by rw [h1, List.append_assoc, List.getElem?_append_right (Nat.le_refl _)]; simp)
        omega
    left
    refine ⟨m, ?_, ?_, h3⟩
    · rw [h, h2, e1]; simp [hj]
    · rw [e1, h1, hj]
      have : p.length + 1 = (p ++ [d]).length := by simp
      rw [this, List.take_left]
  · have := (scan_short l 0 0).1 (by have := congrArg (fun x => x.2.2) h; simpa [get0] using this)
    have := this.2 c (List.mem_of_getElem? hc)
    omega
  · exact .inr h

theorem get0_far {l : List UInt8} (h : 10 ≤ l.length) (hall : ∀ (i : Nat) (x : UInt8), i < 10 → l[i]? = some x → 128 ≤ x.toNat) : get0 l = (0, 0, 11) := by
  rcases get0_cases l with ⟨m, k, h'⟩ | h' | h'
  · obtain ⟨r, h1, h2, h3⟩ := get0_sound h'
    obtain ⟨p, d, e1, e2, e3⟩ := uint_split m
    have hl := uint_len_ten h3
    rw [e1] at h1 hl
    simp at hl
    have := hall p.length d (by omega) (by rw [h1, List.append_assoc, List.getElem?_append_right (Nat.le_refl _)]; simp)
    omega
  · have := (scan_short l 0 0).1 (by have := congrArg (fun x => x.2.2) h'; simpa [get0] using this)
    omega
  · exact h'

theorem get0_none {l : List UInt8} (h : l.length < 10) (hall : ∀ (i : Nat) (x : UInt8), l[i]? = some x → 128 ≤ x.toNat) : get0 l = (0, 0, 10) := by
  have h10 : (get0 l).2.2 = 10 := (scan_short l 0 0).2 ⟨by omega, fun c hc => by
    obtain ⟨i, hi⟩ := List.getElem?_of_mem hc
    exact hall i c hi⟩
  obtain ⟨h1, h2, _⟩ := scan_err l 0 0 (by show (get0 l).2.2 ≠ 0; omega)
  exact Prod.ext h1 (Prod.ext h2 h10)

/-- the bytes from a place on come to too much: they are none -/
theorem get0_much {l : List UInt8} {j i : Nat} {c : UInt8} (hc : l[j]? = some c) (hc' : c.toNat < 128) (hall : ∀ (i : Nat) (x : UInt8), i < j → l[i]? = some x → 128 ≤ x.toNat)
    (hv : 144115188075855871 < val ((l.take (j + 1)).drop (i + 1))) : get0 l = (0, 0, 11) := by
  rcases get0_at hc hc' hall with ⟨m, _, h2, h3⟩ | h
  · exfalso
    have key : ∀ (l : List UInt8) (i : Nat), 128 ^ i * val (l.drop i) ≤ val l := by
      intro l
      induction l with
      | nil => intro i; simp [val]
      | cons c l ih =>
        intro i
        cases i with
        | zero => simp
        | succ i =>
          have := ih i
          simp only [List.drop_succ_cons, val, Nat.pow_succ]
          have e : 128 ^ i * 128 * val (l.drop i) = 128 * (128 ^ i * val (l.drop i)) := by rw [Nat.mul_comm (128 ^ i) 128, Nat.mul_assoc]
          omega
    have := key (l.take (j + 1)) (i + 1)
    rw [← h2, val_uint, h2] at this
    have hp : 128 ^ 1 ≤ 128 ^ (i + 1) := Nat.pow_le_pow_right (by omega) (by omega)
    have h4 : 128 * val ((l.take (j + 1)).drop (i + 1)) ≤ 128 ^ (i + 1) * val ((l.take (j + 1)).drop (i + 1)) := Nat.mul_le_mul_right _ (by simpa using hp)
    omega
  · exact h

theorem get0_ne {l : List UInt8} {j : Nat} {c : UInt8} (hc : l[j]? = some c) (hc' : c.toNat < 128) (hall : ∀ (i : Nat) (x : UInt8), i < j → l[i]? = some x → 128 ≤ x.toNat)
    (hv : uint (val (l.take (j + 1))) ≠ l.take (j + 1)) : get0 l = (0, 0, 11) := by
  rcases get0_at hc hc' hall with ⟨m, _, h2, h3⟩ | h
  · exact absurd (by rw [← h2, val_uint]) hv
  · exact h

theorem get0_eq {l : List UInt8} {v j : Nat} (hv : v < 18446744073709551616) (hj : j < l.length) (h : uint v = l.take (j + 1)) : get0 l = (v, j + 1, 0) := by
  have h1 := get0_uint hv (l.drop (j + 1))
  rw [h, List.take_append_drop] at h1
  rw [h1]; simp; omega
end Go.Proofs.YtbheoahpaidpmaaDoor

/-! ZigGet -/
namespace Go.Proofs.YtbheoahpaidpmaaDoor
open Go Go.RowKit

/-- the number at a place of bytes: the number, the next place, the error -/
def getAt (l : List UInt8) (at' : Int) : Nat × Int × Nat :=
  if at' < 0 ∨ (l.length : Int) < at' then (0, 0, 1)
  else if (get0 (l.drop at'.toNat)).2.2 = 0 then ((get0 (l.drop at'.toNat)).1, at' + (get0 (l.drop at'.toNat)).2.1, 0)
  else (0, 0, (get0 (l.drop at'.toNat)).2.2)

theorem getAt_out {l : List UInt8} {a : Int} (h : a < 0 ∨ (l.length : Int) < a) : getAt l a = (0, 0, 1) := by unfold getAt; rw [if_pos h]

theorem getAt_in {l : List UInt8} {k : Nat} (h : k ≤ l.length) :
    getAt l k = if (get0 (l.drop k)).2.2 = 0 then ((get0 (l.drop k)).1, (k : Int) + (get0 (l.drop k)).2.1, 0) else (0, 0, (get0 (l.drop k)).2.2) := by
  unfold getAt; rw [if_neg (by omega)]; rfl

theorem drop_byte {s : ByteArray} {k : Nat} (h : k < s.size) : s.data.toList.drop k = s[k] :: s.data.toList.drop (k + 1) := by
  have hl : k < s.data.toList.length := by rw [← Lib.size_eq]; exact h
  rw [List.drop_eq_getElem_cons hl]; rfl

theorem getAt_of {l : List UInt8} {k a b : Nat} (h : get0 (l.drop k) = (a, b, 0)) (hk : k ≤ l.length) : getAt l k = (a, (k : Int) + b, 0) := by
  rw [getAt_in hk, h]; simp
theorem getAt_of_err {l : List UInt8} {k e : Nat} (h : get0 (l.drop k) = (0, 0, e)) (he : e ≠ 0) (hk : k ≤ l.length) : getAt l k = (0, 0, e) := by
  rw [getAt_in hk, h]; simp [he]

theorem scan_ret {r : List UInt8} {j m : Nat} {c : UInt8} (hj : j < 10) (h9 : 9 ≤ j → c.toNat ≤ 1) (h0 : 0 < j → 0 < c.toNat) (hc : c.toNat < 128) : scan j m (c :: r) = (m + c.toNat * 128 ^ j, j + 1, 0) := by
  simp only [scan]
  rw [if_neg (by omega), if_neg (by omega), if_neg (by omega), if_pos hc]
theorem scan_form {r : List UInt8} {j m : Nat} {c : UInt8} (hj : (9 ≤ j ∧ 1 < c.toNat) ∨ (0 < j ∧ c.toNat < 1)) : scan j m (c :: r) = (0, 0, 11) := by
  simp only [scan]
  by_cases h10 : 10 ≤ j
  · rw [if_pos h10]
  · rw [if_neg h10]
    by_cases h9 : j = 9 ∧ 1 < c.toNat
    · rw [if_pos h9]
    · rw [if_neg h9, if_pos (by omega)]
theorem scan_end {j m : Nat} (hj : j < 10) : scan j m [] = (0, 0, 10) := by simp only [scan]; rw [if_neg (by omega)]
theorem scan_ten {r : List UInt8} {j m : Nat} (hj : 10 ≤ j) : scan j m r = (0, 0, 11) := by cases r <;> simp only [scan] <;> rw [if_pos hj]

theorem getAt_ret {l r : List UInt8} {k j m : Nat} {c : UInt8} (h : scan j m (c :: r) = get0 (l.drop k)) (hk : k ≤ l.length) (hj : j < 10) (h9 : 9 ≤ j → c.toNat ≤ 1) (h0 : 0 < j → 0 < c.toNat) (hc : c.toNat < 128) :
    getAt l k = (m + c.toNat * 128 ^ j, (k : Int) + j + 1, 0) := by
  rw [getAt_of (h.symm.trans (scan_ret hj h9 h0 hc)) hk]
  simp; omega
theorem getAt_form {l r : List UInt8} {k j m : Nat} {c : UInt8} (h : scan j m (c :: r) = get0 (l.drop k)) (hk : k ≤ l.length) (hj : (9 ≤ j ∧ 1 < c.toNat) ∨ (0 < j ∧ c.toNat < 1)) :
    getAt l k = (0, 0, 11) := getAt_of_err (h.symm.trans (scan_form hj)) (by decide) hk
theorem getAt_more {r : List UInt8} {j m : Nat} {c : UInt8} (hj : j < 9) (hc : 128 ≤ c.toNat) : scan j m (c :: r) = scan (j + 1) (m + c.toNat % 128 * 128 ^ j) r := by
  have := c.toNat_lt
  simp only [scan]
  rw [if_neg (by omega), if_neg (by omega), if_neg (by omega), if_neg (by omega), show c.toNat - 128 = c.toNat % 128 by omega]
theorem getAt_short {l : List UInt8} {k j m : Nat} (h : scan j m [] = get0 (l.drop k)) (hk : k ≤ l.length) (hj : j < 10) : getAt l k = (0, 0, 10) := getAt_of_err (h.symm.trans (scan_end hj)) (by decide) hk
theorem getAt_ten {l r : List UInt8} {k j m : Nat} (h : scan j m r = get0 (l.drop k)) (hk : k ≤ l.length) (hj : 10 ≤ j) : getAt l k = (0, 0, 11) := getAt_of_err (h.symm.trans (scan_ten hj)) (by decide) hk

theorem or_step {m j : Nat} {c : UInt8} (hm : m < 128 ^ j) (hj : j < 9) :
    bits .or .u64 (m : Int) (IntKind.u64.wrap (IntKind.u64.wrap (bits .and .u8 (c.toNat : Int) 127) * 2 ^ (7 * j))) = ((m + c.toNat % 128 * 128 ^ j : Nat) : Int) := by
  have hcl := c.toNat_lt
  have e1 : bits .and .u8 (c.toNat : Int) 127 = ((c.toNat % 128 : Nat) : Int) := by
    have := bits_mask .u8 8 (by decide) wraps_u8 7 (by decide) (c.toNat : Int) (by omega) (by omega)
    simpa using this
  have e2 : (128 : Nat) ^ j = 2 ^ (7 * j) := by rw [Nat.pow_mul]
  have hp : (2 : Nat) ^ (7 * j) ≤ 2 ^ 56 := Nat.pow_le_pow_right (by omega) (by omega)
  rw [e2] at hm ⊢
  have e3 : IntKind.u64.wrap (((c.toNat % 128 : Nat) : Int)) = ((c.toNat % 128 : Nat) : Int) := by rw [IntKind.wrap_u64]; omega
  have e4 : (((c.toNat % 128 : Nat) : Int)) * 2 ^ (7 * j) = ((c.toNat % 128 * 2 ^ (7 * j) : Nat) : Int) := by rw [Int.natCast_mul]; congr 1
  have hb : c.toNat % 128 * 2 ^ (7 * j) ≤ 127 * 2 ^ 56 := Nat.mul_le_mul (by omega) hp
  rw [e1, e3, e4]
  have e5 : IntKind.u64.wrap ((c.toNat % 128 * 2 ^ (7 * j) : Nat) : Int) = ((c.toNat % 128 * 2 ^ (7 * j) : Nat) : Int) := by rw [IntKind.wrap_u64]; omega
  rw [e5, bits_or_u64_nat _ _ (by omega) (by omega)]
  congr 1
  rw [Nat.or_comm, Nat.mul_comm, ← Nat.two_pow_add_eq_or_of_lt hm, Nat.add_comm, Nat.mul_comm]

theorem or_nine {m j : Nat} {c : UInt8} (hj : j = 9) (hm : m < 128 ^ j) (hc : c.toNat ≤ 1) :
    bits .or .u64 (m : Int) (IntKind.u64.wrap (IntKind.u64.wrap (bits .and .u8 (c.toNat : Int) 127) * 9223372036854775808)) = ((m + c.toNat * 128 ^ j : Nat) : Int) := by
  subst hj
  have e1 : bits .and .u8 (c.toNat : Int) 127 = ((c.toNat : Nat) : Int) := by
    have := bits_mask .u8 8 (by decide) wraps_u8 7 (by decide) (c.toNat : Int) (by omega) (by omega)
    simp at this; rw [this]; omega
  have e0 : (128 : Nat) ^ 9 = 2 ^ 63 := by decide
  rw [e0] at hm ⊢
  have e3 : IntKind.u64.wrap ((c.toNat : Nat) : Int) = ((c.toNat : Nat) : Int) := by rw [IntKind.wrap_u64]; omega
  have e5 : IntKind.u64.wrap ((c.toNat : Nat) * 9223372036854775808 : Int) = ((c.toNat * 2 ^ 63 : Nat) : Int) := by rw [IntKind.wrap_u64]; omega
  rw [e1, e3, e5, bits_or_u64_nat _ _ (by omega) (by omega)]
  congr 1
  rw [Nat.or_comm, Nat.mul_comm, ← Nat.two_pow_add_eq_or_of_lt hm, Nat.add_comm, Nat.mul_comm]

theorem pow_step {m j c : Nat} (hm : m < 128 ^ j) (hc : c < 128) : m + c * 128 ^ j < 128 ^ (j + 1) := by
  rw [Nat.pow_succ]
  have : c * 128 ^ j ≤ 127 * 128 ^ j := Nat.mul_le_mul_right _ (by omega)
  omega

theorem ret_three {n n' b b' e e' : Int} (h1 : n = n') (h2 : b = b') (h3 : e = e') :
    Ending.returned (.tuple #[.int .u64 n, .int .i64 b, .int .i64 e]) = .returned (.tuple #[.int .u64 n', .int .i64 b', .int .i64 e']) := by rw [h1, h2, h3]

set_option maxRecDepth 100000 in
set_option maxHeartbeats 1000000 in
theorem getUint_in (s : ByteArray) (k : Nat) (w : World) (hs : s.size < 1099511627776) (hk : k ≤ s.size) :
    Calls Tryd.prog 49 #[.string s, .int .i64 k] w fun e w' => e = .returned (.tuple #[.int .u64 (getAt s.data.toList k).1, .int .i64 (getAt s.data.toList k).2.1, .int .i64 (getAt s.data.toList k).2.2]) ∧ w = w' := by
  have hl : k ≤ s.data.toList.length := by rw [← Lib.size_eq]; exact hk
  have Hl := Lib.hid hl
  clear hl
  have hd1 : decide (s.size < k) = false := by simp; omega
  have hd2 : decide ((k : Int) < 0) = false := by simp
  go_enter Tryd.func49, Tryd.ntmps49
  go_wp2
  go_loop [4, 7, 17] (fun n _ i => ∃ (m j : Nat), n = .int .u64 m ∧ i = .int .i64 j ∧ j ≤ 10 ∧ k + j ≤ s.size ∧ m < 128 ^ j ∧ scan j m (s.data.toList.drop (k + j)) = get0 (s.data.toList.drop k)) (fun _ _ i => 10 - (intOf i).toNat)
  case atStart => exact ⟨0, 0, rfl, rfl, by omega, by omega, by simp, by simp [get0]⟩
  case round =>
    obtain ⟨m, j, rfl, rfl, hj, hkj, hm, hsc⟩ := hrel
    by_cases h10 : j < 10
    · by_cases hend : k + j < s.size
      · rw [drop_byte hend] at hsc
        have Hsc := Lib.hid hsc
        have Hm := Lib.hid hm
        clear hsc hm
        have hcl := (s[k + j]).toNat_lt
        by_cases hj9 : 9 ≤ j
        · by_cases hc1 : 1 < s[k + j].toNat
          · have Hr := Lib.hid (getAt_form Hsc.out Hl.out (.inl ⟨hj9, hc1⟩))
            go_wp2_with fail
            go_ret3
            exact ⟨by rw [Hr.out]; rfl, rfl⟩
          · by_cases hc0 : s[k + j].toNat < 1
            · have Hr := Lib.hid (getAt_form Hsc.out Hl.out (.inr ⟨by omega, hc0⟩))
              go_wp2_with fail
              go_ret3
              exact ⟨by rw [Hr.out]; rfl, rfl⟩
            · have Hr := Lib.hid (getAt_ret Hsc.out Hl.out h10 (by omega) (by omega) (by omega))
              have Ho := Lib.hid (or_nine (c := s[k + j]) (show j = 9 by omega) Hm.out (by omega))
              have Hj := Lib.hid (show j = 9 by omega)
              go_wp2_with fail
              go_ret3
              exact ⟨by rw [Hr.out]; exact ret_three (by rw [Ho.out]) (by simp [Hj.out]) rfl, rfl⟩
        · have Ho := Lib.hid (or_step (c := s[k + j]) Hm.out (by omega))
          by_cases hc : 128 ≤ s[k + j].toNat
          · have Hr := Lib.hid (getAt_more (r := List.drop (k + j + 1) s.data.toList) (j := j) (m := m) (by omega) hc)
            go_wp2_with fail
            go_round
            case rel => exact ⟨m + s[k + j].toNat % 128 * 128 ^ j, j + 1, by rw [Ho.out], by go_num, by omega, by omega, pow_step Hm.out (by omega), by rw [← Hsc.out, Hr.out]; rfl⟩
            case measure => simp [intOf]; omega
          · by_cases hj0 : 0 < j
            · by_cases hc0 : s[k + j].toNat < 1
              · have Hr := Lib.hid (getAt_form Hsc.out Hl.out (.inr ⟨by omega, hc0⟩))
                go_wp2_with fail
                go_ret3
                exact ⟨by rw [Hr.out]; rfl, rfl⟩
              · have Hr := Lib.hid (getAt_ret Hsc.out Hl.out h10 (by omega) (by omega) (by omega))
                have Hc := Lib.hid (show s[k + j].toNat % 128 = s[k + j].toNat by omega)
                go_wp2_with fail
                go_ret3
                exact ⟨by rw [Hr.out]; exact ret_three (by rw [Ho.out, Hc.out]) (by simp) rfl, rfl⟩
            · have Hr := Lib.hid (getAt_ret Hsc.out Hl.out h10 (by omega) (by omega) (by omega))
              have Hc := Lib.hid (show s[k + j].toNat % 128 = s[k + j].toNat by omega)
              by_cases hc0 : s[k + j].toNat < 1
              · have hz : s[k + j].toNat = 0 := by omega
                have Ho' := Ho.out
                rw [hz] at Ho'
                have Hz := Lib.hid hz
                have Ho2 := Lib.hid Ho'
                clear Ho' hz
                go_wp2_with fail
                go_ret3
                exact ⟨by rw [Hr.out]; exact ret_three (by rw [Hz.out]; exact Ho2.out) (by simp) rfl, rfl⟩
              · go_wp2_with fail
                go_ret3
                exact ⟨by rw [Hr.out]; exact ret_three (by rw [Ho.out, Hc.out]) (by simp) rfl, rfl⟩
      · have Hr := Lib.hid (getAt_short (by rw [← hsc, List.drop_eq_nil_of_le (by rw [← Lib.size_eq]; omega)]) Hl.out h10)
        clear hsc hm
        go_wp2_with fail
        go_ret3
        exact ⟨by rw [Hr.out]; rfl, rfl⟩
    · have Hr := Lib.hid (getAt_ten hsc Hl.out (by omega))
      clear hsc hm
      go_wp2_with fail
      go_ret3
      exact ⟨by rw [Hr.out]; rfl, rfl⟩
end Go.Proofs.YtbheoahpaidpmaaDoor

/-! ZigRGet -/
namespace Go.Proofs.YtbheoahpaidpmaaDoor
open Go Go.RowKit

theorem drop_get {s : ByteArray} {k j : Nat} (h : k + j < s.size) : (s.data.toList.drop k)[j]? = some s[k + j] := by
  have hl : k + j < s.data.toList.length := by rw [← Lib.size_eq]; exact h
  rw [List.getElem?_drop, List.getElem?_eq_getElem hl]; rfl
theorem drop_get_lt {s : ByteArray} {k j : Nat} {x : UInt8} (h : (s.data.toList.drop k)[j]? = some x) : k + j < s.size := by
  rw [List.getElem?_drop] at h
  have := (List.getElem?_eq_some_iff.1 h).1
  rwa [← Lib.size_eq] at this

set_option maxRecDepth 100000 in
set_option maxHeartbeats 2000000 in
theorem rgetUint_in (s : ByteArray) (k : Nat) (w : World) (hs : s.size < 1099511627776) (hk : k ≤ s.size) :
    Calls Tryd.prog 50 #[.string s, .int .i64 k] w fun e w' => e = .returned (.tuple #[.int .u64 (getAt s.data.toList k).1, .int .i64 (getAt s.data.toList k).2.1, .int .i64 (getAt s.data.toList k).2.2]) ∧ Below w.heap.size w w' := by
  have hl : k ≤ s.data.toList.length := by rw [← Lib.size_eq]; exact hk
  have Hl := Lib.hid hl
  clear hl
  have hd1 : decide (s.size < k) = false := by simp; omega
  have hd2 : decide ((k : Int) < 0) = false := by simp
  go_enter Tryd.func50, Tryd.ntmps50
  go_wp2
  go_loop [7] (fun i => ∃ j : Nat, i = .int .i64 j ∧ j ≤ 10 ∧ k + j ≤ s.size ∧ ∀ t x, t < j → (s.data.toList.drop k)[t]? = some x → 128 ≤ x.toNat) (fun i => 10 - (intOf i).toNat)
  case atStart => exact ⟨0, rfl, by omega, by omega, by intro t x h; omega⟩
  case round =>
    obtain ⟨j, rfl, hj, hkj, hall⟩ := hrel
    have Hall := Lib.hid hall
    clear hall
    by_cases h10 : j < 10
    · by_cases hend : k + j < s.size
      · have hcl := (s[k + j]).toNat_lt
        by_cases hc : 128 ≤ s[k + j].toNat
        · go_wp2_with fail
          go_round
          case rel => exact ⟨j + 1, by go_num, by omega, by omega, fun t x ht hx => by
            by_cases e : t = j
            · subst e; rw [drop_get hend] at hx; cases hx; exact hc
            · exact Hall.out t x (by omega) hx⟩
          case measure => simp [intOf]; omega
        · have hq1 : ((j : Int) == 10) = false := beq_eq_false_iff_ne.2 (by omega)
          have hq2 : ((k : Int) + (j : Int) == (s.size : Int)) = false := beq_eq_false_iff_ne.2 (by omega)
          have hq3 : decide ((127 : Int) < (s[k + j].toNat : Int)) = false := by simp; omega
          have hq4 : decide ((j : Int) < 10) = true := by simp; omega
          have hq5 : decide ((k : Int) + (j : Int) < (s.size : Int)) = true := by simp; omega
          go_wp2_with fail
          go_loopw [8, 9] (fun v i wr => ∃ (m : Nat) (t : Int), v = .int .u64 m ∧ i = .int .i64 t ∧ -1 ≤ t ∧ t ≤ j ∧ m < 18446744073709551616 ∧ m = val (((s.data.toList.drop k).take (j + 1)).drop (t + 1).toNat) ∧ w = wr) (fun _ i _ => (intOf i + 1).toNat)
          case atStart => exact ⟨0, j, rfl, rfl, by omega, by omega, by omega, by rw [List.drop_eq_nil_of_le (by simp; omega)]; rfl, rfl⟩
          case round =>
            obtain ⟨m, t, rfl, rfl, ht0, ht1, hm, hv, rfl⟩ := hrel
            have Hv := Lib.hid hv
            clear hv
            have hcj : (s.data.toList.drop k)[j]? = some s[k + j] := drop_get hend
            have Hcj := Lib.hid hcj
            clear hcj
            by_cases ht : 0 ≤ t
            · obtain ⟨i, rfl⟩ := Int.eq_ofNat_of_zero_le ht
              have hki : k + i < s.size := by omega
              by_cases hbig : 144115188075855871 < m
              · have Hr := Lib.hid (getAt_of_err (get0_much (i := i) Hcj.out (by omega) Hall.out (by have := Hv.out; rw [show ((i : Int) + 1).toNat = i + 1 by omega] at this; omega)) (by decide) Hl.out)
                go_wp2_with fail
                go_ret3
                exact ⟨by rw [Hr.out]; rfl, Below.refl _ _⟩
              · have hci := (s[k + i]).toNat_lt
                have hstep : val (((s.data.toList.drop k).take (j + 1)).drop i) = s[k + i].toNat % 128 + 128 * m := by
                  have hg : ((s.data.toList.drop k).take (j + 1))[i]? = some s[k + i] := by rw [List.getElem?_take, if_pos (by omega), drop_get hki]
                  obtain ⟨hlt, hg'⟩ := List.getElem?_eq_some_iff.1 hg
                  rw [List.drop_eq_getElem_cons hlt, hg', Hv.out]; rfl
                have Hstep := Lib.hid hstep
                clear hstep
                go_wp2_with fail
                go_roundw
                case rel => exact ⟨s[k + i].toNat % 128 + 128 * m, (i : Int) - 1, by congr 1; omega, rfl, by omega, by omega, by omega, by rw [show ((i : Int) - 1 + 1).toNat = i by omega, Hstep.out], trivial⟩
                case measure => simp [intOf]
            · obtain rfl : t = -1 := by omega
              have hv0 : m = val ((s.data.toList.drop k).take (j + 1)) := Hv.out
              have hex : (s.extract k (k + j + 1)).data.toList = (s.data.toList.drop k).take (j + 1) := by rw [Lib.extract_data]; congr 1; omega
              by_cases he : uint m = (s.data.toList.drop k).take (j + 1)
              · have Hr := Lib.hid (getAt_of (get0_eq hm (by rw [List.length_drop, ← Lib.size_eq]; omega) he) Hl.out)
                have hcmp : ((S (uint m)).toList == (s.extract k (k + j + 1)).toList) = true := by rw [Lib.toList_data, Lib.toList_data, S_toList, hex, he]; simp
                clear hv0 hex he
                go_wp2_with fail
                have g1 : IntKind.i64.wrap ((k : Int) + (j : Int)) = (k : Int) + (j : Int) := IntWalk.i64_in _ (by omega)
                have g2 : IntKind.i64.wrap ((k : Int) + (j : Int) + 1) = (k : Int) + (j : Int) + 1 := IntWalk.i64_in _ (by omega)
                have g3 : ∀ W, (Instr.slice 9 (.string s) (some (.int .i64 (k : Int))) (some (.int .i64 ((k : Int) + (j : Int) + 1))) none).run Tryd.prog W = .ok (.string (s.extract k (k + j + 1))) W := fun W => by
                  have := run_slice_string (P := Tryd.prog) W 9 s .i64 .i64 (k : Int) ((k : Int) + (j : Int) + 1) Tryd.underlying9 (by omega) (by omega) (by omega)
                  rwa [show ((k : Int) + (j : Int) + 1).toNat = k + j + 1 by omega, show ((k : Int)).toNat = k by omega] at this
                go_region_with (go_at_call 47; refine (ruint_any m _ hm).mono ?_; rintro e w1 ⟨rfl, hb1⟩)
                clear g1 g2 g3
                go_wp2_with fail
                go_ret3
                exact ⟨by rw [Hr.out]; exact ret_three rfl (by simp; omega) rfl, hb1.drewl⟩
              · have Hr := Lib.hid (getAt_of_err (get0_ne Hcj.out (by omega) Hall.out (by rw [← hv0]; exact he)) (by decide) Hl.out)
                have hcmp : ((S (uint m)).toList == (s.extract k (k + j + 1)).toList) = false := by rw [Lib.toList_data, Lib.toList_data, S_toList, hex]; exact beq_eq_false_iff_ne.2 he
                clear hv0 hex he
                go_wp2_with fail
                have g1 : IntKind.i64.wrap ((k : Int) + (j : Int)) = (k : Int) + (j : Int) := IntWalk.i64_in _ (by omega)
                have g2 : IntKind.i64.wrap ((k : Int) + (j : Int) + 1) = (k : Int) + (j : Int) + 1 := IntWalk.i64_in _ (by omega)
                have g3 : ∀ W, (Instr.slice 9 (.string s) (some (.int .i64 (k : Int))) (some (.int .i64 ((k : Int) + (j : Int) + 1))) none).run Tryd.prog W = .ok (.string (s.extract k (k + j + 1))) W := fun W => by
                  have := run_slice_string (P := Tryd.prog) W 9 s .i64 .i64 (k : Int) ((k : Int) + (j : Int) + 1) Tryd.underlying9 (by omega) (by omega) (by omega)
                  rwa [show ((k : Int) + (j : Int) + 1).toNat = k + j + 1 by omega, show ((k : Int)).toNat = k by omega] at this
                go_region_with (go_at_call 47; refine (ruint_any m _ hm).mono ?_; rintro e w1 ⟨rfl, hb1⟩)
                clear g1 g2 g3
                go_wp2_with fail
                go_ret3
                exact ⟨by rw [Hr.out]; rfl, hb1.drewl⟩
      · have Hr := Lib.hid (getAt_of_err (get0_none (l := s.data.toList.drop k) (by rw [List.length_drop, ← Lib.size_eq]; omega) fun i x hx => Hall.out i x (by have := drop_get_lt hx; omega) hx) (by decide) Hl.out)
        go_wp2_with fail
        go_ret3
        exact ⟨by rw [Hr.out]; rfl, Below.refl _ _⟩
    · have Hr := Lib.hid (getAt_of_err (get0_far (l := s.data.toList.drop k) (by rw [List.length_drop, ← Lib.size_eq]; omega) fun i x hi hx => Hall.out i x (by omega) hx) (by decide) Hl.out)
      go_wp2_with fail
      go_ret3
      exact ⟨by rw [Hr.out]; rfl, Below.refl _ _⟩
end Go.Proofs.YtbheoahpaidpmaaDoor

/-! ZigRead -/
namespace Go.Proofs.YtbheoahpaidpmaaDoor
open Go Go.RowKit

theorem getUint_any (s : ByteArray) (a : Int) (w : World) (hs : s.size < 1099511627776) :
    Calls Tryd.prog 49 #[.string s, .int .i64 a] w fun e w' => e = .returned (.tuple #[.int .u64 (getAt s.data.toList a).1, .int .i64 (getAt s.data.toList a).2.1, .int .i64 (getAt s.data.toList a).2.2]) ∧ w = w' := by
  by_cases h0 : a < 0
  · have Hr := Lib.hid (getAt_out (l := s.data.toList) (.inl h0))
    go_enter Tryd.func49, Tryd.ntmps49
    go_wp2_with fail
    go_ret3
    exact ⟨by rw [Hr.out]; rfl, rfl⟩
  · by_cases h1 : (s.size : Int) < a
    · have Hr := Lib.hid (getAt_out (l := s.data.toList) (.inr (by rw [← Lib.size_eq]; exact h1)))
      go_enter Tryd.func49, Tryd.ntmps49
      go_wp2_with fail
      go_ret3
      exact ⟨by rw [Hr.out]; rfl, rfl⟩
    · obtain ⟨k, rfl⟩ := Int.eq_ofNat_of_zero_le (by omega : 0 ≤ a)
      exact getUint_in s k w hs (by omega)

theorem rgetUint_any (s : ByteArray) (a : Int) (w : World) (hs : s.size < 1099511627776) :
    Calls Tryd.prog 50 #[.string s, .int .i64 a] w fun e w' => e = .returned (.tuple #[.int .u64 (getAt s.data.toList a).1, .int .i64 (getAt s.data.toList a).2.1, .int .i64 (getAt s.data.toList a).2.2]) ∧ Below w.heap.size w w' := by
  by_cases h0 : a < 0
  · have Hr := Lib.hid (getAt_out (l := s.data.toList) (.inl h0))
    go_enter Tryd.func50, Tryd.ntmps50
    go_wp2_with fail
    go_ret3
    exact ⟨by rw [Hr.out]; rfl, Below.refl _ _⟩
  · by_cases h1 : (s.size : Int) < a
    · have Hr := Lib.hid (getAt_out (l := s.data.toList) (.inr (by rw [← Lib.size_eq]; exact h1)))
      go_enter Tryd.func50, Tryd.ntmps50
      go_wp2_with fail
      go_ret3
      exact ⟨by rw [Hr.out]; rfl, Below.refl _ _⟩
    · obtain ⟨k, rfl⟩ := Int.eq_ofNat_of_zero_le (by omega : 0 ≤ a)
      exact rgetUint_in s k w hs (by omega)

/-- what an error leaves; what a number that is read is -/
theorem getAt_cases (l : List UInt8) (a : Int) : (∃ e, getAt l a = (0, 0, e) ∧ (e = 1 ∨ e = 10 ∨ e = 11)) ∨
    ∃ (k m : Nat) (r : List UInt8), a = k ∧ k ≤ l.length ∧ m < 18446744073709551616 ∧ l.drop k = uint m ++ r ∧ getAt l a = (m, ((k + (uint m).length : Nat) : Int), 0) ∧ k + (uint m).length ≤ l.length := by
  by_cases h : a < 0 ∨ (l.length : Int) < a
  · exact .inl ⟨1, getAt_out h, .inl rfl⟩
  · obtain ⟨k, rfl⟩ := Int.eq_ofNat_of_zero_le (by omega : 0 ≤ a)
    have hk : k ≤ l.length := by omega
    rcases get0_cases (l.drop k) with ⟨m, n, h'⟩ | h' | h'
    · obtain ⟨r, e1, e2, e3⟩ := get0_sound h'
      refine .inr ⟨k, m, r, rfl, hk, e3, e1, by rw [getAt_of h' hk, e2]; simp, ?_⟩
      have := congrArg List.length e1
      simp only [List.length_drop, List.length_append] at this
      have := uint_pos m
      omega
    · exact .inl ⟨10, getAt_of_err h' (by decide) hk, .inr (.inl rfl)⟩
    · exact .inl ⟨11, getAt_of_err h' (by decide) hk, .inr (.inr rfl)⟩

theorem getAt_lt (l : List UInt8) (a : Int) : (getAt l a).1 < 18446744073709551616 := by
  rcases getAt_cases l a with ⟨e, h, _⟩ | ⟨k, m, r, _, _, hm, _, h, _⟩
  · rw [h]; exact (by decide : (0 : Nat) < 18446744073709551616)
  · rw [h]; exact hm
theorem getAt_next (l : List UInt8) (a : Int) : 0 ≤ (getAt l a).2.1 ∧ (getAt l a).2.1 ≤ l.length := by
  rcases getAt_cases l a with ⟨e, h, _⟩ | ⟨k, m, r, _, _, hm, _, h, _⟩
  · rw [h]; simp
  · rw [h]; simp; omega
theorem getAt_err (l : List UInt8) (a : Int) : (getAt l a).2.2 = 0 ∨ ((getAt l a).1 = 0 ∧ (getAt l a).2.1 = 0 ∧ ((getAt l a).2.2 = 1 ∨ (getAt l a).2.2 = 10 ∨ (getAt l a).2.2 = 11)) := by
  rcases getAt_cases l a with ⟨e, h, he⟩ | ⟨k, m, r, _, _, hm, _, h, _⟩
  · rw [h]; exact .inr ⟨rfl, rfl, he⟩
  · rw [h]; exact .inl rfl

/-- the integer at a place of bytes -/
def getIntAt (l : List UInt8) (a : Int) : Int × Int × Nat := (unfoldN (getAt l a).1, (getAt l a).2.1, (getAt l a).2.2)

/-- the text at a place of bytes -/
def getTextAt (l : List UInt8) (a : Int) : List UInt8 × Int × Nat :=
  if (getAt l a).2.2 ≠ 0 then ([], 0, (getAt l a).2.2)
  else if (l.length : Int) - (getAt l a).2.1 < (getAt l a).1 then ([], 0, 10)
  else ((l.drop (getAt l a).2.1.toNat).take (getAt l a).1, (getAt l a).2.1 + (getAt l a).1, 0)

theorem ret_text {a b : ByteArray} {x y e f : Int} (h1 : a = b) (h2 : x = y) (h3 : e = f) :
    Ending.returned (.tuple #[.string a, .int .i64 x, .int .i64 e]) = .returned (.tuple #[.string b, .int .i64 y, .int .i64 f]) := by rw [h1, h2, h3]

theorem getText_err {l : List UInt8} {a : Int} {e : Nat} (h : getAt l a = (0, 0, e)) (he : e ≠ 0) : getTextAt l a = ([], 0, e) := by unfold getTextAt; rw [h]; simp [he]
theorem getText_short {l : List UInt8} {a : Int} {m x : Nat} (h : getAt l a = (m, (x : Int), 0)) (hl : (l.length : Int) - x < m) : getTextAt l a = ([], 0, 10) := by unfold getTextAt; rw [h]; simp [hl]
theorem getText_ok {l : List UInt8} {a : Int} {m x : Nat} (h : getAt l a = (m, (x : Int), 0)) (hl : ¬(l.length : Int) - x < m) : getTextAt l a = ((l.drop x).take m, ((x + m : Nat) : Int), 0) := by unfold getTextAt; rw [h]; simp [hl]

end Go.Proofs.YtbheoahpaidpmaaDoor
