/-
  The walk of (*rice.Writer).put.
-/
import Derived.Test.YtjendmojkdkipaaVBuilder
import Derived.Test.YtjendmojkdkipaaRicePlain
import Derived.Test.YtjendmojkdkipaaZigPlain
namespace Go.Proofs.Ytjendmojkdkipaa
open Go Go.RowKit

/-- what a writer has: its bytes, and the bits behind them -/
structure WSt where
  L : List UInt8
  a : Nat
  m : Nat
def WSt.ok (s : WSt) : Prop := s.m < 8 ∧ s.a < 2 ^ s.m
def WrOf (R : Nat → Prop) (b : Nat) (s : WSt) (w : World) : Prop := Bld R b 71 [.int .u64 s.a, .int .i64 s.m] s.L w

/-- a byte's bits at most, put behind -/
def WSt.put (s : WSt) (n k : Nat) : WSt :=
  if 8 ≤ s.m + k then ⟨s.L ++ [byt ((s.a * 2 ^ k + n) / 2 ^ (s.m + k - 8))], (s.a * 2 ^ k + n) % 2 ^ (s.m + k - 8), s.m + k - 8⟩
  else ⟨s.L, s.a * 2 ^ k + n, s.m + k⟩

theorem u64_or_nat (a b : Nat) (ha : a < 18446744073709551616) (hb : b < 18446744073709551616) : bits .or .u64 (a : Int) (b : Int) = ((a ||| b : Nat) : Int) := by
  have hx : a ||| b < 2 ^ 64 := Nat.or_lt_two_pow (by omega) (by omega)
  have h1 : (BitVec.ofInt 64 (a : Int)).toNat = a := by
    rw [BitVec.ofInt_natCast, BitVec.toNat_ofNat]; exact Nat.mod_eq_of_lt (by omega)
  have h2 : (BitVec.ofInt 64 (b : Int)).toNat = b := by
    rw [BitVec.ofInt_natCast, BitVec.toNat_ofNat]; exact Nat.mod_eq_of_lt (by omega)
  show IntKind.u64.wrap ((BitVec.ofInt 64 (a : Int) ||| BitVec.ofInt 64 (b : Int)).toNat : Int) = _
  rw [BitVec.toNat_or, h1, h2, IntKind.wrap_u64]
  omega
theorem or_put {a n k : Nat} (hn : n < 2 ^ k) (h : a * 2 ^ k + n < 18446744073709551616) : bits .or .u64 ((a : Int) * 2 ^ k) (n : Int) = ((a * 2 ^ k + n : Nat) : Int) := by
  have e : (a : Int) * 2 ^ k = ((a * 2 ^ k : Nat) : Int) := by norm_cast
  rw [e, u64_or_nat _ _ (by omega) (by omega)]
  congr 1
  rw [Nat.mul_comm, Nat.two_pow_add_eq_or_of_lt hn]

theorem bld_cells {R : Nat → Prop} {b : Nat} {x y : Value} {l : List UInt8} {w : World} (h : Bld R b 71 [x, y] l w) : (w.cell? ⟨b, 2, none⟩ = some x ∧ w.cell? ⟨b, 3, none⟩ = some y) ∧ w.frozen? ⟨b, 2, none⟩ = false := by
  obtain ⟨_, _, p, v, _, hh, _⟩ := h
  exact ⟨⟨by rw [Lib.cell_of_heap hh]; rfl, by rw [Lib.cell_of_heap hh]; rfl⟩, Lib.frozen_of_heap hh 2⟩

theorem byt_wrap (q : Nat) : IntKind.u8.wrap (q : Int) = ((byt q).toNat : Int) := by
  unfold byt; rw [UInt8.toNat_ofNat', IntKind.wrap_u8]; omega

theorem set_two {w : World} {b : Nat} {v0 v1 v2 v3 x : Value} {t : TypeId} (hk : w.heap[b]? = some (.cells #[v0, v1, v2, v3] t (0, 0))) : (w.setCell ⟨b, 2, none⟩ x).heap[b]? = some (.cells #[v0, v1, x, v3] t (0, 0)) := by
  simp [World.setCell, Array.getElem?_modify, hk]
theorem set_three {w : World} {b : Nat} {v0 v1 v2 v3 x : Value} {t : TypeId} (hk : w.heap[b]? = some (.cells #[v0, v1, v2, v3] t (0, 0))) : (w.setCell ⟨b, 3, none⟩ x).heap[b]? = some (.cells #[v0, v1, v2, x] t (0, 0)) := by
  simp [World.setCell, Array.getElem?_modify, hk]

set_option maxRecDepth 100000 in
set_option maxHeartbeats 1000000 in
theorem put_any (R : Nat → Prop) (b : Nat) (s : WSt) (n k : Nat) (w : World) (h : WrOf R b s w) (hok : s.ok) (hn : n < 2 ^ k) (hk : k ≤ 8) (hl : s.L.length < 1099511627776) (hR : Old R w) :
    Calls Try.prog 50 #[.pointer (some ⟨b, 0, none⟩), .int .u64 n, .int .i64 k] w fun e w' => e = .returned (.tuple #[]) ∧ WrOf R b (s.put n k) w' ∧ Beside R b w w' := by
  obtain ⟨L, a, m⟩ := s
  obtain ⟨hm8, ha⟩ := hok
  simp only at hm8 ha hl
  obtain ⟨hb, hT, p, v, hp, hh, ho⟩ := h
  have HT := Lib.hid hT
  clear hT
  have c2 : w.cell? ⟨b, 2, none⟩ = some (.int .u64 a) := by rw [Lib.cell_of_heap hh]; rfl
  have c3 : w.cell? ⟨b, 3, none⟩ = some (.int .i64 m) := by rw [Lib.cell_of_heap hh]; rfl
  have f2 : w.frozen? ⟨b, 2, none⟩ = false := Lib.frozen_of_heap hh 2
  have f3 : w.frozen? ⟨b, 3, none⟩ = false := Lib.frozen_of_heap hh 3
  have hk8 : (k : Int) ≤ 8 := by omega
  have hp2 : (2 : Nat) ^ k ≤ 256 := Nat.pow_le_pow_right (by decide) hk
  have hp3 : (2 : Nat) ^ m ≤ 128 := Nat.pow_le_pow_right (n := 2) (by decide) (by omega : m ≤ 7)
  have hak : a * 2 ^ k ≤ 128 * 256 := Nat.mul_le_mul (by omega) hp2
  have hor := or_put (a := a) hn (by omega)
  have e1 : IntKind.u64.wrap ((a : Int) * 2 ^ k) = (a : Int) * 2 ^ k := IntWalk.u64_in _ (by
    have : (a : Int) * 2 ^ k = ((a * 2 ^ k : Nat) : Int) := by norm_cast
    omega)
  have hx : a * 2 ^ k + n < 65536 := by omega
  obtain ⟨x, hxd⟩ : ∃ x, x = a * 2 ^ k + n := ⟨_, rfl⟩
  rw [← hxd] at hor hx
  have Hx := Lib.hid hxd
  have hs1 : IntKind.i64.wrap ((m : Int) + (k : Int)) = (m : Int) + (k : Int) := IntWalk.i64_in _ (by omega)
  have Hh := Lib.hid hh
  have Ho := Lib.hid ho
  clear hxd hp2 hp3 hak hh ho ha hn
  by_cases hc : m + k < 8
  · have hd : decide ((8 : Int) ≤ (m : Int) + (k : Int)) = false := decide_eq_false (by omega)
    have hput : WSt.put ⟨L, a, m⟩ n k = ⟨L, x, m + k⟩ := by unfold WSt.put; rw [if_neg (by simp only; omega), Hx.out]
    rw [hput]
    clear hput
    go_enter Try.func50, Try.ntmps50
    go_wp2_with fail
    go_region
    go_wp2_with fail
    go_end0
    refine ⟨rfl, ⟨hb, HT.out, p, v, hp, ?_, own_set (own_set Ho.out hb _ _) hb _ _⟩, ((beside_set R b 2 w _).trans (beside_set R b 3 _ _)).drewr⟩
    show ((w.setCell ⟨b, 2, none⟩ (.int .u64 x)).setCell ⟨b, 3, none⟩ (.int .i64 ((m : Int) + (k : Int)))).heap[b]? = _
    rw [set_three (set_two Hh.out)]
    simp
  · have hd : decide ((8 : Int) ≤ (m : Int) + (k : Int)) = true := decide_eq_true (by omega)
    obtain ⟨t, ht⟩ : ∃ t, t = m + k - 8 := ⟨_, rfl⟩
    have hput : WSt.put ⟨L, a, m⟩ n k = ⟨L ++ [byt (x / 2 ^ t)], x % 2 ^ t, t⟩ := by unfold WSt.put; rw [if_pos (by simp only; omega), Hx.out, ht]
    rw [hput]
    have ht8 : (t : Int) < 8 := by omega
    have hti : (m : Int) + (k : Int) - 8 = (t : Int) := by omega
    have Hht := Lib.hid ht
    have hsh := shr_nat x t
    clear hput ht
    go_enter Try.func50, Try.ntmps50
    go_wp2_with fail
    go_region
    go_wp2_with fail
    obtain ⟨wA, hwA⟩ : ∃ wA, wA = (((w.setCell ⟨b, 2, none⟩ (.int .u64 x)).setCell ⟨b, 3, none⟩ (.int .i64 ((m : Int) + (k : Int)))).setCell ⟨b, 3, none⟩ (.int .i64 t)).drew := ⟨_, rfl⟩
    rw [← hwA]
    have hBA : Bld R b 71 [.int .u64 x, .int .i64 t] L wA := by
      rw [hwA]
      exact ⟨hb, HT.out, p, v, hp, set_three (set_three (set_two Hh.out)), own_set (own_set (own_set Ho.out hb _ _) hb _ _) hb _ _⟩
    have hSA : Beside R b w wA := by
      rw [hwA]
      exact (((beside_set R b 2 w _).trans (beside_set R b 3 _ _)).trans (beside_set R b 3 _ _)).drewr
    have HSA := Lib.hid hSA
    obtain ⟨⟨r2, r3⟩, -⟩ := bld_cells hBA
    have W := Lib.hid (fun z w' h1 h2 h3 => writeByte_any R b 71 [.int .u64 x, .int .i64 t] L z (byt (x / 2 ^ t)) w' h1 h2 hl h3)
    have HBA := Lib.hid hBA
    have hRA : Old R wA := hR.mono hSA.size
    have hw1 : IntKind.u64.wrap (t : Int) = (t : Int) := IntWalk.u64_in _ (by omega)
    have hmn : min t 64 = t := by omega
    clear hwA hBA hSA c2 c3 f2 f3 hor e1 hs1 hti hd
    obtain ⟨q, hqd⟩ : ∃ q, q = x / 2 ^ t := ⟨_, rfl⟩
    rw [← hqd] at hsh W
    have Hq := Lib.hid hqd
    clear hqd
    go_region_held (fun w' => w'.cell? ⟨b, 2, none⟩ = some (.int .u64 x) ∧ w'.cell? ⟨b, 3, none⟩ = some (.int .i64 t))
      (first | go_keep | (exact (bld_cells hB5).1))
      (first | (go_at_call 58; refine (W.out _ wA.drew ?_ HBA.out hRA).mono ?_; (exact byt_wrap _); rintro e w5 ⟨rfl, hB5, hbs5⟩))
    obtain ⟨⟨y2, y3⟩, fy⟩ := bld_cells hB5
    have hpt : (2 : Nat) ^ t ≤ 128 := Nat.pow_le_pow_right (n := 2) (by decide) (by omega : t ≤ 7)
    have hpt0 := Nat.two_pow_pos t
    have hpi : (2 : Int) ^ t = ((2 ^ t : Nat) : Int) := by norm_cast
    have w2 : IntKind.u64.wrap ((2 : Int) ^ t) = (2 : Int) ^ t := IntWalk.u64_in _ (by omega)
    have w3 : IntKind.u64.wrap ((2 : Int) ^ t - 1) = (2 : Int) ^ t - 1 := IntWalk.u64_in _ (by omega)
    clear hpt hpt0 hpi
    have hmask := bits_mask .u64 64 (by decide) wraps_u64 t (by omega) (x : Int) (by omega) (by omega)
    go_wp2_with fail
    go_region
    go_wp2_with fail
    go_end0
    obtain ⟨hb', hT', p', v', hp', hh', ho'⟩ := hB5
    rw [← Hq.out]
    refine ⟨rfl, ⟨hb, hT', p', v', hp', ?_, own_set ho' hb _ _⟩, HSA.out.trans (hbs5.drewl.trans (beside_set R b 2 _ _).drewr)⟩
    have e2 : ((x % 2 ^ t : Nat) : Int) = (x : Int) % 2 ^ t := by norm_cast
    simp only [e2]
    exact set_two hh'
end Go.Proofs.Ytjendmojkdkipaa
