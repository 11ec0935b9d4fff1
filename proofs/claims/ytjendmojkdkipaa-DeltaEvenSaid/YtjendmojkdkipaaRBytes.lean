/-
  The walk of the document's Writer's Bytes.
-/
import Derived.Test.YtjendmojkdkipaaRWriter
namespace Go.Proofs.Ytjendmojkdkipaa
open Go Go.RowKit

theorem u8Inf : (Try.prog.info? 5).map (fun i => (i.zero, i.size, i.bytes)) = some (some (.int .u8 0), 1, 1) := by kernel_rfl

theorem bool_at {w : World} {A : Option Addr} {l : List Bool} (h : Rd w 1 A l.length (boolCells l)) {i : Nat} (hi : i < l.length) :
    ∃ b off, A = some ⟨b, off, none⟩ ∧ b < w.heap.size ∧ w.cell? ⟨b, off + i, none⟩ = some (.bool l[i]) := by
  obtain ⟨b, off, e, hb, hc⟩ := h.2 (by omega)
  exact ⟨b, off, e, hb, hc i _ (by simp [boolCells, hi])⟩

theorem cellsOf_set (L : List UInt8) (i : Nat) (c : UInt8) : cellsOf (L.set i c) = (cellsOf L).set i (.int .u8 (c.toNat : Int)) := by
  unfold cellsOf; rw [List.map_set]
theorem shr_128 {o : Nat} (ho : o < 8) : (128 : Int) / 2 ^ o = ((2 ^ (7 - o) : Nat) : Int) := by
  rw [show (128 : Int) = ((128 : Nat) : Int) from rfl, shr_nat]
  congr 1
  have : (128 : Nat) = 2 ^ (7 - o) * 2 ^ o := by rw [← Nat.pow_add, show 7 - o + o = 7 by omega]
  rw [this, Nat.mul_div_cancel _ (Nat.two_pow_pos o)]

/-- bytes of bits: bits 0 fill up the last one -/
def Packs (l : List Bool) (M : List UInt8) : Prop := M.length = (l.length + 7) / 8 ∧ bitsOf M = l ++ List.replicate (8 * M.length - l.length) false
theorem pack_out {s : WSt} (h : s.m < 8) {M : List UInt8} (hp : Packs s.bits M) : M = s.out := by
  obtain ⟨h1, h2⟩ := hp
  apply bitsOf_inj
  rw [h2, out_bits h]
  congr 2
  rw [h1, bits_len]
  unfold pad
  split <;> omega
theorem pack_step {l : List Bool} {L : List UInt8} {j n : Nat} (hn : n = (l.length + 7) / 8) (hL : L.length = n) (hj : j < l.length) (h : bitsOf L = l.take j ++ List.replicate (8 * n - j) false) :
    ∃ hi : j / 8 < L.length, L[j / 8].toNat + 2 ^ (7 - j % 8) < 256 ∧ bitsOf (if l[j] then L.set (j / 8) (byt (L[j / 8].toNat + 2 ^ (7 - j % 8))) else L) = l.take (j + 1) ++ List.replicate (8 * n - (j + 1)) false := by
  have hi : j / 8 < L.length := by omega
  have hb : L[j / 8].toNat.testBit (7 - j % 8) = false := by
    have h1 := bitsOf_at L j
    rw [h, List.getElem?_eq_getElem hi, List.getElem?_append_right (by rw [List.length_take]; omega)] at h1
    rw [List.getElem?_eq_getElem (by simp; omega)] at h1
    simpa using h1.symm
  obtain ⟨s1, s2⟩ := set_bit L (j / 8) (j % 8) (Nat.mod_lt _ (by decide)) hi hb
  refine ⟨hi, s1, ?_⟩
  have hr : List.replicate (8 * n - j) false = false :: List.replicate (8 * n - (j + 1)) false := by
    rw [← List.replicate_succ]; congr 1; omega
  have ht : l.take (j + 1) = l.take j ++ [l[j]] := List.take_succ_eq_append_getElem hj
  rw [ht]
  cases hbit : l[j]
  · simp only [Bool.false_eq_true, if_false]
    rw [h, hr]; simp
  · simp only [if_true]
    rw [s2, Nat.div_add_mod, h, hr, List.set_append_right _ _ (by rw [List.length_take]; omega), List.length_take, Nat.min_eq_left (by omega), Nat.sub_self]
    simp

set_option maxRecDepth 100000 in
set_option maxHeartbeats 1000000 in
theorem rbytes_any (R : Nat → Prop) (c : Nat) (l : List Bool) (w : World) (h : RefOf R c l w) (hl : l.length < 1099511626000) :
    Calls Try.prog 28 #[.pointer (some ⟨c, 0, none⟩)] w fun e w' => (∃ M, e = .returned (.string (S M)) ∧ Packs l M) ∧ Below w.heap.size w w' := by
  obtain ⟨hc, v, hh, ho⟩ := h
  obtain ⟨A, cp, rfl⟩ := ho.form
  have c0 : w.cell? ⟨c, 0, none⟩ = some (.slice A l.length cp) := by rw [Lib.cell_of_heap hh]; rfl
  have hrd := ho.rd
  obtain ⟨i0, hi0, hz, hz1, hz2⟩ := info_parts u8Inf
  obtain ⟨n, hnd⟩ : ∃ n, n = (l.length + 7) / 8 := ⟨_, rfl⟩
  obtain ⟨wm, hmk, hown0, hgr0⟩ := run_make_full (P := Try.prog) w w.heap.size 37 5 i0 (.int .u8 0) 1 Try.underlying37 hi0 hz hz1 .i64 .i64 n (by rw [hz2]; omega) (by unfold maxLen; omega) (Nat.le_refl _)
  have hni : ((l.length : Int) + 7) / 8 = (n : Int) := by omega
  have hbel0 : Below w.heap.size w wm := ⟨hgr0.os, hgr0.tape, hgr0.output, hgr0.size, fun k hk => hgr0.block k hk (by simp)⟩
  have hown1 : wm.ownsRow w.heap.size 5 1 (.slice (some ⟨w.heap.size, 0, none⟩) n n) n (cellsOf (List.replicate n (byt 0))) := by
    have e : (madeCells (Value.int .u8 0).cells (n * 1)).toList = cellsOf (List.replicate n (byt 0)) := by
      have := toList_madeCells_one (.int .u8 0) (n * 1)
      rw [show (Value.int IntKind.u8 0).cells = #[.int .u8 0] from rfl, this]
      unfold cellsOf; rw [Nat.mul_one, List.map_replicate]; rfl
    rw [← e]; exact hown0
  clear hown0 hgr0 ho hz hz1 hz2 hi0 hh
  have Hnd := Lib.hid hnd
  clear hnd
  obtain ⟨g, hg⟩ : ∃ g, g = w.heap.size := ⟨_, rfl⟩
  rw [← hg] at hmk hown1
  have Hg := Lib.hid hg
  clear hg
  go_enter Try.func28, Try.ntmps28
  go_wp2_with fail
  go_loopw [4] (fun ix wr => ∃ (j : Nat) (L : List UInt8), ix = .int .i64 j ∧ j ≤ l.length ∧ L.length = n ∧ wr.ownsRow g 5 1 (.slice (some ⟨g, 0, none⟩) n n) n (cellsOf L) ∧ bitsOf L = l.take j ++ List.replicate (8 * n - j) false ∧ Below w.heap.size w wr) (fun ix _ => l.length - (intOf ix).toNat)
  case atStart => exact ⟨0, _, rfl, by omega, by simp, hown1, by
    apply List.ext_getElem
    · rw [bitsOf_length]; simp
    · intro i h1 h2
      rw [bitsOf_length, List.length_replicate] at h1
      have := bitsOf_at (List.replicate n (byt 0)) i
      rw [List.getElem?_eq_getElem (by rw [bitsOf_length]; simpa using h1), List.getElem?_eq_getElem (by simp; omega)] at this
      simp only [List.getElem_replicate, Option.map_some, Option.some.injEq] at this
      rw [this, u8_lt 0 (by omega)]
      simp, hbel0⟩
  case round =>
    obtain ⟨j, L, rfl, hj, hL, hown, hbits, hbel⟩ := hrel
    have c0' := keepc hbel c0
    by_cases hlt : j < l.length
    · obtain ⟨hi, hs1, hs2⟩ := pack_step Hnd.out hL hlt hbits
      obtain ⟨b, off, rfl, hb, e0⟩ := bool_at (hrd.below hbel) hlt
      obtain ⟨i, hid⟩ : ∃ i, i = j / 8 := ⟨_, rfl⟩
      obtain ⟨o, hod⟩ : ∃ o, o = j % 8 := ⟨_, rfl⟩
      have hji : (j : Int) / 8 = (i : Int) := by omega
      have hjo : (j : Int) % 8 = (o : Int) := by omega
      have ho8 : o < 8 := by omega
      simp only [← hid, ← hod] at hi hs1 hs2
      have hin : (i : Int) < (n : Int) := by omega
      have e1 : wr.cell? ⟨g, i, none⟩ = some (.int .u8 (L[i].toNat : Int)) := by
        have := hown.cells (g := g) rfl i (.int .u8 (L[i].toNat : Int)) (by simp [cellsOf, hi])
        rwa [add_none, Nat.zero_add] at this
      have f1 : wr.frozen? ⟨g, i, none⟩ = false := hown.frozenAt i
      have Hbits := Lib.hid hbits
      have Hs2 := Lib.hid hs2
      have Hown := Lib.hid hown
      have Hbel := Lib.hid hbel
      clear hbits hs2 hown hbel
      cases hbit : l[j]
      · rw [hbit] at e0 Hs2
        simp only [Bool.false_eq_true, if_false] at Hs2
        clear hid hod hji hjo hs1 e1 f1 hin hbit
        go_wp2_with fail
        go_roundw
        case rel => exact ⟨j + 1, L, by go_num, by omega, hL, Hown.out, Hs2.out, Hbel.out⟩
        case measure => simp [intOf]; omega
      · rw [hbit] at e0 Hs2
        simp only [if_true] at Hs2
        have hsh := shr_128 ho8
        have hw1 : IntKind.u64.wrap (o : Int) = (o : Int) := IntWalk.u64_in _ (by omega)
        have hm8 : min o 8 = o := by omega
        have hm64 : min o 64 = o := by omega
        obtain ⟨x, hx⟩ : ∃ x, x = L[i].toNat + 2 ^ (7 - o) := ⟨_, rfl⟩
        obtain ⟨y, hy⟩ : ∃ y, y = 2 ^ (7 - o) := ⟨_, rfl⟩
        rw [← hx] at hs1 Hs2
        rw [← hy] at hsh hx
        have hxb : ((byt x).toNat : Int) = (L[i].toNat : Int) + (y : Int) := by rw [u8_lt _ hs1, hx]; omega
        have hw2 : IntKind.u8.wrap (y : Int) = (y : Int) := by rw [IntKind.wrap_u8]; omega
        have hw3 : IntKind.u8.wrap ((L[i].toNat : Int) + (y : Int)) = ((byt x).toNat : Int) := by rw [← hxb, IntKind.wrap_u8, u8_lt _ hs1]; omega
        obtain ⟨Hst, Hgr⟩ := Hown.out.stored i (.int .u8 ((byt x).toNat : Int))
        have HST := Lib.hid Hst
        have HGR := Lib.hid Hgr
        have Hid' := Lib.hid hid
        generalize L[i].toNat = z at *
        clear hid hod hs1 hx hxb Hst Hgr hbit hy ho8
        go_wp2_with fail
        go_roundw
        case rel => exact ⟨j + 1, L.set i (byt x), by go_num, by omega, by rw [List.length_set]; exact hL, by rw [cellsOf_set]; exact HST.out, Hs2.out, Hbel.out.grown HGR.out Hbel.out.size (fun k hk => by cases hk; exact Nat.le_of_eq Hg.out.symm)⟩
        case measure => simp [intOf]; omega
    · obtain rfl : j = l.length := by omega
      have hcv := fun hnn => run_ownedBytes_string (P := Try.prog) (src := 37) (dst := 9) hown Try.underlying37 Try.underlying5 Try.underlying9 hnn
      have hcv2 := hcv (by simp)
      rw [List.take_length] at hbits
      have Hbits := Lib.hid hbits
      have Hbel := Lib.hid hbel
      clear hcv hbits hbel hown
      go_wp2_with fail
      go_ret
      exact ⟨⟨L, rfl, by rw [hL]; exact Hnd.out, by rw [hL]; exact Hbits.out⟩, Hbel.out⟩
end Go.Proofs.Ytjendmojkdkipaa
