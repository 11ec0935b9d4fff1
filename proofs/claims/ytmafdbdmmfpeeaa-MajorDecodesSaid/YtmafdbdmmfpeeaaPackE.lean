/-
  What the walks of this claim stand on: RWriter, VBytes, RBytes, Two, one behind the other.
-/
import Derived.Test.YtmafdbdmmfpeeaaPackC
import Derived.Test.YtmafdbdmmfpeeaaPackD
import Derived.Test.YtmafdbdmmfpeeaaPackB
import Derived.Lib.Builder
import Derived.Deep.AppendLies
import Derived.Deep.RegionLaw
import Derived.Deep.DrawnRows
/-! RWriter -/
namespace Go.Proofs.Ytmafdbdmmfpeeaa
open Go Go.RowKit
attribute [local go_sem ↓] Go.wp_at_zero Go.wp_at_succ

/-- the document's writer lies at c and has the bits l, in a row of no block that Pr names -/
def RefOf (Pr : Nat → Prop) (c : Nat) (l : List Bool) (w : World) : Prop :=
  Pr c ∧ ∃ v, w.heap[c]? = some (.cells #[v] 113 (0, 0)) ∧ Lie Pr 4 1 v l.length (boolCells l) w

theorem rnew_any (w : World) :
    Calls Try.prog 48 #[] w fun e w' => e = .returned (.pointer (some ⟨w.heap.size, 0, none⟩)) ∧ w' = w.alloc (.cells #[.slice none 0 0] 113) := by
  go_enter Try.func48, Try.ntmps48
  go_wp2_with fail
  go_ret
  exact ⟨rfl, rfl⟩

theorem new_ref {R : Nat → Prop} {c : Nat} {w : World} (hh : w.heap[c]? = some (.cells #[.slice none 0 0] 113 (0, 0))) (hb : R c) : RefOf R c [] w :=
  ⟨hb, _, hh, Lie.nil _ _ _ _⟩

/-- a number and how many bits: what Put takes -/
def Fit (n : Nat) (k : Int) : Prop := 0 ≤ k ∧ k ≤ 64 ∧ n < 2 ^ k.toNat

set_option maxRecDepth 100000 in
set_option maxHeartbeats 1000000 in
theorem rrice_ok (R : Nat → Prop) (c : Nat) (l : List Bool) (n k : Nat) (w : World) (h : RefOf R c l w) (hR : Old R w) (hn : n < 18446744073709551616) (hk : k ≤ 40) (hl : l.length < 1099511626000) :
    Calls Try.prog 49 #[.pointer (some ⟨c, 0, none⟩), .int .u64 n, .int .i64 k] w fun e w' => e = .returned (.int .i64 0) ∧ RefOf R c (l ++ codeL n k) w' ∧ Beside R c w w' := by
  obtain ⟨hc, v, hh, ho⟩ := h
  obtain ⟨A, cp, rfl⟩ := ho.form
  have c0 : w.cell? ⟨c, 0, none⟩ = some (.slice A l.length cp) := by rw [Lib.cell_of_heap hh]; rfl
  have hd1 : decide ((k : Int) < 0) = false := decide_eq_false (by omega)
  have hd2 : decide ((40 : Int) < (k : Int)) = false := decide_eq_false (by omega)
  have hclt : c < w.heap.size := (Array.getElem?_eq_some_iff.1 hh).1
  have HR := Lib.hid hR
  have HO := Lib.hid ho
  have HH := Lib.hid hh
  have hcl : (codeL n k).length ≤ 88 := by rw [codeL_length]; exact costOne_le hk
  have L1 := Lib.hid (fun w => code_any n k w hn hk)
  clear hR ho hh hn
  generalize codeL n k = cd at *
  go_enter Try.func49, Try.ntmps49
  go_wp2_with fail
  go_region_law (first
      | (refine step_append_rd_row rfl _ _ 111 (by rfl) 4 (.bool false) 1 1 Try.underlying111 boolInf rfl (by decide) R l.length (boolCells l) _ _ (HO.out.below hb2) (by rfl) (HR.out.mono hb2.size) O cd.length co (boolCells cd) (by rfl) hrd2 (bool_one _) (by unfold maxLen; omega) (by omega) ?_; intro v' w3 hown3 hst3 hgr3 hat3; obtain ⟨A3, c3, rfl⟩ := hown3.form; have hbk3 := (hst3.block c hc).trans ((hb2.block c hclt).trans HH.out); have d3 := (Lib.cell_of_heap hbk3 0).trans (show _ = some (Value.slice A l.length cp) from rfl); have f3 := Lib.frozen_of_heap hbk3 0; clear hgr3 hat3; have HBK := Lib.hid hbk3; clear hbk3)
      | (go_simp; go_at_call 64; refine (L1.out _).mono ?_; rintro e w2 ⟨O, co, rfl, hown2, hb2'⟩; have hb2 := hb2'.drewl; obtain ⟨_, _, hv2, hrd2⟩ := Rd.of_own hown2; obtain ⟨rfl, rfl⟩ := (by simpa using hv2); have d0 := keepc hb2 c0))
  all_goals
    go_wp2_with fail
    go_ret
    refine ⟨rfl, ⟨hc, _, set_one HBK.out, ?_⟩, ?_⟩
    · rw [List.length_append, boolCells_append]; exact own_set hown3 hc _ _
    · exact ((Stays.of hb2 HR.out).trans hst3).beside.trans (beside_set _ _ _ _ _)

set_option maxRecDepth 100000 in
theorem rrice_no (c n : Nat) (k : Int) (w : World) (hk : k < 0 ∨ 40 < k) :
    Calls Try.prog 49 #[.pointer (some ⟨c, 0, none⟩), .int .u64 n, .int .i64 k] w fun e w' => e = .returned (.int .i64 1) ∧ w = w' := by
  have hc : decide (k < 0) = true ∨ (decide (k < 0) = false ∧ decide (40 < k) = true) := by
    simp only [decide_eq_true_eq, decide_eq_false_iff_not]; omega
  clear hk
  rcases hc with h1 | ⟨h1, h2⟩
  all_goals
    go_enter Try.func49, Try.ntmps49
    go_wp2_with fail
    go_ret
    exact ⟨rfl, rfl⟩
end Go.Proofs.Ytmafdbdmmfpeeaa

/-! VBytes -/
namespace Go.Proofs.Ytmafdbdmmfpeeaa
open Go Go.RowKit
attribute [local go_sem ↓] Go.wp_at_zero Go.wp_at_succ

/-- 'string(b)' of one byte that lies somewhere -/
theorem run_one_at {P : Program} {src dst e : TypeId} (c : UInt8)
    (hs : P.underlying src = some (.slice e)) (he : P.underlying e = some (.int .u8)) (hd : P.underlying dst = some .string) (w : World) (g : Nat) (h0 : w.cell? ⟨g, 0, none⟩ = some (.int .u8 (c.toNat : Int))) :
    (convert src dst (.slice (some ⟨g, 0, none⟩) 1 1)).run P w = .ok (.string (S [c])) w := by
  refine run_convert_bytes_back w src dst e ⟨g, 0, none⟩ 1 [c] hs he hd fun j hj => ?_
  obtain rfl : j = 0 := by simpa using hj
  exact h0

theorem wr_later {R R' : Nat → Prop} {b : Nat} {s : WSt} {w w' : World} (h : WrOf R b s w) (hb : R' b) (hs : ∀ k, k < w.heap.size → w'.heap[k]? = w.heap[k]?) (hR : ∀ k, k < w.heap.size → R' k → R k) : WrOf R' b s w' := by
  obtain ⟨h1, hT, p, v, hp, hh, ho, hn⟩ := h
  refine ⟨hb, hT, p, v, hp, (hs b (Array.getElem?_eq_some_iff.1 hh).1).trans hh, ?_⟩
  have hlt : ∀ g, v.ownBlock = some g → g < w.heap.size := fun g hg => (ho.lt g hg).2
  exact Lie.shift (Lie.later ⟨ho, hn⟩ fun g hg => hs g (hlt g hg)) fun g hg hR' => hn g hg (hR g (hlt g hg) hR')

set_option maxRecDepth 100000 in
set_option maxHeartbeats 1000000 in
theorem bytes_any (R : Nat → Prop) (b : Nat) (s : WSt) (w : World) (h : WrOf R b s w) (hok : s.ok) (hR : Old R w) (hl : s.L.length < 1099511626000) :
    Calls Try.prog 43 #[.pointer (some ⟨b, 0, none⟩)] w fun e w' => e = .returned (.string (S s.out)) ∧ Stays R w w' := by
  obtain ⟨⟨c2, c3⟩, -⟩ := bld_cells h
  have hb : R b := h.1
  have hbl : b < w.heap.size := hR b hb
  have ST := Lib.hid (fun w' (h' : WrOf R b s w') (hR' : Old R w') => string_any R b _ _ s.L w' h' hR')
  by_cases hm : s.m = 0
  · have ho : s.out = s.L := by unfold WSt.out; rw [if_pos hm]
    rw [ho]
    have hm0 : ((s.m : Int) == 0) = true := by rw [hm]; rfl
    have HH := Lib.hid h
    have HR := Lib.hid hR
    clear ho h hm hok
    go_enter Try.func43, Try.ntmps43
    go_wp2_with fail
    refine (ST.out _ HH.out HR.out).mono ?_
    rintro e w1 ⟨rfl, hs⟩
    go_wp2_with fail
    go_ret
    exact ⟨rfl, hs⟩
  · obtain ⟨hm8, ha⟩ := hok
    obtain ⟨x, hx⟩ : ∃ x, x = s.a * 2 ^ (8 - s.m) := ⟨_, rfl⟩
    have ho : S s.out = S s.L ++ S [byt x] := by unfold WSt.out; rw [if_neg hm, S_append, ← hx]
    rw [ho]
    have hxl : x < 256 := by
      have : s.a * 2 ^ (8 - s.m) < 2 ^ s.m * 2 ^ (8 - s.m) := Nat.mul_lt_mul_of_pos_right ha (Nat.two_pow_pos _)
      rw [← Nat.pow_add, show s.m + (8 - s.m) = 8 by omega] at this
      omega
    obtain ⟨t, ht⟩ : ∃ t, t = 8 - s.m := ⟨_, rfl⟩
    have hm0 : ((s.m : Int) == 0) = false := beq_eq_false_iff_ne.2 (by omega)
    have e1 : IntKind.i64.wrap (8 - (s.m : Int)) = (t : Int) := by rw [IntWalk.i64_in _ (by omega)]; omega
    have e2 : IntKind.u64.wrap (t : Int) = (t : Int) := IntWalk.u64_in _ (by omega)
    have hmn : min t 64 = t := by omega
    have e3 : IntKind.u64.wrap ((s.a : Int) * 2 ^ t) = (x : Int) := by
      have : (s.a : Int) * 2 ^ t = ((s.a * 2 ^ t : Nat) : Int) := by norm_cast
      rw [this, ht, ← hx]
      exact IntWalk.u64_in _ (by omega)
    have e4 : IntKind.u8.wrap (x : Int) = ((byt x).toNat : Int) := byt_wrap x
    have HH := Lib.hid h
    have HR := Lib.hid hR
    clear ho h hm ha hx ht hxl
    have hone := fun w => run_one_string (P := Try.prog) (src := 62) (dst := 9) (e := 5) w ((byt x).toNat : Int) (byt x) rfl Try.underlying62 Try.underlying5 Try.underlying9
    have m8 : (s.m : Int) < 8 := by omega
    have hone2 := run_one_at (P := Try.prog) (src := 62) (dst := 9) (e := 5) (byt x) Try.underlying62 Try.underlying5 Try.underlying9 (w.alloc (.cells #[.int .u8 ((byt x).toNat : Int)] 5)).drew w.heap.size (by
      have := cell_new w #[.int .u8 ((byt x).toNat : Int)] 5 0 _ rfl
      rw [add_none] at this
      exact this)
    have keep2 : ∀ w' : World, (∀ k, R k → w'.heap[k]? = w.heap[k]?) → w'.cell? ⟨b, 2, none⟩ = some (.int .u64 s.a) ∧ w'.cell? ⟨b, 3, none⟩ = some (.int .i64 s.m) := fun w' hk => by
      have e := hk b hb
      simp only [World.cell?, e] at c2 c3 ⊢
      exact ⟨c2, c3⟩
    have hal := Lib.hid (fun k (hk : k < w.heap.size) => Lib.alloc_old w (.cells #[.int .u8 ((byt x).toNat : Int)] 5) k hk)
    have ST2 := Lib.hid (fun w' (hw : w'.heap = (w.alloc (.cells #[.int .u8 ((byt x).toNat : Int)] 5)).heap) =>
      string_any (fun k => R k ∨ k = w.heap.size) b _ _ s.L w' (wr_later HH.out (.inl hb) (fun k hk => by rw [hw]; exact hal.out k hk) (fun k hk hR => hR.elim id (fun e => absurd e (by omega)))) (fun k hk => by
        have hz : w'.heap.size = w.heap.size + 1 := by rw [hw]; simp
        rcases hk with h | h
        · have := HR.out k h; omega
        · omega))
    have cell5 := Lib.hid (fun w5 (h5 : Stays (fun k => R k ∨ k = w.heap.size) (w.alloc (.cells #[.int .u8 ((byt x).toNat : Int)] 5)) w5) => by
      have := cell_new w #[.int .u8 ((byt x).toNat : Int)] 5 0 _ rfl
      rw [add_none] at this
      exact (World.cell?_of_block (h5.block w.heap.size (.inr rfl))).trans this)
    have Hkeep := Lib.hid keep2
    clear keep2
    have HB := Lib.hid hb
    clear hb
    have sz1 : (S s.L).size ≤ 1099511626000 := by rw [S_size]; omega
    have sz2 : (S [byt x]).size ≤ 1 := by rw [S_size]; exact Nat.le_refl 1
    go_enter Try.func43, Try.ntmps43
    go_wp2_with fail
    go_region_held (fun w' => w'.cell? ⟨b, 2, none⟩ = some (.int .u64 s.a) ∧ w'.cell? ⟨b, 3, none⟩ = some (.int .i64 s.m))
      (go_keep)
      (first
        | (go_at_call 28; refine (ST.out w.drew HH.out HR.out).mono ?_; rintro e w5 ⟨rfl, hs5⟩; obtain ⟨g2, g3⟩ := Hkeep.out _ hs5.block)
        | (go_at_call 28; refine (ST2.out _ (by rfl)).mono ?_; rintro e w5 ⟨rfl, hs5'⟩; have hs5 := hs5'.drewl; obtain ⟨g2, g3⟩ := Hkeep.out _ fun k hk => (hs5.block k (.inl hk)).trans (hal.out k (HR.out k hk)); have hc5 := run_one_at (P := Try.prog) (src := 62) (dst := 9) (e := 5) (byt x) Try.underlying62 Try.underlying5 Try.underlying9 w5 w.heap.size (cell5.out w5 hs5)))
    all_goals
      go_wp2_with fail
      go_ret
      refine ⟨rfl, ?_⟩
      first
        | exact hs5.drewl.allocr HR.out _
        | exact ((Stays.refl R w).allocr HR.out _).trans (hs5.mono fun k hk => .inl hk)
end Go.Proofs.Ytmafdbdmmfpeeaa

/-! RBytes -/
namespace Go.Proofs.Ytmafdbdmmfpeeaa
open Go Go.RowKit

theorem u8Inf : (Try.prog.info? 5).map (fun i => (i.zero, i.size, i.bytes)) = some (some (.int .u8 0), 1, 1) := by kernel_rfl

theorem bool_at {w : World} {A : Option Addr} {l : List Bool} (h : Rd w 1 A l.length (boolCells l)) {i : Nat} (hi : i < l.length) :
    ∃ b off, A = some ⟨b, off, none⟩ ∧ b < w.heap.size ∧ w.cell? ⟨b, off + i, none⟩ = some (.bool l[i]) := by
  obtain ⟨b, off, e, hb, hc⟩ := h.2 (by omega)
  exact ⟨b, off, e, hb, hc i _ (by simp [boolCells, hi])⟩

theorem cellsOf_set (L : List UInt8) (i : Nat) (c : UInt8) : cellsOf (L.set i c) = (cellsOf L).set i (.int .u8 (c.toNat : Int)) := by
  unfold cellsOf; rw [List.map_set]
theorem shr_128 {o : Nat} (ho : o < 8) : (128 : Int) / 2 ^ o = ((2 ^ (7 - o) : Nat) : Int) := by
  rw [show (128 : Int) = ((128 : Nat) : Int) from rfl, shr_nat]
  congr 1
  have : (128 : Nat) = 2 ^ (7 - o) * 2 ^ o := by rw [← Nat.pow_add, show 7 - o + o = 7 by omega]
  rw [this, Nat.mul_div_cancel _ (Nat.two_pow_pos o)]

/-- bytes of bits: bits 0 fill up the last one -/
def Packs (l : List Bool) (M : List UInt8) : Prop := M.length = (l.length + 7) / 8 ∧ bitsOf M = l ++ List.replicate (8 * M.length - l.length) false
theorem pack_out {s : WSt} (h : s.m < 8) {M : List UInt8} (hp : Packs s.bits M) : M = s.out := by
  obtain ⟨h1, h2⟩ := hp
  apply bitsOf_inj
  rw [h2, out_bits h]
  congr 2
  rw [h1, bits_len]
  unfold pad
  split <;> omega
theorem pack_step {l : List Bool} {L : List UInt8} {j n : Nat} (hn : n = (l.length + 7) / 8) (hL : L.length = n) (hj : j < l.length) (h : bitsOf L = l.take j ++ List.replicate (8 * n - j) false) :
    ∃ hi : j / 8 < L.length, L[j / 8].toNat + 2 ^ (7 - j % 8) < 256 ∧ bitsOf (if l[j] then L.set (j / 8) (byt (L[j / 8].toNat + 2 ^ (7 - j % 8))) else L) = l.take (j + 1) ++ List.replicate (8 * n - (j + 1)) false := by
  have hi : j / 8 < L.length := by omega
  have hb : L[j / 8].toNat.testBit (7 - j % 8) = false := by
    have h1 := bitsOf_at L j
    rw [h, List.getElem?_eq_getElem hi, List.getElem?_append_right (by rw [List.length_take]; omega)] at h1
    rw [List.getElem?_eq_getElem (by simp; omega)] at h1
    simpa using h1.symm
  obtain ⟨s1, s2⟩ := set_bit L (j / 8) (j % 8) (Nat.mod_lt _ (by decide)) hi hb
  refine ⟨hi, s1, ?_⟩
  have hr : List.replicate (8 * n - j) false = false :: List.replicate (8 * n - (j + 1)) false := by
    rw [← List.replicate_succ]; congr 1; omega
  have ht : l.take (j + 1) = l.take j ++ [l[j]] := List.take_succ_eq_append_getElem hj
  rw [ht]
  cases hbit : l[j]
  · simp only [Bool.false_eq_true, if_false]
    rw [h, hr]; simp
  · simp only [if_true]
    rw [s2, Nat.div_add_mod, h, hr, List.set_append_right _ _ (by rw [List.length_take]; omega), List.length_take, Nat.min_eq_left (by omega), Nat.sub_self]
    simp

set_option maxRecDepth 100000 in
set_option maxHeartbeats 1000000 in
theorem rbytes_any (R : Nat → Prop) (c : Nat) (l : List Bool) (w : World) (h : RefOf R c l w) (hl : l.length < 1099511626000) :
    Calls Try.prog 50 #[.pointer (some ⟨c, 0, none⟩)] w fun e w' => (∃ M, e = .returned (.string (S M)) ∧ Packs l M) ∧ Below w.heap.size w w' := by
  obtain ⟨hc, v, hh, ho⟩ := h
  obtain ⟨A, cp, rfl⟩ := ho.form
  have c0 : w.cell? ⟨c, 0, none⟩ = some (.slice A l.length cp) := by rw [Lib.cell_of_heap hh]; rfl
  have hrd := ho.rd
  obtain ⟨i0, hi0, hz, hz1, hz2⟩ := info_parts u8Inf
  obtain ⟨n, hnd⟩ : ∃ n, n = (l.length + 7) / 8 := ⟨_, rfl⟩
  obtain ⟨wm, hmk, hown0, hgr0⟩ := run_make_full (P := Try.prog) w w.heap.size 62 5 i0 (.int .u8 0) 1 Try.underlying62 hi0 hz hz1 .i64 .i64 n (by rw [hz2]; omega) (by unfold maxLen; omega) (Nat.le_refl _)
  have hni : ((l.length : Int) + 7) / 8 = (n : Int) := by omega
  have hbel0 : Below w.heap.size w wm := ⟨hgr0.os, hgr0.tape, hgr0.output, hgr0.size, fun k hk => hgr0.block k hk (by simp)⟩
  have hown1 : wm.ownsRow w.heap.size 5 1 (.slice (some ⟨w.heap.size, 0, none⟩) n n) n (cellsOf (List.replicate n (byt 0))) := by
    have e : (madeCells (Value.int .u8 0).cells (n * 1)).toList = cellsOf (List.replicate n (byt 0)) := by
      have := toList_madeCells_one (.int .u8 0) (n * 1)
      rw [show (Value.int IntKind.u8 0).cells = #[.int .u8 0] from rfl, this]
      unfold cellsOf; rw [Nat.mul_one, List.map_replicate]; rfl
    rw [← e]; exact hown0
  clear hown0 hgr0 ho hz hz1 hz2 hi0 hh
  have Hnd := Lib.hid hnd
  clear hnd
  obtain ⟨g, hg⟩ : ∃ g, g = w.heap.size := ⟨_, rfl⟩
  rw [← hg] at hmk hown1
  have Hg := Lib.hid hg
  clear hg
  go_enter Try.func50, Try.ntmps50
  go_wp2_with fail
  go_loopw [4] (fun ix wr => ∃ (j : Nat) (L : List UInt8), ix = .int .i64 j ∧ j ≤ l.length ∧ L.length = n ∧ wr.ownsRow g 5 1 (.slice (some ⟨g, 0, none⟩) n n) n (cellsOf L) ∧ bitsOf L = l.take j ++ List.replicate (8 * n - j) false ∧ Below w.heap.size w wr) (fun ix _ => l.length - (intOf ix).toNat)
  case atStart => exact ⟨0, _, rfl, by omega, by simp, hown1, by
    apply List.ext_getElem
    · rw [bitsOf_length]; simp
    · intro i h1 h2
      rw [bitsOf_length, List.length_replicate] at h1
      have := bitsOf_at (List.replicate n (byt 0)) i
      rw [List.getElem?_eq_getElem (by rw [bitsOf_length]; simpa using h1), List.getElem?_eq_getElem (by simp; omega)] at this
      simp only [List.getElem_replicate, Option.map_some, Option.some.injEq] at this
      rw [this, u8_lt 0 (by omega)]
      simp, hbel0⟩
  case round =>
    obtain ⟨j, L, rfl, hj, hL, hown, hbits, hbel⟩ := hrel
    have c0' := keepc hbel c0
    by_cases hlt : j < l.length
    · obtain ⟨hi, hs1, hs2⟩ := pack_step Hnd.out hL hlt hbits
      obtain ⟨b, off, rfl, hb, e0⟩ := bool_at (hrd.below hbel) hlt
      obtain ⟨i, hid⟩ : ∃ i, i = j / 8 := ⟨_, rfl⟩
      obtain ⟨o, hod⟩ : ∃ o, o = j % 8 := ⟨_, rfl⟩
      have hji : (j : Int) / 8 = (i : Int) := by omega
      have hjo : (j : Int) % 8 = (o : Int) := by omega
      have ho8 : o < 8 := by omega
      simp only [← hid, ← hod] at hi hs1 hs2
      have hin : (i : Int) < (n : Int) := by omega
      have e1 : wr.cell? ⟨g, i, none⟩ = some (.int .u8 (L[i].toNat : Int)) := by
        have := hown.cells (g := g) rfl i (.int .u8 (L[i].toNat : Int)) (by simp [cellsOf, hi])
        rwa [add_none, Nat.zero_add] at this
      have f1 : wr.frozen? ⟨g, i, none⟩ = false := hown.frozenAt i
      have Hbits := Lib.hid hbits
      have Hs2 := Lib.hid hs2
      have Hown := Lib.hid hown
      have Hbel := Lib.hid hbel
      clear hbits hs2 hown hbel
      cases hbit : l[j]
      · rw [hbit] at e0 Hs2
        simp only [Bool.false_eq_true, if_false] at Hs2
        clear hid hod hji hjo hs1 e1 f1 hin hbit
        go_wp2_with fail
        go_roundw
        case rel => exact ⟨j + 1, L, by go_num, by omega, hL, Hown.out, Hs2.out, Hbel.out⟩
        case measure => simp [intOf]; omega
      · rw [hbit] at e0 Hs2
        simp only [if_true] at Hs2
        have hsh := shr_128 ho8
        have hw1 : IntKind.u64.wrap (o : Int) = (o : Int) := IntWalk.u64_in _ (by omega)
        have hm8 : min o 8 = o := by omega
        have hm64 : min o 64 = o := by omega
        obtain ⟨x, hx⟩ : ∃ x, x = L[i].toNat + 2 ^ (7 - o) := ⟨_, rfl⟩
        obtain ⟨y, hy⟩ : ∃ y, y = 2 ^ (7 - o) := ⟨_, rfl⟩
        rw [← hx] at hs1 Hs2
        rw [← hy] at hsh hx
        have hxb : ((byt x).toNat : Int) = (L[i].toNat : Int) + (y : Int) := by rw [u8_lt _ hs1, hx]; omega
        have hw2 : IntKind.u8.wrap (y : Int) = (y : Int) := by rw [IntKind.wrap_u8]; omega
        have hw3 : IntKind.u8.wrap ((L[i].toNat : Int) + (y : Int)) = ((byt x).toNat : Int) := by rw [← hxb, IntKind.wrap_u8, u8_lt _ hs1]; omega
        obtain ⟨Hst, Hgr⟩ := Hown.out.stored i (.int .u8 ((byt x).toNat : Int))
        have HST := Lib.hid Hst
        have HGR := Lib.hid Hgr
        have Hid' := Lib.hid hid
        generalize L[i].toNat = z at *
        clear hid hod hs1 hx hxb Hst Hgr hbit hy ho8
        go_wp2_with fail
        go_roundw
        case rel => exact ⟨j + 1, L.set i (byt x), by go_num, by omega, by rw [List.length_set]; exact hL, by rw [cellsOf_set]; exact HST.out, Hs2.out, Hbel.out.grown HGR.out Hbel.out.size (fun k hk => by cases hk; exact Nat.le_of_eq Hg.out.symm)⟩
        case measure => simp [intOf]; omega
    · obtain rfl : j = l.length := by omega
      have hcv := fun hnn => run_ownedBytes_string (P := Try.prog) (src := 62) (dst := 9) hown Try.underlying62 Try.underlying5 Try.underlying9 hnn
      have hcv2 := hcv (by simp)
      rw [List.take_length] at hbits
      have Hbits := Lib.hid hbits
      have Hbel := Lib.hid hbel
      clear hcv hbits hbel hown
      go_wp2_with fail
      go_ret
      exact ⟨⟨L, rfl, by rw [hL]; exact Hnd.out, by rw [hL]; exact Hbits.out⟩, Hbel.out⟩
end Go.Proofs.Ytmafdbdmmfpeeaa

/-! Two -/
namespace Go.Proofs.Ytmafdbdmmfpeeaa
open Go Go.RowKit

/-- what an object at b says depends on b and on what its predicate leaves out -/
def Local (b : Nat) (O : (Nat → Prop) → World → Prop) : Prop :=
  ∀ R R' w w', O R w → R' b → (∀ k, k < w.heap.size → (k = b ∨ ¬ R k) → w'.heap[k]? = w.heap[k]?) → (∀ k, k < w.heap.size → R' k → R k) → O R' w'

def PrF (F : Nat → Prop) (b : Nat) (w : World) (k : Nat) : Prop := k < w.heap.size ∧ (¬ F k ∨ k = b)

/-- an object that lies at b, in the blocks F -/
structure InF (b : Nat) (O : (Nat → Prop) → World → Prop) (F : Nat → Prop) (w : World) : Prop where
  at_ : F b
  lt : ∀ k, F k → k < w.heap.size
  says : O (PrF F b w) w

theorem InF.old {b : Nat} {O : (Nat → Prop) → World → Prop} {F : Nat → Prop} {w : World} (_ : InF b O F w) : Old (PrF F b w) w := fun _ h => h.1

theorem InF.shut {b : Nat} {O O' : (Nat → Prop) → World → Prop} (hL : Local b O') {F : Nat → Prop} {w w' : World} (h : InF b O F w) (h1 : O' (PrF F b w) w') (h2 : Beside (PrF F b w) b w w') : ∃ F', InF b O' F' w' ∧ Frm F F' w w' := by
  have hb := h.lt b h.at_
  refine ⟨fun k => F k ∨ (w.heap.size ≤ k ∧ k < w'.heap.size), ⟨.inl h.at_, ?_, ?_⟩, ⟨h2.os, h2.tape, h2.output, h2.size, ?_, ?_⟩⟩
  · intro k hk
    have := h2.size
    rcases hk with hk | hk
    · have := h.lt k hk; omega
    · exact hk.2
  · refine hL _ _ w' w' h1 ⟨by have := h2.size; omega, .inr rfl⟩ (fun _ _ _ => rfl) fun k hk hp => ?_
    have hlt : k < w.heap.size ∨ w.heap.size ≤ k := by omega
    rcases hp.2 with h3 | h3
    · rcases hlt with h4 | h4
      · exact ⟨h4, .inl fun e => h3 (.inl e)⟩
      · exact absurd (.inr ⟨h4, hk⟩) h3
    · exact ⟨by omega, .inr h3⟩
  · intro k hk hF
    exact h2.block k ⟨hk, .inl hF⟩ (fun e => hF (e ▸ h.at_))
  · intro k hk
    rcases hk with h3 | h3
    · exact .inl h3
    · exact .inr h3.1

theorem InF.later {b : Nat} {O : (Nat → Prop) → World → Prop} (hL : Local b O) {F : Nat → Prop} {w w' : World} (h : InF b O F w) (hs : w.heap.size ≤ w'.heap.size) (hF : ∀ k, F k → w'.heap[k]? = w.heap[k]?) : InF b O F w' := by
  have hb := h.lt b h.at_
  refine ⟨h.at_, fun k hk => Nat.lt_of_lt_of_le (h.lt k hk) hs, ?_⟩
  refine hL _ _ w w' h.says ⟨by omega, .inr rfl⟩ (fun k hk h1 => ?_) fun k hk hp => ⟨hk, hp.2⟩
  rcases h1 with rfl | h1
  · exact hF k h.at_
  · apply hF
    apply Classical.byContradiction
    intro h2
    exact h1 ⟨hk, .inl h2⟩

theorem InF.frm {b : Nat} {O : (Nat → Prop) → World → Prop} (hL : Local b O) {F G G' : Nat → Prop} {w w' : World} (h : InF b O F w) (hf : Frm G G' w w') (hd : ∀ k, G k → ¬ F k) : InF b O F w' :=
  h.later hL hf.size (hf.other hd h.lt)

theorem InF.below {b : Nat} {O : (Nat → Prop) → World → Prop} (hL : Local b O) {F : Nat → Prop} {w w' : World} (h : InF b O F w) (hf : Below w.heap.size w w') : InF b O F w' :=
  h.later hL hf.size fun k hk => hf.block k (h.lt k hk)

theorem wr_local (b : Nat) (s : WSt) : Local b (fun R => WrOf R b s) := by
  intro R R' w w' h hb hs hR
  obtain ⟨h1, hT, p, v, hp, hh, ho, hn⟩ := h
  have hlt : ∀ g, v.ownBlock = some g → g < w.heap.size := fun g hg => (ho.lt g hg).2
  refine ⟨hb, hT, p, v, hp, (hs b (Array.getElem?_eq_some_iff.1 hh).1 (.inl rfl)).trans hh, ?_⟩
  exact Lie.shift (Lie.later ⟨ho, hn⟩ fun g hg => hs g (hlt g hg) (.inr (hn g hg))) fun g hg hR' => hn g hg (hR g (hlt g hg) hR')

theorem ref_local (c : Nat) (l : List Bool) : Local c (fun R => RefOf R c l) := by
  intro R R' w w' h hb hs hR
  obtain ⟨h1, v, hh, ho, hn⟩ := h
  have hlt : ∀ g, v.ownBlock = some g → g < w.heap.size := fun g hg => (ho.lt g hg).2
  refine ⟨hb, v, (hs c (Array.getElem?_eq_some_iff.1 hh).1 (.inl rfl)).trans hh, ?_⟩
  exact Lie.shift (Lie.later ⟨ho, hn⟩ fun g hg => hs g (hlt g hg) (.inr (hn g hg))) fun g hg hR' => hn g hg (hR g (hlt g hg) hR')

instance (n : Nat) (k : Int) : Decidable (Fit n k) := by unfold Fit; infer_instance

/-- what Put answers, has, and writes -/
def putE (n : Nat) (k : Int) : Nat := if Fit n k then 0 else 1

def WSt.putS (s : WSt) (n : Nat) (k : Int) : WSt := if Fit n k then s.all n k.toNat else s

def putB (l : List Bool) (n : Nat) (k : Int) : List Bool := if Fit n k then l ++ lowL n k.toNat else l

def riceE (k : Int) : Nat := if 0 ≤ k ∧ k ≤ 40 then 0 else 1

def WSt.riceS (s : WSt) (n : Nat) (k : Int) : WSt := if 0 ≤ k ∧ k ≤ 40 then s.rice n k.toNat else s

def riceB (l : List Bool) (n : Nat) (k : Int) : List Bool := if 0 ≤ k ∧ k ≤ 40 then l ++ codeL n k.toNat else l

theorem putS_bits (s : WSt) (n : Nat) (k : Int) : (s.putS n k).bits = putB s.bits n k := by
  unfold WSt.putS putB
  split
  · rw [all_is]
  · rfl

theorem riceS_bits (s : WSt) (n : Nat) (k : Int) : (s.riceS n k).bits = riceB s.bits n k := by
  unfold WSt.riceS riceB
  split
  · rw [rice_is]
  · rfl

theorem putS_ok {s : WSt} {n : Nat} {k : Int} (h : s.ok) : (s.putS n k).ok ∧ (s.putS n k).L.length ≤ s.L.length + 20 := by
  unfold WSt.putS
  split
  · rename_i hf
    obtain ⟨h1, h2⟩ := all_ok k.toNat s n h
    have := hf.2.1
    exact ⟨h1, by omega⟩
  · exact ⟨h, by omega⟩

theorem riceS_ok {s : WSt} {n : Nat} {k : Int} (h : s.ok) : (s.riceS n k).ok ∧ (s.riceS n k).L.length ≤ s.L.length + 20 := by
  unfold WSt.riceS
  split
  · exact rice_ok h (by omega)
  · exact ⟨h, by omega⟩

theorem fit_len {n : Nat} {k : Int} (hn : n < 18446744073709551616) : Fit n k ↔ ¬ (k < 0 ∨ 64 < k ∨ k < (Lib.bitLen n : Int)) := by
  unfold Fit
  constructor
  · rintro ⟨h1, h2, h3⟩ h
    have := (bitLen_le_iff (x := n) (k := k.toNat) hn (by omega)).2 h3
    omega
  · intro h
    exact ⟨by omega, by omega, (bitLen_le_iff (x := n) (k := k.toNat) hn (by omega)).1 (by omega)⟩

theorem wrice_any (R : Nat → Prop) (b : Nat) (s : WSt) (n : Nat) (k : Int) (w : World) (h : WrOf R b s w) (hok : s.ok) (hn : n < 18446744073709551616) (hl : s.L.length < 1099511626000) (hR : Old R w) :
    Calls Try.prog 42 #[.pointer (some ⟨b, 0, none⟩), .int .u64 n, .int .i64 k] w fun e w' => e = .returned (.int .i64 (riceE k : Nat)) ∧ WrOf R b (s.riceS n k) w' ∧ Beside R b w w' := by
  unfold riceE WSt.riceS
  by_cases hf : 0 ≤ k ∧ k ≤ 40
  · rw [if_pos hf, if_pos hf]
    have := rice_any R b s n k.toNat w h hok hn (by omega) hl hR
    rwa [show ((k.toNat : Nat) : Int) = k by omega] at this
  · rw [if_neg hf, if_neg hf]
    refine (rice_no b n k w (by omega)).mono ?_
    rintro e w' ⟨rfl, rfl⟩
    exact ⟨rfl, h, Beside.refl _ _ _⟩

theorem rrice_any (R : Nat → Prop) (c : Nat) (l : List Bool) (n : Nat) (k : Int) (w : World) (h : RefOf R c l w) (hn : n < 18446744073709551616) (hl : l.length < 1099511626000) (hR : Old R w) :
    Calls Try.prog 49 #[.pointer (some ⟨c, 0, none⟩), .int .u64 n, .int .i64 k] w fun e w' => e = .returned (.int .i64 (riceE k : Nat)) ∧ RefOf R c (riceB l n k) w' ∧ Beside R c w w' := by
  unfold riceE riceB
  by_cases hf : 0 ≤ k ∧ k ≤ 40
  · rw [if_pos hf, if_pos hf]
    have := rrice_ok R c l n k.toNat w h hR hn (by omega) hl
    rwa [show ((k.toNat : Nat) : Int) = k by omega] at this
  · rw [if_neg hf, if_neg hf]
    refine (rrice_no c n k w (by omega)).mono ?_
    rintro e w' ⟨rfl, rfl⟩
    exact ⟨rfl, h, Beside.refl _ _ _⟩

/-- the writer, in blocks of its own -/
def WrF (b : Nat) (s : WSt) (F : Nat → Prop) (w : World) : Prop := InF b (fun R => WrOf R b s) F w

def RefF (c : Nat) (l : List Bool) (F : Nat → Prop) (w : World) : Prop := InF c (fun R => RefOf R c l) F w

/-- a call that does to an object what is said, and leaves all blocks but the object's -/
def DoesW (b : Nat) (s : WSt) (F : Nat → Prop) (v : Int) (w : World) (e : Ending) (w' : World) : Prop := e = .returned (.int .i64 v) ∧ ∃ F', WrF b s F' w' ∧ Frm F F' w w'

def DoesR (c : Nat) (l : List Bool) (F : Nat → Prop) (v : Int) (w : World) (e : Ending) (w' : World) : Prop := e = .returned (.int .i64 v) ∧ ∃ F', RefF c l F' w' ∧ Frm F F' w w'

theorem riceF (b : Nat) (s : WSt) (F : Nat → Prop) (n : Nat) (k : Int) (w : World) (h : WrF b s F w) (hok : s.ok) (hn : n < 18446744073709551616) (hl : s.L.length < 1099511626000) :
    Calls Try.prog 42 #[.pointer (some ⟨b, 0, none⟩), .int .u64 n, .int .i64 k] w (DoesW b (s.riceS n k) F (riceE k : Nat) w) :=
  (wrice_any _ b s n k w h.says hok hn hl h.old).mono fun _ _ ⟨h1, h2, h3⟩ => ⟨h1, h.shut (wr_local b _) h2 h3⟩

theorem rriceF (c : Nat) (l : List Bool) (F : Nat → Prop) (n : Nat) (k : Int) (w : World) (h : RefF c l F w) (hn : n < 18446744073709551616) (hl : l.length < 1099511626000) :
    Calls Try.prog 49 #[.pointer (some ⟨c, 0, none⟩), .int .u64 n, .int .i64 k] w (DoesR c (riceB l n k) F (riceE k : Nat) w) :=
  (rrice_any _ c l n k w h.says hn hl h.old).mono fun _ _ ⟨h1, h2, h3⟩ => ⟨h1, h.shut (ref_local c _) h2 h3⟩

theorem WrF.blk {b : Nat} {s : WSt} {F : Nat → Prop} {w : World} (h : WrF b s F w) : WBlk b s.L.length s.a s.m w := WrOf.blk (InF.says h)

/-- the writer's bytes: its own block stands, and all that is none of its -/
theorem bytesF (b : Nat) (s : WSt) (F : Nat → Prop) (w : World) (h : WrF b s F w) (hok : s.ok) (hl : s.L.length < 1099511626000) :
    Calls Try.prog 43 #[.pointer (some ⟨b, 0, none⟩)] w fun e w' => e = .returned (.string (S s.out)) ∧ Stays (PrF F b w) w w' :=
  bytes_any _ b s w h.says hok h.old hl

/-- a writer that was just made -/
theorem newF (w : World) (cs : Array Value) (T : TypeId) (O : (Nat → Prop) → World → Prop) (h : ∀ R : Nat → Prop, R w.heap.size → O R (w.alloc (.cells cs T))) : InF w.heap.size O (fun k => k = w.heap.size) (w.alloc (.cells cs T)) :=
  ⟨rfl, fun k hk => by subst hk; simp, h _ ⟨by simp, .inr rfl⟩⟩

/-- a writer and the document's one, in one world -/
structure Pair (B b c : Nat) (s : WSt) (L : List Bool) (F G : Nat → Prop) (w : World) : Prop where
  wr : WrF b s F w
  ref : RefF c L G w
  dis : ∀ k, F k → ¬ G k
  fb : ∀ k, F k → B ≤ k
  gb : ∀ k, G k → B ≤ k

theorem Pair.size {B b c : Nat} {s : WSt} {L : List Bool} {F G : Nat → Prop} {w : World} (h : Pair B b c s L F G w) : B ≤ w.heap.size := by
  have h1 := h.fb b h.wr.at_
  have h2 := h.wr.lt b h.wr.at_
  omega

theorem Pair.left {B b c : Nat} {s s' : WSt} {L : List Bool} {F F' G : Nat → Prop} {w w' : World} (h : Pair B b c s L F G w) (h1 : WrF b s' F' w') (h2 : Frm F F' w w') : Pair B b c s' L F' G w' ∧ Below B w w' :=
  ⟨⟨h1, h.ref.frm (ref_local c L) h2 h.dis, h2.apart h.dis h.ref.lt, fun k hk => (h2.new k hk).elim (h.fb k) (fun e => Nat.le_trans h.size e), h.gb⟩, h2.below h.size h.fb⟩

theorem Pair.right {B b c : Nat} {s : WSt} {L L' : List Bool} {F G G' : Nat → Prop} {w w' : World} (h : Pair B b c s L F G w) (h1 : RefF c L' G' w') (h2 : Frm G G' w w') : Pair B b c s L' F G' w' ∧ Below B w w' :=
  ⟨⟨h.wr.frm (wr_local b s) h2 (fun k hg hf => h.dis k hf hg), h1, fun k hf hg => h2.apart (fun k hg hf => h.dis k hf hg) h.wr.lt k hg hf, h.fb, fun k hk => (h2.new k hk).elim (h.gb k) (fun e => Nat.le_trans h.size e)⟩, h2.below h.size h.gb⟩

theorem Pair.below {B b c : Nat} {s : WSt} {L : List Bool} {F G : Nat → Prop} {w w' : World} (h : Pair B b c s L F G w) (hb : Below w.heap.size w w') : Pair B b c s L F G w' :=
  ⟨h.wr.below (wr_local b s) hb, h.ref.below (ref_local c L) hb, h.dis, h.fb, h.gb⟩

theorem Pair.cell {B b c : Nat} {s : WSt} {L : List Bool} {F G : Nat → Prop} {w : World} (h : Pair B b c s L F G w) (q : Nat) (hq : w.heap.size ≤ q) : ¬ F q ∧ ¬ G q :=
  ⟨fun e => by have := h.wr.lt q e; omega, fun e => by have := h.ref.lt q e; omega⟩
end Go.Proofs.Ytmafdbdmmfpeeaa
