/-
  slices.Chunk of rows, sixteen at a time: the iterator's contract.
-/
import Derived.Test.YthmikefinibecaaPackI
import Derived.Test.YthmikefinibecaaRow
import Derived.RangeFuncFrom
import Derived.Shelf.Abstract
import Derived.Shelf.RegionOpen
import Derived.OwnWalkIn
import Derived.TacticsInMore
import Derived.LoopNIn
import Derived.LoopIn
import Derived.Lib.SliceRun
import Derived.Lib.Builder
namespace Go.Proofs.Ythmikefinibecaa
open Go Go.RowKit Go.Shelf
attribute [local go_sem] Oper.semAt_some

theorem chunk_any (A : Option Addr) (n c : Nat) (w : World) :
    Calls Try.prog 29 #[.slice A n c, .int .i64 16] w fun e w' => e = .returned (.func (.func 42) #[] #[.pointer (some ⟨w.heap.size, 0, none⟩), .pointer (some ⟨w.heap.size + 1, 0, none⟩)]) ∧
      w' = (w.alloc (.cells #[.slice A n c] 28)).alloc (.cells #[.int .i64 16] 3) := by
  go_enter Try.func29, Try.ntmps29
  go_wp2_with fail
  go_ret
  exact ⟨rfl, rfl⟩

/-- what a round keeps: what R names -/
def KpR (R : Nat → Prop) (W W' : World) : Prop := W.heap.size ≤ W'.heap.size ∧ ∀ k, R k → W'.heap[k]? = W.heap[k]?
theorem KpR.trans {R : Nat → Prop} {A B C : World} (h : KpR R A B) (k : KpR R B C) : KpR R A C := ⟨Nat.le_trans h.1 k.1, fun i hi => (k.2 i hi).trans (h.2 i hi)⟩
theorem grown_drewN' (w : World) (n : Nat) (row : Option Nat) : w.grownBy (w.drewN n) row := ⟨rfl, rfl, rfl, Nat.le_refl _, fun _ _ _ => rfl⟩

/-- the i-th part of n, of sixteen -/
def chLen (n i : Nat) : Nat := min 16 (n - 16 * i)
def chN (n : Nat) : Nat := (n + 15) / 16
def chVal (b off n : Nat) (i : Nat) : Value := .slice (some ⟨b, off + i * 16 * 3, none⟩) (chLen n i) (chLen n i)

set_option maxRecDepth 100000 in
set_option maxHeartbeats 1000000 in
theorem chunk_stops (m : Nat) (R : Nat → Prop) (A : Option Addr) (Bs Bn b off n c : Nat) (w : World) (hRs : R Bs) (hRn : R Bn) (hs : Bs < w.heap.size) (hn : Bn < w.heap.size) (hbs : w.cell? ⟨Bs, 0, none⟩ = some (.slice A n c)) (hA : 0 < n → A = some ⟨b, off, none⟩) (hbn : w.cell? ⟨Bn, 0, none⟩ = some (.int .i64 16))
    (hl : n ≤ 5000) (hc : n ≤ c) (hcm : c ≤ maxLen) :
    SeqStopsK Fence.wide m Try.prog 42 #[.pointer (some ⟨Bs, 0, none⟩), .pointer (some ⟨Bn, 0, none⟩)] (fun i : Nat => #[chVal b off n (min i (chN n - 1))]) (KpR R)
      (fun xs => xs = List.range (chN n)) (fun pre => pre <+: List.range (chN n)) (chN n) w := fun L J Jx W hW hJ hJx hY h0 => by
  refine callsIn_of_wp Try.func42 rfl trivial ?_ rfl
  simp only [Try.ntmps42, List.size_toArray, List.length_cons, List.length_nil, Nat.reduceAdd, Nat.reduceSub, Array.replicate_succ, Array.replicate_zero, List.push_toArray, List.append_toArray, List.nil_append, List.cons_append]
  have hsW : W.cell? ⟨Bs, 0, none⟩ = some (.slice A n c) := (hW.cell (p := ⟨Bs, 0, none⟩) hs).trans hbs
  have hnW : W.cell? ⟨Bn, 0, none⟩ = some (.int .i64 16) := (hW.cell (p := ⟨Bn, 0, none⟩) hn).trans hbn
  have HJ := Lib.hid hJ
  have HJx := Lib.hid hJx
  have HY := Lib.hid hY
  have Hcm := Lib.hid hcm
  clear hJ hJx hY hcm
  gi_wp2
  gi_loopw [4] (fun ix wr => ∃ j : Nat, ix = .int .i64 (j * 16 : Nat) ∧ j ≤ chN n ∧ J (List.range j) wr ∧ KpR R W wr) (fun ix _ => n + 16 - (intOf ix).toNat)
  case atStart => exact ⟨0, rfl, by omega, h0, Nat.le_refl _, fun _ _ => rfl⟩
  case round =>
    obtain ⟨j, rfl, hj, hJj, hK⟩ := hrel
    have c0 := (World.cell?_of_block (a := ⟨Bs, 0, none⟩) (hK.2 Bs hRs)).trans hsW
    have c1 := (World.cell?_of_block (a := ⟨Bn, 0, none⟩) (hK.2 Bn hRn)).trans hnW
    have HJj := Lib.hid hJj
    have HK := Lib.hid hK
    have hcn : chN n = (n + 15) / 16 := rfl
    have Hcn := Lib.hid hcn
    clear hJj hK
    by_cases hlt : j * 16 < n
    · have hjn : j < chN n := by omega
      have hA0 := hA (by omega)
      subst hA0
      clear hcn
      have hc1 : ¬ c = j * 16 := by omega
      have hc2 : j * 16 < c := by omega
      obtain ⟨k, hk⟩ : ∃ k, chLen n j = k := ⟨_, rfl⟩
      have hk' : min 16 (n - 16 * j) = k := hk
      have m1 : (if n - j * 16 < 16 then n - j * 16 else 16) = k := by rw [← hk']; split <;> omega
      have m2 : (if ((n - j * 16 : Nat) : Int) < 16 then ((n - j * 16 : Nat) : Int) else 16) = k := by rw [← hk']; split <;> omega
      have Hk := Lib.hid hk
      have hk2 : j * 16 + k ≤ n := by omega
      have hk3 : 1 ≤ k := by omega
      have hk4 : k ≤ 16 := by omega
      clear hk hk'
      gi_wp2
      refine wpIn_wide.2 ?_
      go_quiet (fail)
      have hJ2 : Hid (J (List.range j) (wr.drewN nq)) := Lib.hid (HJ.out _ _ _ none HJj.out (grown_drewN' _ _ _) (fun r e => by cases e))
      have hK2 : Hid (KpR R W (wr.drewN nq)) := Lib.hid (HK.out.trans ⟨Nat.le_refl _, fun _ _ => rfl⟩)
      have d0 : (wr.drewN nq).cell? ⟨Bs, 0, none⟩ = some (.slice (some ⟨b, off, none⟩) n c) := c0
      have d1 : (wr.drewN nq).cell? ⟨Bn, 0, none⟩ = some (.int .i64 16) := c1
      clear c0 c1 HJj HK
      generalize wr.drewN nq = wd at *
      obtain ⟨fn, tmps, assign, body, hy, hR⟩ := HY.out (List.range j) j wd hJ2.out (by rw [List.length_range]; exact hjn)
      rw [← List.range_succ] at hR
      rw [Nat.min_eq_left (show j ≤ chN n - 1 by omega)] at hy
      unfold chVal at hy
      rw [Hk.out] at hy
      have hjk1 : ((j * 16 : Nat) : Int) + k ≤ c := by omega
      have hjk2 : j * 16 + k ≤ c := by omega
      have hjk3 : (j * 16 + k) - j * 16 = k := by omega
      have hjk4 : (((j * 16 : Nat) : Int) + k).toNat = j * 16 + k := by omega
      clear m1 m2
      gi_wp2
      refine ⟨fun e => (by cases e), hR.mono ?_⟩
      rintro e W3 (⟨rfl, hJ3, hk3⟩ | ⟨rfl, hJx3⟩)
      · have HJ3 := Lib.hid hJ3
        have Hk3 := Lib.hid (hK2.out.trans hk3)
        have e1 := (World.cell?_of_block (a := ⟨Bn, 0, none⟩) (hk3.2 Bn hRn)).trans d1
        clear hJ3 hk3 hR hy
        gi_wp2
        refine ⟨⟨j + 1, by go_num, by omega, HJ3.out, Hk3.out⟩, ?_⟩
        simp [intOf]
        omega
      · have HJx3 := Lib.hid hJx3
        clear hJx3 hR hy
        gi_wp2
        refine bodyPost_ret (results_none rfl _ _ _) rfl ?_
        refine ⟨⟨_, rfl⟩, .inr ⟨_, ?_, HJx3.out⟩⟩
        have ht : List.range (j + 1) = (List.range (chN n)).take (j + 1) := by rw [List.take_range, Nat.min_eq_left (by omega)]
        rw [Nat.succ_eq_add_one, ht]
        exact List.take_prefix _ _
    · obtain rfl : j = chN n := by omega
      gi_wp2
      go_end0
      exact ⟨⟨_, rfl⟩, .inl ⟨_, rfl, HJj.out⟩⟩
end Go.Proofs.Ythmikefinibecaa
