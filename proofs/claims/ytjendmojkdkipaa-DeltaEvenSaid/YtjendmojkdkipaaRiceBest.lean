/-
  The walks of Best and of the document's.
-/
import Derived.Test.YtjendmojkdkipaaRiceCode
namespace Go.Proofs.Ytjendmojkdkipaa
open Go Go.RowKit

theorem costZ_nat {l : List Nat} {k : Nat} (h : k ≤ 40) : costZ l k = costN l k := by
  unfold costZ; rw [if_neg (by omega), Int.toNat_natCast]

set_option maxRecDepth 100000 in
set_option maxHeartbeats 1000000 in
theorem rbest_any (A : Option Addr) (c : Nat) (l : List Nat) (w : World) (hr : Rd w 1 A l.length (u64Cells l)) (hl : l.length ≤ 5000) (hx : ∀ x ∈ l, x < 18446744073709551616) :
    Calls Try.prog 25 #[.slice A l.length c] w fun e w' => e = .returned (.int .i64 (bestN l 40)) ∧ Below w.heap.size w w' := by
  have C := Lib.hid (fun k w hk hr => rcost_in A c l k w hr hl hk hx)
  have Hr := Lib.hid hr
  clear hx hr
  go_enter Try.func25, Try.ntmps25
  go_wp2
  go_loopw [3, 4] (fun b i wr => ∃ j : Nat, i = .int .i64 (j + 1 : Nat) ∧ j ≤ 40 ∧ b = .int .i64 (bestN l j : Nat) ∧ Below w.heap.size w wr) (fun _ i _ => 41 - (intOf i).toNat)
  case atStart => exact ⟨0, rfl, by omega, rfl, Below.refl _ _⟩
  case round =>
    obtain ⟨j, rfl, hj, rfl, hbel⟩ := hrel
    by_cases hlt : j < 40
    · have hbj := bestN_le l j
      have C1 := Lib.hid (fun w hr => C.out (j + 1) w (by omega) hr)
      have C2 := Lib.hid (fun w hr => C.out (bestN l j) w (by omega) hr)
      have Hs : Hid (bestN l (j + 1) = if costN l (j + 1) < costN l (bestN l j) then j + 1 else bestN l j) := rfl
      generalize bestN l j = b at *
      obtain ⟨i, hi⟩ : ∃ i, i = j + 1 := ⟨_, rfl⟩
      rw [← hi] at C1 Hs
      rw [show ((j + 1 : Nat) : Int) = (i : Int) by omega]
      have hi40 : (i : Int) ≤ 40 := by omega
      have Hi := Lib.hid hi
      clear hi
      go_wp2_with fail
      refine (C1.out _ (Hr.out.below hbel)).mono ?_
      rintro e w1 ⟨rfl, hb1⟩
      go_wp2_with fail
      refine (C2.out _ ((Hr.out.below hbel).below hb1)).mono ?_
      rintro e w2 ⟨rfl, hb2⟩
      have hbel2 := (hbel.then hb1).then hb2
      clear hb1 hb2
      by_cases hc : costN l i < costN l b
      · rw [if_pos hc] at Hs
        generalize costN l i = x at *
        generalize costN l b = y at *
        go_wp2_with fail
        go_roundw
        case rel => exact ⟨i, by go_num, by omega, by rw [Hs.out], hbel2⟩
        case measure => simp [intOf]; omega
      · rw [if_neg hc] at Hs
        generalize costN l i = x at *
        generalize costN l b = y at *
        go_wp2_with fail
        go_roundw
        case rel => exact ⟨i, by go_num, by omega, by rw [Hs.out], hbel2⟩
        case measure => simp [intOf]; omega
    · obtain rfl : j = 40 := by omega
      go_wp2_with fail
      go_ret
      exact ⟨rfl, hbel⟩

theorem set_other {w : World} {b k j : Nat} {v : Value} (h : k ≠ b) : (w.setCell ⟨b, j, none⟩ v).heap[k]? = w.heap[k]? := Below.heap_setCell w ⟨b, j, none⟩ v k h
theorem set_one {w : World} {b : Nat} {u v : Value} {t : TypeId} (h : w.heap[b]? = some (.cells #[u] t (0, 0))) : (w.setCell ⟨b, 0, none⟩ v).heap[b]? = some (.cells #[v] t (0, 0)) := by
  simp [World.setCell, Array.getElem?_modify, h]
theorem block_on' {w w' : World} {b : Nat} {o : Obj} (h : Below w.heap.size w w') (hk : w.heap[b]? = some o) : w'.heap[b]? = some o :=
  (h.block b (Array.getElem?_eq_some_iff.1 hk).1).trans hk

/-- what one try leaves -/
def Tried (bx be le : Nat) (v : Value) (b y : Nat) (w : World) : Prop :=
  w.heap[bx]? = some (.cells #[v] 44 (0, 0)) ∧ w.heap[be]? = some (.cells #[.int .i64 b] 3 (0, 0)) ∧ w.heap[le]? = some (.cells #[.int .i64 y] 3 (0, 0))
theorem Tried.kept {bx be le : Nat} {v : Value} {b y : Nat} {w w' : World} (h : Tried bx be le v b y w) (hb : Below w.heap.size w w') : Tried bx be le v b y w' :=
  ⟨block_on' hb h.1, block_on' hb h.2.1, block_on' hb h.2.2⟩

set_option maxRecDepth 100000 in
set_option maxHeartbeats 1000000 in
theorem try_any (B bx be le : Nat) (A : Option Addr) (c : Nat) (l : List Nat) (i b y : Nat) (w : World) (ht : Tried bx be le (.slice A l.length c) b y w) (hn1 : be ≠ le) (hn2 : bx ≠ be) (hn3 : bx ≠ le) (h1 : B ≤ be) (h2 : B ≤ le) (hB : B ≤ w.heap.size)
    (hr : Rd w 1 A l.length (u64Cells l)) (hl : l.length ≤ 5000) (hx : ∀ x ∈ l, x < 18446744073709551616) (hi : i ≤ 40) :
    Calls Try.prog 36 #[.int .i64 i, .pointer (some ⟨bx, 0, none⟩), .pointer (some ⟨le, 0, none⟩), .pointer (some ⟨be, 0, none⟩)] w fun e w' => e = .returned (.tuple #[]) ∧
      Tried bx be le (.slice A l.length c) (if costN l i < y then i else b) (if costN l i < y then costN l i else y) w' ∧ Below B w w' := by
  have C := Lib.hid (cost_in A c l i w hr hl hi hx)
  have p0 : w.cell? ⟨bx, 0, none⟩ = some (.slice A l.length c) := by rw [Lib.cell_of_heap ht.1]; rfl
  have Ht := Lib.hid ht
  obtain ⟨x, hxc⟩ : ∃ x, x = costN l i := ⟨_, rfl⟩
  rw [← hxc] at C ⊢
  have hn1' : le ≠ be := fun e => hn1 e.symm
  clear hr hx ht hxc
  by_cases hc : x < y
  · simp only [if_pos hc]
    go_enter Try.func36, Try.ntmps36
    go_wp2_with fail
    refine C.out.mono ?_
    rintro e w1 ⟨rfl, hb1⟩
    have ht1 := Ht.out.kept hb1
    have q1 : w1.cell? ⟨be, 0, none⟩ = some (.int .i64 b) := by rw [Lib.cell_of_heap ht1.2.1]; rfl
    have q2 : w1.cell? ⟨le, 0, none⟩ = some (.int .i64 y) := by rw [Lib.cell_of_heap ht1.2.2]; rfl
    have f1 : w1.frozen? ⟨be, 0, none⟩ = false := Lib.frozen_of_heap ht1.2.1 0
    have f2 : w1.frozen? ⟨le, 0, none⟩ = false := Lib.frozen_of_heap ht1.2.2 0
    have hb : Below B w w1 := hb1.mono hB
    have Ht1 := Lib.hid ht1
    clear ht1 hb1
    go_wp2_with fail
    go_end0
    exact ⟨rfl, ⟨by rw [set_other hn3, set_other hn2]; exact Ht1.out.1, by rw [set_other hn1]; exact set_one Ht1.out.2.1, set_one (by rw [set_other hn1']; exact Ht1.out.2.2)⟩, (hb.setCell (p := ⟨be, 0, none⟩) h1 _).setCell (p := ⟨le, 0, none⟩) h2 _⟩
  · simp only [if_neg hc]
    go_enter Try.func36, Try.ntmps36
    go_wp2_with fail
    refine C.out.mono ?_
    rintro e w1 ⟨rfl, hb1⟩
    have ht1 := Ht.out.kept hb1
    have q1 : w1.cell? ⟨be, 0, none⟩ = some (.int .i64 b) := by rw [Lib.cell_of_heap ht1.2.1]; rfl
    have q2 : w1.cell? ⟨le, 0, none⟩ = some (.int .i64 y) := by rw [Lib.cell_of_heap ht1.2.2]; rfl
    have f1 : w1.frozen? ⟨be, 0, none⟩ = false := Lib.frozen_of_heap ht1.2.1 0
    have f2 : w1.frozen? ⟨le, 0, none⟩ = false := Lib.frozen_of_heap ht1.2.2 0
    have hb : Below B w w1 := hb1.mono hB
    have Ht1 := Lib.hid ht1
    clear ht1 hb1
    go_wp2_with fail
    go_end0
    exact ⟨rfl, Ht1.out, hb⟩

set_option maxRecDepth 100000 in
set_option maxHeartbeats 1000000 in
theorem best_any (A : Option Addr) (c : Nat) (l : List Nat) (w : World) (hr : Rd w 1 A l.length (u64Cells l)) (hl : l.length ≤ 5000) (hx : ∀ x ∈ l, x < 18446744073709551616) :
    Calls Try.prog 18 #[.slice A l.length c] w fun e w' => e = .returned (.int .i64 (bestN l 40)) ∧ Below w.heap.size w w' := by
  have C := Lib.hid (fun k w hk hr => cost_in A c l k w hr hl hk hx)
  have Hr := Lib.hid hr
  have Hx := Lib.hid hx
  clear hx hr
  go_enter Try.func18, Try.ntmps18
  have hmf : ∀ (fn : Fn) (first cap : Array Value) (w : World), (Instr.makeFunc fn first cap).run Try.prog w = .ok (.func fn first cap) w := fun _ _ _ _ => rfl
  go_wp2_with fail
  refine (C.out 0 _ (by omega) (Hr.out.below (Below.one _ _))).mono ?_
  rintro e w1 ⟨rfl, hb1⟩
  go_wp2_with fail
  have hz1 : w.heap.size < w1.heap.size := by have := hb1.size; simp at this; omega
  have hbel0 := (hb1.allocl).then (below_two w1 (.cells #[.int .i64 0] 3) (.cells #[.int .i64 (costN l 0 : Nat)] 3))
  have ht0 : Tried w.heap.size w1.heap.size (w1.heap.size + 1) (.slice A l.length c) (bestN l 0) (costN l (bestN l 0)) ((w1.alloc (.cells #[.int .i64 0] 3)).alloc (.cells #[.int .i64 (costN l 0 : Nat)] 3)) := by
    refine ⟨?_, ?_, ?_⟩
    · exact (Lib.alloc_old _ _ _ (by simp; omega)).trans ((Lib.alloc_old _ _ _ hz1).trans (block_on' hb1 (heap_alloc_new w _)))
    · exact (Lib.alloc_old _ _ _ (by simp)).trans (heap_alloc_new w1 _)
    · have := heap_alloc_new (w1.alloc (.cells #[.int .i64 0] 3)) (.cells #[.int .i64 (costN l 0 : Nat)] 3)
      simp only [World.size_alloc] at this
      exact this
  have Ht0 := Lib.hid ht0
  have Hbel0 := Lib.hid hbel0
  clear ht0 hbel0 hb1
  go_loopw [6] (fun i wr => ∃ j : Nat, i = .int .i64 (j + 1 : Nat) ∧ j ≤ 40 ∧ Tried w.heap.size w1.heap.size (w1.heap.size + 1) (.slice A l.length c) (bestN l j) (costN l (bestN l j)) wr ∧ Below w.heap.size w wr) (fun i _ => 41 - (intOf i).toNat)
  case atStart => exact ⟨0, rfl, by omega, Ht0.out, Hbel0.out⟩
  case round =>
    obtain ⟨j, rfl, hj, htr, hbel⟩ := hrel
    by_cases hlt : j < 40
    · have T := Lib.hid (try_any w.heap.size w.heap.size w1.heap.size (w1.heap.size + 1) A c l (j + 1) (bestN l j) (costN l (bestN l j)) _ htr (by omega) (by omega) (by omega) (by omega) (by omega) hbel.size (Hr.out.below hbel) hl Hx.out (by omega))
      have e1 : (if costN l (j + 1) < costN l (bestN l j) then j + 1 else bestN l j) = bestN l (j + 1) := rfl
      have e2 : (if costN l (j + 1) < costN l (bestN l j) then costN l (j + 1) else costN l (bestN l j)) = costN l (bestN l (j + 1)) := by
        simp only [bestN]; split <;> rfl
      rw [e1, e2] at T
      have H1 := Lib.hid hbel
      obtain ⟨i, hi⟩ : ∃ i, i = j + 1 := ⟨_, rfl⟩
      rw [← hi] at T
      rw [show ((j + 1 : Nat) : Int) = (i : Int) by omega]
      have hi40 : (i : Int) ≤ 40 := by omega
      clear e1 e2 htr hbel
      have Hi := Lib.hid hi
      clear hi
      go_wp2_with fail
      refine T.out.mono ?_
      rintro e w2 ⟨rfl, ht2, hb2⟩
      go_wp2_with fail
      go_roundw
      case rel => exact ⟨i, by go_num, by omega, ht2, H1.out.trans hb2⟩
      case measure => simp [intOf]; omega
    · obtain rfl : j = 40 := by omega
      have q1 : wr.cell? ⟨w1.heap.size, 0, none⟩ = some (.int .i64 (bestN l 40 : Nat)) := by rw [Lib.cell_of_heap htr.2.1]; rfl
      have Hbe := Lib.hid hbel
      clear htr hbel
      go_wp2_with fail
      go_ret
      exact ⟨rfl, Hbe.out⟩
end Go.Proofs.Ytjendmojkdkipaa
