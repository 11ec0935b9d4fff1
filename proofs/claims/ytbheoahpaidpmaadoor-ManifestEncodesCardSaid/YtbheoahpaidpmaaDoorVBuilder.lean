/-
  strings.Builder, alone or at the head of a struct: the check, the write of a byte, String, Len.
-/
import Derived.Test.YtbheoahpaidpmaaDoorPackB
import Derived.Lib.Builder
import Derived.Lib.OthersKept
import Derived.Lib.UnsafeStr
namespace Go.Proofs.YtbheoahpaidpmaaDoor
open Go Go.RowKit

set_option maxRecDepth 100000 in
theorem bldSize : ∃ j, Tryd.prog.info? 82 = some j ∧ j.size = 2 := ⟨_, rfl, rfl⟩

set_option maxRecDepth 100000 in
set_option maxHeartbeats 1000000 in
theorem check_used (b : Nat) (w : World) (h0 : w.cell? ⟨b, 0, none⟩ = some (.pointer (some ⟨b, 0, none⟩))) :
    Calls Tryd.prog 58 #[.pointer (some ⟨b, 0, none⟩)] w fun e w' => e = .returned (.tuple #[]) ∧ w' = w := by
  obtain ⟨j, hj, _⟩ := bldSize
  have hne := Lib.run_neq_ptr_same (P := Tryd.prog) w ⟨b, 0, none⟩ Tryd.underlying79 hj
  go_enter Tryd.func58, Tryd.ntmps58
  go_wp2
  go_end0
  exact ⟨rfl, rfl⟩

/-- a builder may lie at the head of n cells of T's -/
def Fits (T : TypeId) (n : Nat) : Prop := liesAt Tryd.prog Tryd.prog.depth T (n / Tryd.prog.cellsOf T) 0 82 1 = true
theorem fits_alone : Fits 82 2 := by unfold Fits; kernel_rfl

set_option maxRecDepth 100000 in
set_option maxHeartbeats 1000000 in
theorem check_fresh (b : Nat) (w : World) (h0 : w.cell? ⟨b, 0, none⟩ = some (.pointer none)) (T : TypeId) (n : Nat) (hT : Fits T n) (h0n : 0 < n) (hsh : w.shape? b = some (T, n)) (hfz : w.frozen? ⟨b, 0, none⟩ = false) :
    Calls Tryd.prog 58 #[.pointer (some ⟨b, 0, none⟩)] w fun e w' => e = .returned (.tuple #[]) ∧ w' = w.setCell ⟨b, 0, none⟩ (.pointer (some ⟨b, 0, none⟩)) := by
  obtain ⟨j, hj, hjs⟩ := bldSize
  have hto := Lib.run_to_unsafe (P := Tryd.prog) w ⟨b, 0, none⟩ Tryd.underlying79 Tryd.underlying106 hj (by rw [hjs]; decide) hsh h0n
  have hfrom := Lib.run_from_unsafe (P := Tryd.prog) w ⟨b, 0, none⟩ Tryd.underlying106 Tryd.underlying79 hj hsh hT
  go_enter Tryd.func58, Tryd.ntmps58
  go_wp2
  rw [run_callFunc_extern Tryd.func64 (by kernel_rfl) (by kernel_rfl) (by kernel_rfl) (e := Extern.AbiNoEscape.same) (by kernel_rfl), Lib.run_noEscape]
  simp only [Result.andThen]
  rw [Oper.upon_value]
  go_wp2
  go_end0
  exact ⟨rfl, rfl⟩

/-- a builder of the call's own, that lies at b, and holds the bytes l in a row of no block that Pr names -/
def Bld (Pr : Nat → Prop) (b : Nat) (T : TypeId) (tl : List Value) (l : List UInt8) (w : World) : Prop :=
  Pr b ∧ Fits T (2 + tl.length) ∧ ∃ p v, (p = .pointer none ∨ p = .pointer (some ⟨b, 0, none⟩)) ∧ w.heap[b]? = some (.cells (p :: v :: tl).toArray T (0, 0)) ∧ Lie Pr 5 1 v l.length (cellsOf l) w

/-- a writer that has just been laid, in whatever world still has it -/
theorem fresh_later {w' : World} {b : Nat} {R : Nat → Prop} {T : TypeId} {tl : List Value} (hh : w'.heap[b]? = some (.cells (.pointer none :: .slice none 0 0 :: tl).toArray T (0, 0))) (hT : Fits T (2 + tl.length)) (hb : R b) : Bld R b T tl [] w' :=
  ⟨hb, hT, _, _, .inl rfl, hh, Lie.nil _ _ _ _⟩

theorem check_any (R : Nat → Prop) (b : Nat) (T : TypeId) (tl : List Value) (l : List UInt8) (w : World) (h : Bld R b T tl l w) :
    Calls Tryd.prog 58 #[.pointer (some ⟨b, 0, none⟩)] w fun e w' => e = .returned (.tuple #[]) ∧ Bld R b T tl l w' ∧ w'.cell? ⟨b, 0, none⟩ = some (.pointer (some ⟨b, 0, none⟩)) ∧ Beside R b w w' := by
  obtain ⟨hb, hT, p, v, hp, hh, ho⟩ := h
  have hsh : w.shape? b = some (T, 2 + tl.length) := by simp [World.shape?, hh]; omega
  have h0 : w.cell? ⟨b, 0, none⟩ = some p := by rw [Lib.cell_of_heap hh]; rfl
  rcases hp with rfl | rfl
  · refine (check_fresh b w h0 T _ hT (by omega) hsh (Lib.frozen_of_heap hh 0)).mono ?_
    rintro e w' ⟨rfl, rfl⟩
    have hh' : (w.setCell ⟨b, 0, none⟩ (.pointer (some ⟨b, 0, none⟩))).heap[b]? = some (.cells (.pointer (some ⟨b, 0, none⟩) :: v :: tl).toArray T (0, 0)) := by
      simp [World.setCell, Array.getElem?_modify, hh]
    exact ⟨rfl, ⟨hb, hT, _, v, .inr rfl, hh', own_set ho hb _ _⟩, by rw [Lib.cell_of_heap hh']; rfl, beside_set _ _ _ _ _⟩
  · refine (check_used b w h0).mono ?_
    rintro e w' ⟨rfl, rfl⟩
    exact ⟨rfl, ⟨hb, hT, _, v, .inr rfl, hh, ho⟩, h0, Beside.refl _ _ _⟩

set_option maxHeartbeats 2000000 in
set_option maxRecDepth 100000 in
theorem string_some (R : Nat → Prop) (b : Nat) (T : TypeId) (tl : List Value) (l : List UInt8) (w : World) (h : Bld R b T tl l w) (h0 : l ≠ []) :
    Calls Tryd.prog 46 #[.pointer (some ⟨b, 0, none⟩)] w fun e w' => e = .returned (.string (S l)) ∧ Stays R w w' := by
  obtain ⟨hbR, hT, p, v, hp, hbk, hown, hnot⟩ := h
  have hl0 : l.length ≠ 0 := by simpa using h0
  obtain ⟨g, cap, cur, rfl, hbg, hg, hnc, hcm, hcs, htake⟩ : ∃ g cap cur, v = .slice (some ⟨g, 0, none⟩) l.length cap ∧ 0 ≤ g ∧ w.heap[g]? = some (.cells cur 5 (0, 0)) ∧ l.length ≤ cap ∧ cap ≤ maxLen ∧ cur.size = cap * 1 ∧ cur.toList.take (l.length * 1) = cellsOf l := by
    rcases hown.2 with ⟨_, hz⟩ | ⟨g, cap, cur, hv, r⟩
    · exact absurd hz hl0
    · exact ⟨g, cap, cur, hv, r⟩
  have c1 : w.drew.cell? ⟨b, 1, none⟩ = some (.slice (some ⟨g, 0, none⟩) l.length cap) := by
    have : w.drew.heap[b]? = some (.cells (p :: .slice (some ⟨g, 0, none⟩) l.length cap :: tl).toArray T (0, 0)) := hbk
    rw [Lib.cell_of_heap this]; rfl
  have hSD : (Builtin.unsafeSliceData_ #[80] 104 #[.slice (some ⟨g, 0, none⟩) l.length cap]).run Tryd.prog w.drew = .ok (.pointer (some ⟨g, 0, none⟩)) w.drew :=
    Lib.run_unsafeSliceData_row (P := Tryd.prog) _ _ _ _ _ _ (by omega)
  have hUS : (Builtin.unsafeString_ #[104, 3] 9 #[.pointer (some ⟨g, 0, none⟩), .int .i64 l.length]).run Tryd.prog w.drew = .ok (.string (S l)) (w.drew.freeze ⟨g, 0, none⟩ l.length) := by
    refine Lib.run_unsafeString_row (P := Tryd.prog) (w := w.drew) 104 3 9 5 Tryd.underlying104 (by kernel_rfl) g cur.size (by have hg' : w.drew.heap[g]? = some (.cells cur 5 (0, 0)) := hg; simp [World.shape?, hg']) l h0 (by omega) (by unfold maxLen at hcm; omega) ?_
    intro j x hx
    have := hown.cells (g := g) rfl j (.int .u8 x.toNat) (by simp [cellsOf, hx])
    exact this
  go_enter Tryd.func46, Tryd.ntmps46
  go_wp2
  go_region
  all_goals (go_wp2; go_ret; exact ⟨rfl, stays_freeze (Stays.drewr (Stays.refl R w)) (p := ⟨g, 0, none⟩) (hnot g rfl) _⟩)

set_option maxHeartbeats 2000000 in
set_option maxRecDepth 100000 in
theorem string_nil (R : Nat → Prop) (b : Nat) (T : TypeId) (tl : List Value) (p : Value) (w : World) (hBw : Old R w) (v : Value) (hbk : w.heap[b]? = some (.cells (p :: v :: tl).toArray T (0, 0))) (hown : w.ownsRow 0 5 1 v 0 []) :
    Calls Tryd.prog 46 #[.pointer (some ⟨b, 0, none⟩)] w fun e w' => e = .returned (.string (S [])) ∧ Stays R w w' := by
  have hUS := fun W q => Lib.run_unsafeString_none (P := Tryd.prog) (w := W) 104 3 9 q
  have hlt : b < w.heap.size := (Array.getElem?_eq_some_iff.1 hbk).1
  rcases hown.2 with ⟨rfl, _⟩ | ⟨g, cap, cur, rfl, hbg, hg, _, _, _, _⟩
  · have c1 : w.drew.cell? ⟨b, 1, none⟩ = some (.slice none 0 0) := by
      have : w.drew.heap[b]? = some (.cells (p :: .slice none 0 0 :: tl).toArray T (0, 0)) := hbk
      rw [Lib.cell_of_heap this]; rfl
    have hSD : (Builtin.unsafeSliceData_ #[80] 104 #[.slice none 0 0]).run Tryd.prog w.drew = .ok (.pointer none) w.drew := rfl
    go_enter Tryd.func46, Tryd.ntmps46
    go_wp2
    go_region
    all_goals (go_wp2; go_ret; exact ⟨rfl, Stays.drewr (Stays.refl R w)⟩)
  · have c1 : w.drew.cell? ⟨b, 1, none⟩ = some (.slice (some ⟨g, 0, none⟩) 0 cap) := by
      have : w.drew.heap[b]? = some (.cells (p :: .slice (some ⟨g, 0, none⟩) 0 cap :: tl).toArray T (0, 0)) := hbk
      rw [Lib.cell_of_heap this]; rfl
    by_cases hc0 : cap = 0
    · subst hc0
      have hSD : (Builtin.unsafeSliceData_ #[80] 104 #[.slice (some ⟨g, 0, none⟩) 0 0]).run Tryd.prog w.drew = .ok (.pointer (some ⟨w.drew.heap.size, 0, none⟩)) (w.drew.alloc (.view ⟨g, 0, none⟩ 5)) :=
        Lib.run_unsafeSliceData_zero (P := Tryd.prog) (w := w.drew) _ _ 5 Tryd.underlying104 ⟨g, 0, none⟩ 0 (5, cur.size) (by have hg' : w.drew.heap[g]? = some (.cells cur 5 (0, 0)) := hg; simp [World.shape?, hg'])
      have c2 : (w.drew.alloc (.view ⟨g, 0, none⟩ 5)).cell? ⟨b, 1, none⟩ = some (.slice (some ⟨g, 0, none⟩) 0 0) := by
        have : (w.drew.alloc (.view ⟨g, 0, none⟩ 5)).heap[b]? = _ := (Lib.alloc_old w.drew _ b hlt).trans hbk
        rw [Lib.cell_of_heap this]; rfl
      have c3 : (w.alloc (.view ⟨g, 0, none⟩ 5)).drew.cell? ⟨b, 1, none⟩ = some (.slice (some ⟨g, 0, none⟩) 0 0) := c2
      have c0 : w.cell? ⟨b, 1, none⟩ = some (.slice (some ⟨g, 0, none⟩) 0 0) := c1
      go_enter Tryd.func46, Tryd.ntmps46
      go_wp2
      go_region
      all_goals (go_wp2; go_ret; exact ⟨rfl, (Stays.drewr (Stays.refl R w)).allocr hBw _⟩)
    · have hSD : (Builtin.unsafeSliceData_ #[80] 104 #[.slice (some ⟨g, 0, none⟩) 0 cap]).run Tryd.prog w.drew = .ok (.pointer (some ⟨g, 0, none⟩)) w.drew :=
        Lib.run_unsafeSliceData_row (P := Tryd.prog) _ _ _ _ _ _ hc0
      clear hc0
      go_enter Tryd.func46, Tryd.ntmps46
      go_wp2
      go_region
      all_goals (go_wp2; go_ret; exact ⟨rfl, Stays.drewr (Stays.refl R w)⟩)

theorem string_any (R : Nat → Prop) (b : Nat) (T : TypeId) (tl : List Value) (l : List UInt8) (w : World) (h : Bld R b T tl l w) (hBw : Old R w) :
    Calls Tryd.prog 46 #[.pointer (some ⟨b, 0, none⟩)] w fun e w' => e = .returned (.string (S l)) ∧ Stays R w w' := by
  cases l with
  | nil =>
    obtain ⟨hbR, hT, p, v, hp, hbk, hown, hnot⟩ := h
    exact string_nil R b T tl p w hBw v hbk hown
  | cons u r => exact string_some R b T tl (u :: r) w h (by simp)
end Go.Proofs.YtbheoahpaidpmaaDoor
