/-
  strings.Builder inside a rice.Writer: the check, the write of a byte, String, Len.
-/
import Derived.Test.YtmllnfplahaccaaOwn
import Derived.Lib.Builder
import Derived.Lib.OthersKept
import Derived.Lib.UnsafeStr
namespace Go.Proofs.Ytmllnfplahaccaa
open Go Go.RowKit

theorem bldSize : ∃ j, Try.prog.info? 56 = some j ∧ j.size = 2 := ⟨_, rfl, rfl⟩

set_option maxHeartbeats 1000000 in
theorem check_used (b : Nat) (w : World) (h0 : w.cell? ⟨b, 0, none⟩ = some (.pointer (some ⟨b, 0, none⟩))) :
    Calls Try.prog 46 #[.pointer (some ⟨b, 0, none⟩)] w fun e w' => e = .returned (.tuple #[]) ∧ w' = w := by
  obtain ⟨j, hj, _⟩ := bldSize
  have hne := Lib.run_neq_ptr_same (P := Try.prog) w ⟨b, 0, none⟩ Try.underlying53 hj
  go_enter Try.func46, Try.ntmps46
  go_wp2
  go_end0
  exact ⟨rfl, rfl⟩

theorem bldLies : liesAt Try.prog Try.prog.depth 58 (4 / Try.prog.cellsOf 58) 0 56 1 = true := by kernel_rfl

set_option maxHeartbeats 1000000 in
theorem check_fresh (b : Nat) (w : World) (h0 : w.cell? ⟨b, 0, none⟩ = some (.pointer none)) (hsh : w.shape? b = some (58, 4)) (hfz : w.frozen? ⟨b, 0, none⟩ = false) :
    Calls Try.prog 46 #[.pointer (some ⟨b, 0, none⟩)] w fun e w' => e = .returned (.tuple #[]) ∧ w' = w.setCell ⟨b, 0, none⟩ (.pointer (some ⟨b, 0, none⟩)) := by
  obtain ⟨j, hj, hjs⟩ := bldSize
  have hto := Lib.run_to_unsafe (P := Try.prog) w ⟨b, 0, none⟩ Try.underlying53 Try.underlying73 hj (by rw [hjs]; decide) hsh (Nat.zero_lt_succ 3)
  have hfrom := Lib.run_from_unsafe (P := Try.prog) w ⟨b, 0, none⟩ Try.underlying73 Try.underlying53 hj hsh bldLies
  go_enter Try.func46, Try.ntmps46
  go_wp2
  rw [run_callFunc_extern Try.func47 (by kernel_rfl) (by kernel_rfl) (by kernel_rfl) (e := Extern.AbiNoEscape.same) (by kernel_rfl), Lib.run_noEscape]
  simp only [Result.andThen]
  rw [Oper.upon_value]
  go_wp2
  go_end0
  exact ⟨rfl, rfl⟩

theorem own_row {w : World} {B n : Nat} {e : TypeId} {size : Nat} {v : Value} {xs : List Value} (h : w.ownsRow B e size v n xs) : ∃ A c, v = .slice A n c := by
  rcases h.2 with ⟨rfl, rfl⟩ | ⟨g, cap, cur, rfl, _⟩
  · exact ⟨none, 0, rfl⟩
  · exact ⟨_, cap, rfl⟩

/-- a builder of the call's own, that lies at b, and holds the bytes l in a row at R or behind it -/
def Bld (R b : Nat) (x y : Value) (l : List UInt8) (w : World) : Prop :=
  b < R ∧ ∃ p v, (p = .pointer none ∨ p = .pointer (some ⟨b, 0, none⟩)) ∧ w.heap[b]? = some (.cells #[p, v, x, y] 58 (0, 0)) ∧ w.ownsRow R 5 1 v l.length (cellsOf l)

/-- what lies ahead of R, other than b, stands -/
structure Beside (R b : Nat) (w w' : World) : Prop where
  os : w'.os = w.os
  tape : w'.tape = w.tape
  output : w'.output = w.output
  size : w.heap.size ≤ w'.heap.size
  block : ∀ k, k < R → k ≠ b → w'.heap[k]? = w.heap[k]?

theorem Beside.refl (R b : Nat) (w : World) : Beside R b w w := ⟨rfl, rfl, rfl, Nat.le_refl _, fun _ _ _ => rfl⟩
theorem Beside.trans {R b : Nat} {a c d : World} (h : Beside R b a c) (k : Beside R b c d) : Beside R b a d :=
  ⟨k.os.trans h.os, k.tape.trans h.tape, k.output.trans h.output, Nat.le_trans h.size k.size, fun i hi hb => (k.block i hi hb).trans (h.block i hi hb)⟩
theorem Beside.of {R b : Nat} {w w' : World} (h : Below R w w') : Beside R b w w' := ⟨h.os, h.tape, h.output, h.size, fun k hk _ => h.block k hk⟩
theorem Beside.below {R b B : Nat} {w w' : World} (h : Beside R b w w') (hB : B ≤ b) (hb : b < R) : Below B w w' := ⟨h.os, h.tape, h.output, h.size, fun k hk => h.block k (by omega) (by omega)⟩
theorem beside_set (R b : Nat) (j : Nat) (w : World) (v : Value) : Beside R b w (w.setCell ⟨b, j, none⟩ v) :=
  ⟨rfl, rfl, rfl, by simp [World.setCell], fun k _ hk => Below.heap_setCell _ _ _ _ hk⟩
theorem Beside.cell {R b : Nat} {w w' : World} (h : Beside R b w w') {p : Addr} (hp : p.block < R) (hb : p.block ≠ b) : w'.cell? p = w.cell? p := by
  simp only [World.cell?, h.block _ hp hb]

theorem own_set {R b n size : Nat} {e : TypeId} {w : World} {v : Value} {xs : List Value} (h : w.ownsRow R e size v n xs) (hb : b < R) (j : Nat) (u : Value) : (w.setCell ⟨b, j, none⟩ u).ownsRow R e size v n xs := by
  refine h.kept (row := some b) ⟨rfl, rfl, rfl, by simp [World.setCell], fun k _ hk => Below.heap_setCell _ _ _ _ (fun e => hk (by simp [e]))⟩ (Or.inr ?_)
  intro e1
  rcases h.2 with ⟨rfl, _⟩ | ⟨g, cap, cur, rfl, hg, _⟩
  · simp [Value.ownBlock] at e1
  · simp [Value.ownBlock] at e1; omega

/-- a writer that has just been laid, in whatever world still has it -/
theorem fresh_later {w' : World} {b R : Nat} {x y : Value} (hh : w'.heap[b]? = some (.cells #[.pointer none, .slice none 0 0, x, y] 58 (0, 0))) (hb : b < R) : Bld R b x y [] w' :=
  ⟨hb, _, _, .inl rfl, hh, World.ownsRow_nil _ _ _ _⟩

theorem check_any (R b : Nat) (x y : Value) (l : List UInt8) (w : World) (h : Bld R b x y l w) :
    Calls Try.prog 46 #[.pointer (some ⟨b, 0, none⟩)] w fun e w' => e = .returned (.tuple #[]) ∧ Bld R b x y l w' ∧ w'.cell? ⟨b, 0, none⟩ = some (.pointer (some ⟨b, 0, none⟩)) ∧ Beside R b w w' := by
  obtain ⟨hb, p, v, hp, hh, ho⟩ := h
  have hsh : w.shape? b = some (58, 4) := by simp [World.shape?, hh]
  have h0 : w.cell? ⟨b, 0, none⟩ = some p := by rw [Lib.cell_of_heap hh]; rfl
  rcases hp with rfl | rfl
  · refine (check_fresh b w h0 hsh (Lib.frozen_of_heap hh 0)).mono ?_
    rintro e w' ⟨rfl, rfl⟩
    have hh' : (w.setCell ⟨b, 0, none⟩ (.pointer (some ⟨b, 0, none⟩))).heap[b]? = some (.cells #[.pointer (some ⟨b, 0, none⟩), v, x, y] 58 (0, 0)) := by
      simp [World.setCell, Array.getElem?_modify, hh]
    exact ⟨rfl, ⟨hb, _, v, .inr rfl, hh', own_set ho hb _ _⟩, by rw [Lib.cell_of_heap hh']; rfl, beside_set _ _ _ _ _⟩
  · refine (check_used b w h0).mono ?_
    rintro e w' ⟨rfl, rfl⟩
    exact ⟨rfl, ⟨hb, _, v, .inr rfl, hh, ho⟩, h0, Beside.refl _ _ _⟩

set_option maxHeartbeats 2000000 in
set_option maxRecDepth 100000 in
theorem writeByte_any (R b : Nat) (x y : Value) (l : List UInt8) (z : Int) (c : UInt8) (w : World) (hy : z = (c.toNat : Int)) (h : Bld R b x y l w) (hl : l.length < 1099511627776) (hR : R ≤ w.heap.size) :
    Calls Try.prog 45 #[.pointer (some ⟨b, 0, none⟩), .int .u8 z] w fun e w' => e = .returned .nilIface ∧ Bld R b x y (l ++ [c]) w' ∧ Beside R b w w' := by
  subst hy
  have C := Lib.hid (check_any R b x y l w h)
  clear h
  go_enter Try.func45, Try.ntmps45
  go_wp2_with fail
  refine C.out.mono ?_
  rintro e w1 ⟨rfl, ⟨hbR, p, v, hp, hbk, hown⟩, c0, hb1⟩
  have c1 : w1.cell? ⟨b, 1, none⟩ = some v := by rw [Lib.cell_of_heap hbk]; rfl
  have hblt : b < w1.heap.size := (Array.getElem?_eq_some_iff.1 hbk).1
  have hsz := hb1.size
  go_wp2_with ((at_builtin; go_must (refine wpList_append_byte rfl _ _ 54 rfl 5 Try.underlying54 (by kernel_rfl) R l.length l v w1 w1 _ c rfl hown rfl (Below.refl _ _) (by omega) rfl (by omega) ?_); intro v' w2 hown2 hgr2 hb2 hsz2 hlt2 hnn2; obtain ⟨O, cap, rfl⟩ := own_row hown2; have hbk2 := (hb2.block b hbR).trans hbk; have d0 : w2.cell? ⟨b, 0, none⟩ = w1.cell? ⟨b, 0, none⟩ := hb2.cell hbR; rw [c0] at d0; have d1 : w2.cell? ⟨b, 1, none⟩ = some v := (Lib.cell_of_heap hbk2 1).trans rfl; have d2 : w2.frozen? ⟨b, 1, none⟩ = false := Lib.frozen_of_heap hbk2 1))
  go_ret
  refine ⟨rfl, ⟨hbR, p, _, hp, ?_, own_set (by rw [List.length_append]; exact hown2) hbR _ _⟩, (hb1.trans (Beside.of hb2)).trans (beside_set _ _ _ _ _)⟩
  simp [World.setCell, Array.getElem?_modify, hbk2]

set_option maxHeartbeats 2000000 in
set_option maxRecDepth 100000 in
theorem string_some (R b : Nat) (x y : Value) (l : List UInt8) (w : World) (h : Bld R b x y l w) (h0 : l ≠ []) :
    Calls Try.prog 43 #[.pointer (some ⟨b, 0, none⟩)] w fun e w' => e = .returned (.string (S l)) ∧ Below R w w' := by
  obtain ⟨hbR, p, v, hp, hbk, hown⟩ := h
  have hl0 : l.length ≠ 0 := by simpa using h0
  obtain ⟨g, cap, cur, rfl, hbg, hg, hnc, hcm, hcs, htake⟩ : ∃ g cap cur, v = .slice (some ⟨g, 0, none⟩) l.length cap ∧ R ≤ g ∧ w.heap[g]? = some (.cells cur 5 (0, 0)) ∧ l.length ≤ cap ∧ cap ≤ maxLen ∧ cur.size = cap * 1 ∧ cur.toList.take (l.length * 1) = cellsOf l := by
    rcases hown.2 with ⟨_, hz⟩ | ⟨g, cap, cur, hv, r⟩
    · exact absurd hz hl0
    · exact ⟨g, cap, cur, hv, r⟩
  have c1 : w.drew.cell? ⟨b, 1, none⟩ = some (.slice (some ⟨g, 0, none⟩) l.length cap) := by
    have : w.drew.heap[b]? = some (.cells #[p, .slice (some ⟨g, 0, none⟩) l.length cap, x, y] 58 (0, 0)) := hbk
    rw [Lib.cell_of_heap this]; rfl
  have hSD : (Builtin.unsafeSliceData_ #[54] 69 #[.slice (some ⟨g, 0, none⟩) l.length cap]).run Try.prog w.drew = .ok (.pointer (some ⟨g, 0, none⟩)) w.drew :=
    Lib.run_unsafeSliceData_row (P := Try.prog) _ _ _ _ _ _ (by omega)
  have hUS : (Builtin.unsafeString_ #[69, 3] 9 #[.pointer (some ⟨g, 0, none⟩), .int .i64 l.length]).run Try.prog w.drew = .ok (.string (S l)) (w.drew.freeze ⟨g, 0, none⟩ l.length) := by
    refine Lib.run_unsafeString_row (P := Try.prog) (w := w.drew) 69 3 9 5 Try.underlying69 (by kernel_rfl) g cur.size (by have hg' : w.drew.heap[g]? = some (.cells cur 5 (0, 0)) := hg; simp [World.shape?, hg']) l h0 (by omega) (by unfold maxLen at hcm; omega) ?_
    intro j x hx
    have := hown.cells (g := g) rfl j (.int .u8 x.toNat) (by simp [cellsOf, hx])
    exact this
  go_enter Try.func43, Try.ntmps43
  go_wp2
  go_region
  all_goals (go_wp2; go_ret; exact ⟨rfl, Lib.below_freeze (Below.drew (Below.refl R w)) (p := ⟨g, 0, none⟩) hbg _⟩)

set_option maxHeartbeats 2000000 in
set_option maxRecDepth 100000 in
theorem string_nil (R b : Nat) (x y p : Value) (w : World) (hBw : R ≤ w.heap.size) (v : Value) (hbk : w.heap[b]? = some (.cells #[p, v, x, y] 58 (0, 0))) (hown : w.ownsRow R 5 1 v 0 []) :
    Calls Try.prog 43 #[.pointer (some ⟨b, 0, none⟩)] w fun e w' => e = .returned (.string (S [])) ∧ Below R w w' := by
  have hUS := fun W q => Lib.run_unsafeString_none (P := Try.prog) (w := W) 69 3 9 q
  have hlt : b < w.heap.size := (Array.getElem?_eq_some_iff.1 hbk).1
  rcases hown.2 with ⟨rfl, _⟩ | ⟨g, cap, cur, rfl, hbg, hg, _, _, _, _⟩
  · have c1 : w.drew.cell? ⟨b, 1, none⟩ = some (.slice none 0 0) := by
      have : w.drew.heap[b]? = some (.cells #[p, .slice none 0 0, x, y] 58 (0, 0)) := hbk
      rw [Lib.cell_of_heap this]; rfl
    have hSD : (Builtin.unsafeSliceData_ #[54] 69 #[.slice none 0 0]).run Try.prog w.drew = .ok (.pointer none) w.drew := rfl
    go_enter Try.func43, Try.ntmps43
    go_wp2
    go_region
    all_goals (go_wp2; go_ret; exact ⟨rfl, Below.drew (Below.refl R w)⟩)
  · have c1 : w.drew.cell? ⟨b, 1, none⟩ = some (.slice (some ⟨g, 0, none⟩) 0 cap) := by
      have : w.drew.heap[b]? = some (.cells #[p, .slice (some ⟨g, 0, none⟩) 0 cap, x, y] 58 (0, 0)) := hbk
      rw [Lib.cell_of_heap this]; rfl
    by_cases hc0 : cap = 0
    · subst hc0
      have hSD : (Builtin.unsafeSliceData_ #[54] 69 #[.slice (some ⟨g, 0, none⟩) 0 0]).run Try.prog w.drew = .ok (.pointer (some ⟨w.drew.heap.size, 0, none⟩)) (w.drew.alloc (.view ⟨g, 0, none⟩ 5)) :=
        Lib.run_unsafeSliceData_zero (P := Try.prog) (w := w.drew) _ _ 5 Try.underlying69 ⟨g, 0, none⟩ 0 (5, cur.size) (by have hg' : w.drew.heap[g]? = some (.cells cur 5 (0, 0)) := hg; simp [World.shape?, hg'])
      have c2 : (w.drew.alloc (.view ⟨g, 0, none⟩ 5)).cell? ⟨b, 1, none⟩ = some (.slice (some ⟨g, 0, none⟩) 0 0) := by
        have : (w.drew.alloc (.view ⟨g, 0, none⟩ 5)).heap[b]? = _ := (Lib.alloc_old w.drew _ b hlt).trans hbk
        rw [Lib.cell_of_heap this]; rfl
      have c3 : (w.alloc (.view ⟨g, 0, none⟩ 5)).drew.cell? ⟨b, 1, none⟩ = some (.slice (some ⟨g, 0, none⟩) 0 0) := c2
      have c0 : w.cell? ⟨b, 1, none⟩ = some (.slice (some ⟨g, 0, none⟩) 0 0) := c1
      go_enter Try.func43, Try.ntmps43
      go_wp2
      go_region
      all_goals (go_wp2; go_ret; exact ⟨rfl, (Below.drew (Below.refl R w)).alloc hBw _⟩)
    · have hSD : (Builtin.unsafeSliceData_ #[54] 69 #[.slice (some ⟨g, 0, none⟩) 0 cap]).run Try.prog w.drew = .ok (.pointer (some ⟨g, 0, none⟩)) w.drew :=
        Lib.run_unsafeSliceData_row (P := Try.prog) _ _ _ _ _ _ hc0
      clear hc0
      go_enter Try.func43, Try.ntmps43
      go_wp2
      go_region
      all_goals (go_wp2; go_ret; exact ⟨rfl, Below.drew (Below.refl R w)⟩)

theorem string_any (R b : Nat) (x y : Value) (l : List UInt8) (w : World) (h : Bld R b x y l w) (hBw : R ≤ w.heap.size) :
    Calls Try.prog 43 #[.pointer (some ⟨b, 0, none⟩)] w fun e w' => e = .returned (.string (S l)) ∧ Below R w w' := by
  cases l with
  | nil =>
    obtain ⟨hbR, p, v, hp, hbk, hown⟩ := h
    exact string_nil R b x y p w hBw v hbk hown
  | cons u r => exact string_some R b x y (u :: r) w h (by simp)
end Go.Proofs.Ytmllnfplahaccaa
