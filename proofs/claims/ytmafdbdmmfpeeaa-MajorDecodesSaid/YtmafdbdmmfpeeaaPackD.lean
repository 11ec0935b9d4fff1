/-
  What the walks of this claim stand on: Len64, VBuilder, VPut, VAll, VRice, VBits, BitPlain, VPutN, VLen, one behind the other.
-/
import Derived.Test.YtmafdbdmmfpeeaaPackA
import Derived.Lib.Strings
import Derived.Lib.Slices
import Derived.Lib.Small
import Derived.Lib.Walk
import Derived.Lib.BitFns
import Derived.Deep.Light
import Derived.Test.YtmafdbdmmfpeeaaPackB
import Derived.Lib.Builder
import Derived.Lib.OthersKept
import Derived.Lib.UnsafeStr
import Derived.Test.YtmafdbdmmfpeeaaPackC
/-! Len64 -/
namespace Go.Proofs.Ytmafdbdmmfpeeaa
open Go

set_option maxRecDepth 100000 in
theorem len8tab_size : (Lib.len8tab.size : Int) = 256 := by
  have : Lib.len8tab.size = 256 := by decide
  omega
theorem wrap_add (k a b : Nat) (hk : k ≤ 56) (ha : a ≤ 8) (hb : b = k + a) : RowKit.wrap64 ((k : Int) + RowKit.wrap64 (a : Int)) = (b : Int) := by
  unfold RowKit.wrap64
  omega
theorem wrap_wrap (a : Nat) (ha : a ≤ 8) : RowKit.wrap64 (RowKit.wrap64 (a : Int)) = (a : Int) := by
  unfold RowKit.wrap64
  omega
theorem wrap_one (a : Nat) (ha : a ≤ 8) : RowKit.wrap64 (a : Int) = (a : Int) := by
  unfold RowKit.wrap64
  omega
theorem len8_get (y : Int) (h : y.toNat < Lib.len8tab.size) : ((Lib.len8tab[y.toNat]'h).toNat : Int) = Lib.len8 y := by
  unfold Lib.len8
  rw [getElem?_pos Lib.len8tab y.toNat h]
  rfl

set_option maxHeartbeats 32000000 in
set_option maxRecDepth 1000000 in
theorem len64_any (x : Int) (w : World) (h0 : 0 ≤ x) (h1 : x ≤ 18446744073709551615) :
    Calls Try.prog 78 #[.int .u64 x] w fun e w' => e = .returned (.int .i64 (Lib.bitLen x.toNat)) ∧ w' = w := by
  go_enter Try.func78, Try.ntmps78
  go_wp2
  all_goals first
    | (go_ret; refine ⟨congrArg Ending.returned (congrArg (Value.int IntKind.i64) ?_), rfl⟩; go_light)
    | (exfalso
       go_light
       have hs := len8tab_size
       omega)
  all_goals first
    | (rw [len8_get (x / 4294967296 / 65536 / 256) _, Lib.len8_of (x / 4294967296 / 65536 / 256) (by omega) (by omega)]
       have e : (x / 4294967296 / 65536 / 256).toNat = x.toNat / 72057594037927936 := by omega
       have l := Lib.bitLen_le8' (x / 4294967296 / 65536 / 256) (by omega) (by omega)
       have s := Lib.bitLen_shift56 x.toNat (by omega) (by omega)
       rw [e] at l ⊢
       exact wrap_add 56 _ _ (by decide) l s)
    | (rw [len8_get (x / 4294967296 / 65536) _, Lib.len8_of (x / 4294967296 / 65536) (by omega) (by omega)]
       have e : (x / 4294967296 / 65536).toNat = x.toNat / 281474976710656 := by omega
       have l := Lib.bitLen_le8' (x / 4294967296 / 65536) (by omega) (by omega)
       have s := Lib.bitLen_shift48 x.toNat (by omega) (by omega)
       rw [e] at l ⊢
       exact wrap_add 48 _ _ (by decide) l s)
    | (rw [len8_get (x / 4294967296 / 256) _, Lib.len8_of (x / 4294967296 / 256) (by omega) (by omega)]
       have e : (x / 4294967296 / 256).toNat = x.toNat / 1099511627776 := by omega
       have l := Lib.bitLen_le8' (x / 4294967296 / 256) (by omega) (by omega)
       have s := Lib.bitLen_shift40 x.toNat (by omega) (by omega)
       rw [e] at l ⊢
       exact wrap_add 40 _ _ (by decide) l s)
    | (rw [len8_get (x / 4294967296) _, Lib.len8_of (x / 4294967296) (by omega) (by omega)]
       have e : (x / 4294967296).toNat = x.toNat / 4294967296 := by omega
       have l := Lib.bitLen_le8' (x / 4294967296) (by omega) (by omega)
       have s := Lib.bitLen_shift32 x.toNat (by omega) (by omega)
       rw [e] at l ⊢
       exact wrap_add 32 _ _ (by decide) l s)
    | (rw [len8_get (x / 65536 / 256) _, Lib.len8_of (x / 65536 / 256) (by omega) (by omega)]
       have e : (x / 65536 / 256).toNat = x.toNat / 16777216 := by omega
       have l := Lib.bitLen_le8' (x / 65536 / 256) (by omega) (by omega)
       have s := Lib.bitLen_shift24 x.toNat (by omega) (by omega)
       rw [e] at l ⊢
       exact wrap_add 24 _ _ (by decide) l s)
    | (rw [len8_get (x / 65536) _, Lib.len8_of (x / 65536) (by omega) (by omega)]
       have e : (x / 65536).toNat = x.toNat / 65536 := by omega
       have l := Lib.bitLen_le8' (x / 65536) (by omega) (by omega)
       have s := Lib.bitLen_shift16 x.toNat (by omega) (by omega)
       rw [e] at l ⊢
       exact wrap_add 16 _ _ (by decide) l s)
    | (rw [len8_get (x / 256) _, Lib.len8_of (x / 256) (by omega) (by omega)]
       have e : (x / 256).toNat = x.toNat / 256 := by omega
       have l := Lib.bitLen_le8' (x / 256) (by omega) (by omega)
       have s := Lib.bitLen_shift8 x.toNat (by omega) (by omega)
       rw [e] at l ⊢
       exact wrap_add 8 _ _ (by decide) l s)
    | (rw [len8_get (x) _, Lib.len8_of (x) (by omega) (by omega)]
       have e : (x).toNat = x.toNat := by omega
       have l := Lib.bitLen_le8' (x) (by omega) (by omega)
       rw [e] at l ⊢
       first | exact wrap_wrap _ l | exact wrap_add 0 _ _ (by decide) l (by omega) | exact wrap_one _ l)

theorem lz64_any (x : Int) (w : World) (h0 : 0 ≤ x) (h1 : x ≤ 18446744073709551615) (hl : Lib.bitLen x.toNat ≤ 64) :
    Calls Try.prog 75 #[.int .u64 x] w fun e w' => e = .returned (.int .i64 (64 - (Lib.bitLen x.toNat : Int))) ∧ w' = w := by
  have L := len64_any x w h0 h1
  generalize Lib.bitLen x.toNat = y at *
  have hy : (y : Int) ≤ 64 := by omega
  clear h0 h1
  go_enter Try.func75, Try.ntmps75
  go_wp2_with fail
  refine L.mono ?_
  rintro e w1 ⟨rfl, rfl⟩
  go_wp2_with fail
  go_ret
  exact ⟨rfl, rfl⟩
end Go.Proofs.Ytmafdbdmmfpeeaa

/-! VBuilder -/
namespace Go.Proofs.Ytmafdbdmmfpeeaa
open Go Go.RowKit

set_option maxRecDepth 100000 in
theorem bldSize : ∃ j, Try.prog.info? 64 = some j ∧ j.size = 2 := ⟨_, rfl, rfl⟩

set_option maxHeartbeats 1000000 in
theorem check_used (b : Nat) (w : World) (h0 : w.cell? ⟨b, 0, none⟩ = some (.pointer (some ⟨b, 0, none⟩))) :
    Calls Try.prog 37 #[.pointer (some ⟨b, 0, none⟩)] w fun e w' => e = .returned (.tuple #[]) ∧ w' = w := by
  obtain ⟨j, hj, _⟩ := bldSize
  have hne := Lib.run_neq_ptr_same (P := Try.prog) w ⟨b, 0, none⟩ Try.underlying61 hj
  go_enter Try.func37, Try.ntmps37
  go_wp2
  go_end0
  exact ⟨rfl, rfl⟩

/-- a builder may lie at the head of n cells of T's -/
def Fits (T : TypeId) (n : Nat) : Prop := liesAt Try.prog Try.prog.depth T (n / Try.prog.cellsOf T) 0 64 1 = true
theorem fits_alone : Fits 64 2 := by unfold Fits; kernel_rfl

theorem fits_writer : Fits 109 4 := by unfold Fits; kernel_rfl

set_option maxHeartbeats 1000000 in
theorem check_fresh (b : Nat) (w : World) (h0 : w.cell? ⟨b, 0, none⟩ = some (.pointer none)) (T : TypeId) (n : Nat) (hT : Fits T n) (h0n : 0 < n) (hsh : w.shape? b = some (T, n)) (hfz : w.frozen? ⟨b, 0, none⟩ = false) :
    Calls Try.prog 37 #[.pointer (some ⟨b, 0, none⟩)] w fun e w' => e = .returned (.tuple #[]) ∧ w' = w.setCell ⟨b, 0, none⟩ (.pointer (some ⟨b, 0, none⟩)) := by
  obtain ⟨j, hj, hjs⟩ := bldSize
  have hto := Lib.run_to_unsafe (P := Try.prog) w ⟨b, 0, none⟩ Try.underlying61 Try.underlying103 hj (by rw [hjs]; decide) hsh h0n
  have hfrom := Lib.run_from_unsafe (P := Try.prog) w ⟨b, 0, none⟩ Try.underlying103 Try.underlying61 hj hsh hT
  go_enter Try.func37, Try.ntmps37
  go_wp2
  rw [run_callFunc_extern Try.func57 (by kernel_rfl) (by kernel_rfl) (by kernel_rfl) (e := Extern.AbiNoEscape.same) (by kernel_rfl), Lib.run_noEscape]
  simp only [Result.andThen]
  rw [Oper.upon_value]
  go_wp2
  go_end0
  exact ⟨rfl, rfl⟩

/-- a builder of the call's own, that lies at b, and holds the bytes l in a row of no block that Pr names -/
def Bld (Pr : Nat → Prop) (b : Nat) (T : TypeId) (tl : List Value) (l : List UInt8) (w : World) : Prop :=
  Pr b ∧ Fits T (2 + tl.length) ∧ ∃ p v, (p = .pointer none ∨ p = .pointer (some ⟨b, 0, none⟩)) ∧ w.heap[b]? = some (.cells (p :: v :: tl).toArray T (0, 0)) ∧ Lie Pr 5 1 v l.length (cellsOf l) w

/-- a writer that has just been laid, in whatever world still has it -/
theorem fresh_later {w' : World} {b : Nat} {R : Nat → Prop} {T : TypeId} {tl : List Value} (hh : w'.heap[b]? = some (.cells (.pointer none :: .slice none 0 0 :: tl).toArray T (0, 0))) (hT : Fits T (2 + tl.length)) (hb : R b) : Bld R b T tl [] w' :=
  ⟨hb, hT, _, _, .inl rfl, hh, Lie.nil _ _ _ _⟩

theorem check_any (R : Nat → Prop) (b : Nat) (T : TypeId) (tl : List Value) (l : List UInt8) (w : World) (h : Bld R b T tl l w) :
    Calls Try.prog 37 #[.pointer (some ⟨b, 0, none⟩)] w fun e w' => e = .returned (.tuple #[]) ∧ Bld R b T tl l w' ∧ w'.cell? ⟨b, 0, none⟩ = some (.pointer (some ⟨b, 0, none⟩)) ∧ Beside R b w w' := by
  obtain ⟨hb, hT, p, v, hp, hh, ho⟩ := h
  have hsh : w.shape? b = some (T, 2 + tl.length) := by simp [World.shape?, hh]; omega
  have h0 : w.cell? ⟨b, 0, none⟩ = some p := by rw [Lib.cell_of_heap hh]; rfl
  rcases hp with rfl | rfl
  · refine (check_fresh b w h0 T _ hT (by omega) hsh (Lib.frozen_of_heap hh 0)).mono ?_
    rintro e w' ⟨rfl, rfl⟩
    have hh' : (w.setCell ⟨b, 0, none⟩ (.pointer (some ⟨b, 0, none⟩))).heap[b]? = some (.cells (.pointer (some ⟨b, 0, none⟩) :: v :: tl).toArray T (0, 0)) := by
      simp [World.setCell, Array.getElem?_modify, hh]
    exact ⟨rfl, ⟨hb, hT, _, v, .inr rfl, hh', own_set ho hb _ _⟩, by rw [Lib.cell_of_heap hh']; rfl, beside_set _ _ _ _ _⟩
  · refine (check_used b w h0).mono ?_
    rintro e w' ⟨rfl, rfl⟩
    exact ⟨rfl, ⟨hb, hT, _, v, .inr rfl, hh, ho⟩, h0, Beside.refl _ _ _⟩

set_option maxHeartbeats 2000000 in
set_option maxRecDepth 100000 in
theorem writeByte_any (R : Nat → Prop) (b : Nat) (T : TypeId) (tl : List Value) (l : List UInt8) (z : Int) (c : UInt8) (w : World) (hy : z = (c.toNat : Int)) (h : Bld R b T tl l w) (hl : l.length < 1099511627776) (hR : Old R w) :
    Calls Try.prog 77 #[.pointer (some ⟨b, 0, none⟩), .int .u8 z] w fun e w' => e = .returned .nilIface ∧ Bld R b T tl (l ++ [c]) w' ∧ Beside R b w w' := by
  subst hy
  have C := Lib.hid (check_any R b T tl l w h)
  clear h
  go_enter Try.func77, Try.ntmps77
  go_wp2_with fail
  refine C.out.mono ?_
  rintro e w1 ⟨rfl, ⟨hbR, hT, p, v, hp, hbk, hown⟩, c0, hb1⟩
  have HT := Lib.hid hT
  have hold := hR.mono hb1.size
  clear hT
  have c1 : w1.cell? ⟨b, 1, none⟩ = some v := by rw [Lib.cell_of_heap hbk]; rfl
  have hblt : b < w1.heap.size := (Array.getElem?_eq_some_iff.1 hbk).1
  have hsz := hb1.size
  go_wp2_with ((at_builtin; go_must (refine wpList_append_elem_row rfl _ _ 62 rfl 5 (.int .u8 0) 1 1 Try.underlying62 (by kernel_rfl) rfl (by decide) R l.length (cellsOf l) v w1 #[.int .u8 (c.toNat : Int)] rfl (by intro u hu; simp at hu; subst hu; rfl) hown rfl hold rfl (by unfold maxLen; omega) (by omega) ?_); intro v' w2 hown2 hb2 hgr2 hat2; obtain ⟨O, cap, rfl⟩ := own_form hown2.1; have hbk2 := (hb2.block b hbR).trans hbk; have d0 : w2.cell? ⟨b, 0, none⟩ = some (.pointer (some ⟨b, 0, none⟩)) := (Lib.cell_of_heap hbk2 0).trans ((Lib.cell_of_heap hbk 0).symm.trans c0); have d1 : w2.cell? ⟨b, 1, none⟩ = some v := (Lib.cell_of_heap hbk2 1).trans rfl; have d2 : w2.frozen? ⟨b, 1, none⟩ = false := Lib.frozen_of_heap hbk2 1))
  go_ret
  rw [← cellsOf_snoc] at hown2
  refine ⟨rfl, ⟨hbR, HT.out, p, _, hp, ?_, own_set (by rw [List.length_append]; exact hown2) hbR _ _⟩, (hb1.trans hb2.beside).trans (beside_set _ _ _ _ _)⟩
  simp [World.setCell, Array.getElem?_modify, hbk2]

set_option maxHeartbeats 2000000 in
set_option maxRecDepth 100000 in
theorem string_some (R : Nat → Prop) (b : Nat) (T : TypeId) (tl : List Value) (l : List UInt8) (w : World) (h : Bld R b T tl l w) (h0 : l ≠ []) :
    Calls Try.prog 28 #[.pointer (some ⟨b, 0, none⟩)] w fun e w' => e = .returned (.string (S l)) ∧ Stays R w w' := by
  obtain ⟨hbR, hT, p, v, hp, hbk, hown, hnot⟩ := h
  have hl0 : l.length ≠ 0 := by simpa using h0
  obtain ⟨g, cap, cur, rfl, hbg, hg, hnc, hcm, hcs, htake⟩ : ∃ g cap cur, v = .slice (some ⟨g, 0, none⟩) l.length cap ∧ 0 ≤ g ∧ w.heap[g]? = some (.cells cur 5 (0, 0)) ∧ l.length ≤ cap ∧ cap ≤ maxLen ∧ cur.size = cap * 1 ∧ cur.toList.take (l.length * 1) = cellsOf l := by
    rcases hown.2 with ⟨_, hz⟩ | ⟨g, cap, cur, hv, r⟩
    · exact absurd hz hl0
    · exact ⟨g, cap, cur, hv, r⟩
  have c1 : w.drew.cell? ⟨b, 1, none⟩ = some (.slice (some ⟨g, 0, none⟩) l.length cap) := by
    have : w.drew.heap[b]? = some (.cells (p :: .slice (some ⟨g, 0, none⟩) l.length cap :: tl).toArray T (0, 0)) := hbk
    rw [Lib.cell_of_heap this]; rfl
  have hSD : (Builtin.unsafeSliceData_ #[62] 90 #[.slice (some ⟨g, 0, none⟩) l.length cap]).run Try.prog w.drew = .ok (.pointer (some ⟨g, 0, none⟩)) w.drew :=
    Lib.run_unsafeSliceData_row (P := Try.prog) _ _ _ _ _ _ (by omega)
  have hUS : (Builtin.unsafeString_ #[90, 3] 9 #[.pointer (some ⟨g, 0, none⟩), .int .i64 l.length]).run Try.prog w.drew = .ok (.string (S l)) (w.drew.freeze ⟨g, 0, none⟩ l.length) := by
    refine Lib.run_unsafeString_row (P := Try.prog) (w := w.drew) 90 3 9 5 Try.underlying90 (by kernel_rfl) g cur.size (by have hg' : w.drew.heap[g]? = some (.cells cur 5 (0, 0)) := hg; simp [World.shape?, hg']) l h0 (by omega) (by unfold maxLen at hcm; omega) ?_
    intro j x hx
    have := hown.cells (g := g) rfl j (.int .u8 x.toNat) (by simp [cellsOf, hx])
    exact this
  go_enter Try.func28, Try.ntmps28
  go_wp2
  go_region
  all_goals (go_wp2; go_ret; exact ⟨rfl, stays_freeze (Stays.drewr (Stays.refl R w)) (p := ⟨g, 0, none⟩) (hnot g rfl) _⟩)

set_option maxHeartbeats 2000000 in
set_option maxRecDepth 100000 in
theorem string_nil (R : Nat → Prop) (b : Nat) (T : TypeId) (tl : List Value) (p : Value) (w : World) (hBw : Old R w) (v : Value) (hbk : w.heap[b]? = some (.cells (p :: v :: tl).toArray T (0, 0))) (hown : w.ownsRow 0 5 1 v 0 []) :
    Calls Try.prog 28 #[.pointer (some ⟨b, 0, none⟩)] w fun e w' => e = .returned (.string (S [])) ∧ Stays R w w' := by
  have hUS := fun W q => Lib.run_unsafeString_none (P := Try.prog) (w := W) 90 3 9 q
  have hlt : b < w.heap.size := (Array.getElem?_eq_some_iff.1 hbk).1
  rcases hown.2 with ⟨rfl, _⟩ | ⟨g, cap, cur, rfl, hbg, hg, _, _, _, _⟩
  · have c1 : w.drew.cell? ⟨b, 1, none⟩ = some (.slice none 0 0) := by
      have : w.drew.heap[b]? = some (.cells (p :: .slice none 0 0 :: tl).toArray T (0, 0)) := hbk
      rw [Lib.cell_of_heap this]; rfl
    have hSD : (Builtin.unsafeSliceData_ #[62] 90 #[.slice none 0 0]).run Try.prog w.drew = .ok (.pointer none) w.drew := rfl
    go_enter Try.func28, Try.ntmps28
    go_wp2
    go_region
    all_goals (go_wp2; go_ret; exact ⟨rfl, Stays.drewr (Stays.refl R w)⟩)
  · have c1 : w.drew.cell? ⟨b, 1, none⟩ = some (.slice (some ⟨g, 0, none⟩) 0 cap) := by
      have : w.drew.heap[b]? = some (.cells (p :: .slice (some ⟨g, 0, none⟩) 0 cap :: tl).toArray T (0, 0)) := hbk
      rw [Lib.cell_of_heap this]; rfl
    by_cases hc0 : cap = 0
    · subst hc0
      have hSD : (Builtin.unsafeSliceData_ #[62] 90 #[.slice (some ⟨g, 0, none⟩) 0 0]).run Try.prog w.drew = .ok (.pointer (some ⟨w.drew.heap.size, 0, none⟩)) (w.drew.alloc (.view ⟨g, 0, none⟩ 5)) :=
        Lib.run_unsafeSliceData_zero (P := Try.prog) (w := w.drew) _ _ 5 Try.underlying90 ⟨g, 0, none⟩ 0 (5, cur.size) (by have hg' : w.drew.heap[g]? = some (.cells cur 5 (0, 0)) := hg; simp [World.shape?, hg'])
      have c2 : (w.drew.alloc (.view ⟨g, 0, none⟩ 5)).cell? ⟨b, 1, none⟩ = some (.slice (some ⟨g, 0, none⟩) 0 0) := by
        have : (w.drew.alloc (.view ⟨g, 0, none⟩ 5)).heap[b]? = _ := (Lib.alloc_old w.drew _ b hlt).trans hbk
        rw [Lib.cell_of_heap this]; rfl
      have c3 : (w.alloc (.view ⟨g, 0, none⟩ 5)).drew.cell? ⟨b, 1, none⟩ = some (.slice (some ⟨g, 0, none⟩) 0 0) := c2
      have c0 : w.cell? ⟨b, 1, none⟩ = some (.slice (some ⟨g, 0, none⟩) 0 0) := c1
      go_enter Try.func28, Try.ntmps28
      go_wp2
      go_region
      all_goals (go_wp2; go_ret; exact ⟨rfl, (Stays.drewr (Stays.refl R w)).allocr hBw _⟩)
    · have hSD : (Builtin.unsafeSliceData_ #[62] 90 #[.slice (some ⟨g, 0, none⟩) 0 cap]).run Try.prog w.drew = .ok (.pointer (some ⟨g, 0, none⟩)) w.drew :=
        Lib.run_unsafeSliceData_row (P := Try.prog) _ _ _ _ _ _ hc0
      clear hc0
      go_enter Try.func28, Try.ntmps28
      go_wp2
      go_region
      all_goals (go_wp2; go_ret; exact ⟨rfl, Stays.drewr (Stays.refl R w)⟩)

theorem string_any (R : Nat → Prop) (b : Nat) (T : TypeId) (tl : List Value) (l : List UInt8) (w : World) (h : Bld R b T tl l w) (hBw : Old R w) :
    Calls Try.prog 28 #[.pointer (some ⟨b, 0, none⟩)] w fun e w' => e = .returned (.string (S l)) ∧ Stays R w w' := by
  cases l with
  | nil =>
    obtain ⟨hbR, hT, p, v, hp, hbk, hown, hnot⟩ := h
    exact string_nil R b T tl p w hBw v hbk hown
  | cons u r => exact string_some R b T tl (u :: r) w h (by simp)
end Go.Proofs.Ytmafdbdmmfpeeaa

/-! VPut -/
namespace Go.Proofs.Ytmafdbdmmfpeeaa
open Go Go.RowKit

/-- what a writer has: its bytes, and the bits behind them -/
structure WSt where
  L : List UInt8
  a : Nat
  m : Nat
def WSt.ok (s : WSt) : Prop := s.m < 8 ∧ s.a < 2 ^ s.m
def WrOf (R : Nat → Prop) (b : Nat) (s : WSt) (w : World) : Prop := Bld R b 109 [.int .u64 s.a, .int .i64 s.m] s.L w

/-- a byte's bits at most, put behind -/
def WSt.put (s : WSt) (n k : Nat) : WSt :=
  if 8 ≤ s.m + k then ⟨s.L ++ [byt ((s.a * 2 ^ k + n) / 2 ^ (s.m + k - 8))], (s.a * 2 ^ k + n) % 2 ^ (s.m + k - 8), s.m + k - 8⟩
  else ⟨s.L, s.a * 2 ^ k + n, s.m + k⟩

theorem u64_or_nat (a b : Nat) (ha : a < 18446744073709551616) (hb : b < 18446744073709551616) : bits .or .u64 (a : Int) (b : Int) = ((a ||| b : Nat) : Int) := by
  have hx : a ||| b < 2 ^ 64 := Nat.or_lt_two_pow (by omega) (by omega)
  have h1 : (BitVec.ofInt 64 (a : Int)).toNat = a := by
    rw [BitVec.ofInt_natCast, BitVec.toNat_ofNat]; exact Nat.mod_eq_of_lt (by omega)
  have h2 : (BitVec.ofInt 64 (b : Int)).toNat = b := by
    rw [BitVec.ofInt_natCast, BitVec.toNat_ofNat]; exact Nat.mod_eq_of_lt (by omega)
  show IntKind.u64.wrap ((BitVec.ofInt 64 (a : Int) ||| BitVec.ofInt 64 (b : Int)).toNat : Int) = _
  rw [BitVec.toNat_or, h1, h2, IntKind.wrap_u64]
  omega
theorem or_put {a n k : Nat} (hn : n < 2 ^ k) (h : a * 2 ^ k + n < 18446744073709551616) : bits .or .u64 ((a : Int) * 2 ^ k) (n : Int) = ((a * 2 ^ k + n : Nat) : Int) := by
  have e : (a : Int) * 2 ^ k = ((a * 2 ^ k : Nat) : Int) := by norm_cast
  rw [e, u64_or_nat _ _ (by omega) (by omega)]
  congr 1
  rw [Nat.mul_comm, Nat.two_pow_add_eq_or_of_lt hn]

theorem bld_cells {R : Nat → Prop} {b : Nat} {x y : Value} {l : List UInt8} {w : World} (h : Bld R b 109 [x, y] l w) : (w.cell? ⟨b, 2, none⟩ = some x ∧ w.cell? ⟨b, 3, none⟩ = some y) ∧ w.frozen? ⟨b, 2, none⟩ = false := by
  obtain ⟨_, _, p, v, _, hh, _⟩ := h
  exact ⟨⟨by rw [Lib.cell_of_heap hh]; rfl, by rw [Lib.cell_of_heap hh]; rfl⟩, Lib.frozen_of_heap hh 2⟩

theorem byt_wrap (q : Nat) : IntKind.u8.wrap (q : Int) = ((byt q).toNat : Int) := by
  unfold byt; rw [UInt8.toNat_ofNat', IntKind.wrap_u8]; omega

theorem set_two {w : World} {b : Nat} {v0 v1 v2 v3 x : Value} {t : TypeId} (hk : w.heap[b]? = some (.cells #[v0, v1, v2, v3] t (0, 0))) : (w.setCell ⟨b, 2, none⟩ x).heap[b]? = some (.cells #[v0, v1, x, v3] t (0, 0)) := by
  simp [World.setCell, Array.getElem?_modify, hk]
theorem set_three {w : World} {b : Nat} {v0 v1 v2 v3 x : Value} {t : TypeId} (hk : w.heap[b]? = some (.cells #[v0, v1, v2, v3] t (0, 0))) : (w.setCell ⟨b, 3, none⟩ x).heap[b]? = some (.cells #[v0, v1, v2, x] t (0, 0)) := by
  simp [World.setCell, Array.getElem?_modify, hk]

set_option maxRecDepth 100000 in
set_option maxHeartbeats 1000000 in
theorem put_any (R : Nat → Prop) (b : Nat) (s : WSt) (n k : Nat) (w : World) (h : WrOf R b s w) (hok : s.ok) (hn : n < 2 ^ k) (hk : k ≤ 8) (hl : s.L.length < 1099511627776) (hR : Old R w) :
    Calls Try.prog 72 #[.pointer (some ⟨b, 0, none⟩), .int .u64 n, .int .i64 k] w fun e w' => e = .returned (.tuple #[]) ∧ WrOf R b (s.put n k) w' ∧ Beside R b w w' := by
  obtain ⟨L, a, m⟩ := s
  obtain ⟨hm8, ha⟩ := hok
  simp only at hm8 ha hl
  obtain ⟨hb, hT, p, v, hp, hh, ho⟩ := h
  have HT := Lib.hid hT
  clear hT
  have c2 : w.cell? ⟨b, 2, none⟩ = some (.int .u64 a) := by rw [Lib.cell_of_heap hh]; rfl
  have c3 : w.cell? ⟨b, 3, none⟩ = some (.int .i64 m) := by rw [Lib.cell_of_heap hh]; rfl
  have f2 : w.frozen? ⟨b, 2, none⟩ = false := Lib.frozen_of_heap hh 2
  have f3 : w.frozen? ⟨b, 3, none⟩ = false := Lib.frozen_of_heap hh 3
  have hk8 : (k : Int) ≤ 8 := by omega
  have hp2 : (2 : Nat) ^ k ≤ 256 := Nat.pow_le_pow_right (by decide) hk
  have hp3 : (2 : Nat) ^ m ≤ 128 := Nat.pow_le_pow_right (n := 2) (by decide) (by omega : m ≤ 7)
  have hak : a * 2 ^ k ≤ 128 * 256 := Nat.mul_le_mul (by omega) hp2
  have hor := or_put (a := a) hn (by omega)
  have e1 : IntKind.u64.wrap ((a : Int) * 2 ^ k) = (a : Int) * 2 ^ k := IntWalk.u64_in _ (by
    have : (a : Int) * 2 ^ k = ((a * 2 ^ k : Nat) : Int) := by norm_cast
    omega)
  have hx : a * 2 ^ k + n < 65536 := by omega
  obtain ⟨x, hxd⟩ : ∃ x, x = a * 2 ^ k + n := ⟨_, rfl⟩
  rw [← hxd] at hor hx
  have Hx := Lib.hid hxd
  have hs1 : IntKind.i64.wrap ((m : Int) + (k : Int)) = (m : Int) + (k : Int) := IntWalk.i64_in _ (by omega)
  have Hh := Lib.hid hh
  have Ho := Lib.hid ho
  clear hxd hp2 hp3 hak hh ho ha hn
  by_cases hc : m + k < 8
  · have hd : decide ((8 : Int) ≤ (m : Int) + (k : Int)) = false := decide_eq_false (by omega)
    have hput : WSt.put ⟨L, a, m⟩ n k = ⟨L, x, m + k⟩ := by unfold WSt.put; rw [if_neg (by simp only; omega), Hx.out]
    rw [hput]
    clear hput
    go_enter Try.func72, Try.ntmps72
    go_wp2_with fail
    go_region
    go_wp2_with fail
    go_end0
    refine ⟨rfl, ⟨hb, HT.out, p, v, hp, ?_, own_set (own_set Ho.out hb _ _) hb _ _⟩, ((beside_set R b 2 w _).trans (beside_set R b 3 _ _)).drewr⟩
    show ((w.setCell ⟨b, 2, none⟩ (.int .u64 x)).setCell ⟨b, 3, none⟩ (.int .i64 ((m : Int) + (k : Int)))).heap[b]? = _
    rw [set_three (set_two Hh.out)]
    simp
  · have hd : decide ((8 : Int) ≤ (m : Int) + (k : Int)) = true := decide_eq_true (by omega)
    obtain ⟨t, ht⟩ : ∃ t, t = m + k - 8 := ⟨_, rfl⟩
    have hput : WSt.put ⟨L, a, m⟩ n k = ⟨L ++ [byt (x / 2 ^ t)], x % 2 ^ t, t⟩ := by unfold WSt.put; rw [if_pos (by simp only; omega), Hx.out, ht]
    rw [hput]
    have ht8 : (t : Int) < 8 := by omega
    have hti : (m : Int) + (k : Int) - 8 = (t : Int) := by omega
    have Hht := Lib.hid ht
    have hsh := shr_nat x t
    clear hput ht
    go_enter Try.func72, Try.ntmps72
    go_wp2_with fail
    go_region
    go_wp2_with fail
    obtain ⟨wA, hwA⟩ : ∃ wA, wA = (((w.setCell ⟨b, 2, none⟩ (.int .u64 x)).setCell ⟨b, 3, none⟩ (.int .i64 ((m : Int) + (k : Int)))).setCell ⟨b, 3, none⟩ (.int .i64 t)).drew := ⟨_, rfl⟩
    rw [← hwA]
    have hBA : Bld R b 109 [.int .u64 x, .int .i64 t] L wA := by
      rw [hwA]
      exact ⟨hb, HT.out, p, v, hp, set_three (set_three (set_two Hh.out)), own_set (own_set (own_set Ho.out hb _ _) hb _ _) hb _ _⟩
    have hSA : Beside R b w wA := by
      rw [hwA]
      exact (((beside_set R b 2 w _).trans (beside_set R b 3 _ _)).trans (beside_set R b 3 _ _)).drewr
    have HSA := Lib.hid hSA
    obtain ⟨⟨r2, r3⟩, -⟩ := bld_cells hBA
    have W := Lib.hid (fun z w' h1 h2 h3 => writeByte_any R b 109 [.int .u64 x, .int .i64 t] L z (byt (x / 2 ^ t)) w' h1 h2 hl h3)
    have HBA := Lib.hid hBA
    have hRA : Old R wA := hR.mono hSA.size
    have hw1 : IntKind.u64.wrap (t : Int) = (t : Int) := IntWalk.u64_in _ (by omega)
    have hmn : min t 64 = t := by omega
    clear hwA hBA hSA c2 c3 f2 f3 hor e1 hs1 hti hd
    obtain ⟨q, hqd⟩ : ∃ q, q = x / 2 ^ t := ⟨_, rfl⟩
    rw [← hqd] at hsh W
    have Hq := Lib.hid hqd
    clear hqd
    go_region_held (fun w' => w'.cell? ⟨b, 2, none⟩ = some (.int .u64 x) ∧ w'.cell? ⟨b, 3, none⟩ = some (.int .i64 t))
      (first | go_keep | (exact (bld_cells hB5).1))
      (first | (go_at_call 77; refine (W.out _ wA.drew ?_ HBA.out hRA).mono ?_; (exact byt_wrap _); rintro e w5 ⟨rfl, hB5, hbs5⟩))
    obtain ⟨⟨y2, y3⟩, fy⟩ := bld_cells hB5
    have hpt : (2 : Nat) ^ t ≤ 128 := Nat.pow_le_pow_right (n := 2) (by decide) (by omega : t ≤ 7)
    have hpt0 := Nat.two_pow_pos t
    have hpi : (2 : Int) ^ t = ((2 ^ t : Nat) : Int) := by norm_cast
    have w2 : IntKind.u64.wrap ((2 : Int) ^ t) = (2 : Int) ^ t := IntWalk.u64_in _ (by omega)
    have w3 : IntKind.u64.wrap ((2 : Int) ^ t - 1) = (2 : Int) ^ t - 1 := IntWalk.u64_in _ (by omega)
    clear hpt hpt0 hpi
    have hmask := bits_mask .u64 64 (by decide) wraps_u64 t (by omega) (x : Int) (by omega) (by omega)
    go_wp2_with fail
    go_region
    go_wp2_with fail
    go_end0
    obtain ⟨hb', hT', p', v', hp', hh', ho'⟩ := hB5
    rw [← Hq.out]
    refine ⟨rfl, ⟨hb, hT', p', v', hp', ?_, own_set ho' hb _ _⟩, HSA.out.trans (hbs5.drewl.trans (beside_set R b 2 _ _).drewr)⟩
    have e2 : ((x % 2 ^ t : Nat) : Int) = (x : Int) % 2 ^ t := by norm_cast
    simp only [e2]
    exact set_two hh'
end Go.Proofs.Ytmafdbdmmfpeeaa

/-! VAll -/
namespace Go.Proofs.Ytmafdbdmmfpeeaa
open Go Go.RowKit

theorem put_ok {s : WSt} {n k : Nat} (h : s.ok) (hn : n < 2 ^ k) (hk : k ≤ 8) : (s.put n k).ok := by
  obtain ⟨h1, h2⟩ := h
  unfold WSt.put
  by_cases hc : 8 ≤ s.m + k
  · rw [if_pos hc]
    exact ⟨by simp only; omega, by simp only; exact Nat.mod_lt _ (Nat.two_pow_pos _)⟩
  · rw [if_neg hc]
    refine ⟨by simp only; omega, ?_⟩
    simp only
    rw [Nat.pow_add]
    have : (s.a + 1) * 2 ^ k ≤ 2 ^ s.m * 2 ^ k := Nat.mul_le_mul_right _ h2
    rw [Nat.add_mul] at this
    omega
theorem put_len (s : WSt) (n k : Nat) : (s.put n k).L.length ≤ s.L.length + 1 := by
  unfold WSt.put; split <;> simp

/-- a number's low bits, put behind byte by byte -/
def WSt.all (s : WSt) (n k : Nat) : WSt := if 8 < k then (s.put (n / 2 ^ (k - 8) % 256) 8).all n (k - 8) else s.put (n % 2 ^ k) k
termination_by k
decreasing_by omega
theorem all_big {s : WSt} {n k : Nat} (h : 8 < k) : s.all n k = (s.put (n / 2 ^ (k - 8) % 256) 8).all n (k - 8) := by rw [WSt.all, if_pos h]
theorem all_small {s : WSt} {n k : Nat} (h : ¬ 8 < k) : s.all n k = s.put (n % 2 ^ k) k := by rw [WSt.all, if_neg h]

theorem mask8 {q : Nat} (h : q < 18446744073709551616) : bits .and .u64 (q : Int) 255 = ((q % 256 : Nat) : Int) := by
  have := bits_mask .u64 64 (by decide) wraps_u64 8 (by decide) (q : Int) (by omega) (by omega)
  rw [show ((q % 256 : Nat) : Int) = (q : Int) % 256 by omega]
  simpa using this

set_option maxRecDepth 100000 in
set_option maxHeartbeats 1000000 in
theorem all_any (R : Nat → Prop) (b : Nat) (s : WSt) (n k : Nat) (w : World) (h : WrOf R b s w) (hok : s.ok) (hn : n < 18446744073709551616) (hk : k ≤ 64) (hl : s.L.length < 1099511627000) (hR : Old R w) :
    Calls Try.prog 62 #[.pointer (some ⟨b, 0, none⟩), .int .u64 n, .int .i64 k] w fun e w' => e = .returned (.tuple #[]) ∧ WrOf R b (s.all n k) w' ∧ Beside R b w w' := by
  go_enter Try.func62, Try.ntmps62
  go_wp2_with fail
  go_loopw [2] (fun mv wr => ∃ (j : Nat) (r : WSt), mv = .int .i64 j ∧ j ≤ 64 ∧ WrOf R b r wr ∧ r.ok ∧ r.all n j = s.all n k ∧ r.L.length + j ≤ s.L.length + 64 ∧ Beside R b w wr) (fun mv _ => (intOf mv).toNat)
  case atStart => exact ⟨k, s, rfl, hk, h, hok, rfl, by omega, Beside.refl _ _ _⟩
  case round =>
    obtain ⟨j, r, rfl, hj, hW, hrok, hall, hrl, hbs⟩ := hrel
    have hRr : Old R wr := hR.mono hbs.size
    by_cases hc : 8 < j
    · obtain ⟨t, ht⟩ : ∃ t, t = j - 8 := ⟨_, rfl⟩
      rw [all_big hc, ← ht] at hall
      have hall' := Lib.hid hall
      have hti : (j : Int) - 8 = (t : Int) := by omega
      have ht56 : (t : Int) ≤ 56 := by omega
      have hd : decide ((8 : Int) < (j : Int)) = true := decide_eq_true (by omega)
      have hw1 : IntKind.u64.wrap (t : Int) = (t : Int) := IntWalk.u64_in _ (by omega)
      have hmn : min t 64 = t := by omega
      have hsh := shr_nat n t
      have hqb : n / 2 ^ t < 18446744073709551616 := Nat.lt_of_le_of_lt (Nat.div_le_self _ _) hn
      have hmk := mask8 hqb
      have P := Lib.hid (put_any R b r (n / 2 ^ t % 256) 8 wr hW hrok (Nat.mod_lt _ (by decide)) (by omega) (by omega) hRr)
      have hok2 := Lib.hid (put_ok (n := n / 2 ^ t % 256) (k := 8) hrok (Nat.mod_lt _ (by decide)) (by omega))
      have hl2 := Lib.hid (put_len r (n / 2 ^ t % 256) 8)
      have hq256 : n / 2 ^ t % 256 < 256 := Nat.mod_lt _ (by decide)
      have Hb := Lib.hid hbs
      obtain ⟨y, hy⟩ : ∃ y, y = n / 2 ^ t % 256 := ⟨_, rfl⟩
      rw [← hy] at P hok2 hl2 hall' hq256 hmk
      generalize n / 2 ^ t = q at hsh hmk
      have Ht := Lib.hid ht
      clear hy hW hrok hall hbs hqb ht
      go_wp2_with fail
      refine P.out.mono ?_
      rintro e w2 ⟨rfl, hW2, hb2⟩
      go_wp2_with fail
      go_roundw
      case rel => exact ⟨t, r.put y 8, by go_num, by omega, hW2, hok2.out, hall'.out, by have := hl2.out; have := Ht.out; omega, Hb.out.trans hb2⟩
      case measure => simp [intOf]; have := Ht.out; omega
    · have hd : decide ((8 : Int) < (j : Int)) = false := decide_eq_false (by omega)
      have P := Lib.hid (put_any R b r (n % 2 ^ j) j wr hW hrok (Nat.mod_lt _ (Nat.two_pow_pos _)) (by omega) (by omega) hRr)
      rw [all_small hc] at hall
      rw [hall] at P
      have hj8 : (j : Int) ≤ 8 := by omega
      have hw1 : IntKind.u64.wrap (j : Int) = (j : Int) := IntWalk.u64_in _ (by omega)
      have hmn : min j 64 = j := by omega
      have hpt : (2 : Nat) ^ j ≤ 256 := Nat.pow_le_pow_right (n := 2) (by decide) (by omega : j ≤ 8)
      have hpt0 := Nat.two_pow_pos j
      have hpi : (2 : Int) ^ j = ((2 ^ j : Nat) : Int) := by norm_cast
      have w2 : IntKind.u64.wrap ((2 : Int) ^ j) = (2 : Int) ^ j := IntWalk.u64_in _ (by omega)
      have w3 : IntKind.u64.wrap ((2 : Int) ^ j - 1) = (2 : Int) ^ j - 1 := IntWalk.u64_in _ (by omega)
      have hmask := bits_mask .u64 64 (by decide) wraps_u64 j (by omega) (n : Int) (by omega) (by omega)
      have hmi : (n : Int) % 2 ^ j = ((n % 2 ^ j : Nat) : Int) := by norm_cast
      have Hb := Lib.hid hbs
      clear hpt hpt0 hpi hW hrok hall hbs
      generalize n % 2 ^ j = y at *
      go_wp2_with fail
      refine P.out.mono ?_
      rintro e w2 ⟨rfl, hW2, hb2⟩
      go_wp2_with fail
      go_end0
      exact ⟨rfl, hW2, Hb.out.trans hb2⟩
end Go.Proofs.Ytmafdbdmmfpeeaa

/-! VRice -/
namespace Go.Proofs.Ytmafdbdmmfpeeaa
open Go Go.RowKit

theorem all_ok : ∀ (k : Nat) (s : WSt) (n : Nat), s.ok → (s.all n k).ok ∧ (s.all n k).L.length ≤ s.L.length + k / 8 + 1 := by
  intro k
  induction k using Nat.strongRecOn with
  | ind k ih =>
    intro s n h
    by_cases hc : 8 < k
    · rw [all_big hc]
      have h1 := put_ok (n := n / 2 ^ (k - 8) % 256) (k := 8) h (Nat.mod_lt _ (by decide)) (by omega)
      have h2 := put_len s (n / 2 ^ (k - 8) % 256) 8
      obtain ⟨h3, h4⟩ := ih (k - 8) (by omega) _ n h1
      exact ⟨h3, by omega⟩
    · rw [all_small hc]
      have h2 := put_len s (n % 2 ^ k) k
      exact ⟨put_ok h (Nat.mod_lt _ (Nat.two_pow_pos _)) (by omega), by omega⟩

/-- a number's code, put behind -/
def WSt.rice (s : WSt) (n k : Nat) : WSt := if 24 ≤ n / 2 ^ k then (s.all 16777215 24).all n 64 else (s.all ((2 ^ (n / 2 ^ k) - 1) * 2) (n / 2 ^ k + 1)).all (n % 2 ^ k) k

set_option maxRecDepth 100000 in
set_option maxHeartbeats 1000000 in
theorem rice_any (R : Nat → Prop) (b : Nat) (s : WSt) (n k : Nat) (w : World) (h : WrOf R b s w) (hok : s.ok) (hn : n < 18446744073709551616) (hk : k ≤ 40) (hl : s.L.length < 1099511626000) (hR : Old R w) :
    Calls Try.prog 42 #[.pointer (some ⟨b, 0, none⟩), .int .u64 n, .int .i64 k] w fun e w' => e = .returned (.int .i64 0) ∧ WrOf R b (s.rice n k) w' ∧ Beside R b w w' := by
  have hk1 : decide ((k : Int) < 0) = false := decide_eq_false (by omega)
  have hk2 : decide ((40 : Int) < (k : Int)) = false := decide_eq_false (by omega)
  have hki : (k : Int) ≤ 40 := by omega
  have hsh := shr_nat n k
  by_cases hq : 24 ≤ n / 2 ^ k
  · have hr : s.rice n k = (s.all 16777215 24).all n 64 := by unfold WSt.rice; rw [if_pos hq]
    rw [hr]
    obtain ⟨o1, l1⟩ := all_ok 24 s 16777215 hok
    have A1 := Lib.hid (all_any R b s 16777215 24 w h hok (by omega) (by omega) (by omega) hR)
    have A2 := Lib.hid (fun w h hR => all_any R b (s.all 16777215 24) n 64 w h o1 hn (by omega) (by omega) hR)
    clear hr h hok o1 l1
    generalize n / 2 ^ k = q at *
    have hd : decide ((24 : Int) ≤ (q : Int)) = true := decide_eq_true (by omega)
    go_enter Try.func42, Try.ntmps42
    go_wp2_with fail
    refine A1.out.mono ?_
    rintro e w1 ⟨rfl, hW1, hb1⟩
    go_wp2_with fail
    refine (A2.out _ hW1 (hR.mono hb1.size)).mono ?_
    rintro e w2 ⟨rfl, hW2, hb2⟩
    go_wp2_with fail
    go_ret
    exact ⟨rfl, hW2, hb1.trans hb2⟩
  · obtain ⟨q, hqd⟩ : ∃ q, q = n / 2 ^ k := ⟨_, rfl⟩
    have hr : s.rice n k = (s.all ((2 ^ q - 1) * 2) (q + 1)).all (n % 2 ^ k) k := by unfold WSt.rice; rw [if_neg hq, ← hqd]
    rw [hr]
    rw [← hqd] at hsh hq
    obtain ⟨o1, l1⟩ := all_ok (q + 1) s ((2 ^ q - 1) * 2) hok
    have hpq : (2 : Nat) ^ q ≤ 8388608 := Nat.pow_le_pow_right (n := 2) (by decide) (by omega : q ≤ 23)
    have hpq0 := Nat.two_pow_pos q
    have A1 := Lib.hid (all_any R b s ((2 ^ q - 1) * 2) (q + 1) w h hok (by omega) (by omega) (by omega) hR)
    have A2 := Lib.hid (fun w h hR => all_any R b (s.all ((2 ^ q - 1) * 2) (q + 1)) (n % 2 ^ k) k w h o1 (Nat.lt_of_le_of_lt (Nat.mod_le _ _) hn) (by omega) (by omega) hR)
    have hqi : (q : Int) < 24 := by omega
    have hpi : (2 : Int) ^ q = ((2 ^ q : Nat) : Int) := by norm_cast
    have w2 : IntKind.u64.wrap ((2 : Int) ^ q) = (2 : Int) ^ q := IntWalk.u64_in _ (by omega)
    have w3 : IntKind.u64.wrap ((2 : Int) ^ q - 1) = (2 : Int) ^ q - 1 := IntWalk.u64_in _ (by omega)
    have w4 : IntKind.u64.wrap (((2 : Int) ^ q - 1) * 2) = (((2 ^ q - 1) * 2 : Nat) : Int) := by rw [IntWalk.u64_in _ (by omega)]; omega
    have hmq : min q 64 = q := by omega
    have hmk : min k 64 = k := by omega
    have hpk : (2 : Nat) ^ k ≤ 1099511627776 := Nat.pow_le_pow_right (n := 2) (by decide) hk
    have hpk0 := Nat.two_pow_pos k
    have hpki : (2 : Int) ^ k = ((2 ^ k : Nat) : Int) := by norm_cast
    have v2 : IntKind.u64.wrap ((2 : Int) ^ k) = (2 : Int) ^ k := IntWalk.u64_in _ (by omega)
    have v3 : IntKind.u64.wrap ((2 : Int) ^ k - 1) = (2 : Int) ^ k - 1 := IntWalk.u64_in _ (by omega)
    have hw1 : IntKind.u64.wrap (k : Int) = (k : Int) := IntWalk.u64_in _ (by omega)
    have hmask := bits_mask .u64 64 (by decide) wraps_u64 k (by omega) (n : Int) (by omega) (by omega)
    have hmi : (n : Int) % 2 ^ k = ((n % 2 ^ k : Nat) : Int) := by norm_cast
    have hd : decide ((24 : Int) ≤ (q : Int)) = false := decide_eq_false (by omega)
    rw [show ((q + 1 : Nat) : Int) = (q : Int) + 1 by omega] at A1
    clear hr h hok o1 l1 hpq hpq0 hpi hpk hpk0 hpki hqd
    generalize (2 ^ q - 1) * 2 = v at *
    generalize n % 2 ^ k = y at *
    go_enter Try.func42, Try.ntmps42
    go_wp2_with fail
    refine A1.out.mono ?_
    rintro e w1 ⟨rfl, hW1, hb1⟩
    go_wp2_with fail
    refine (A2.out _ hW1 (hR.mono hb1.size)).mono ?_
    rintro e w2 ⟨rfl, hW2, hb2⟩
    go_wp2_with fail
    go_ret
    exact ⟨rfl, hW2, hb1.trans hb2⟩
end Go.Proofs.Ytmafdbdmmfpeeaa

/-! VBits -/
namespace Go.Proofs.Ytmafdbdmmfpeeaa

theorem lowL_get {n b i : Nat} (h : i < (lowL n b).length) : (lowL n b)[i] = n.testBit (b - 1 - i) := by simp [lowL]

theorem lowL_split {a n k : Nat} (m : Nat) (hn : n < 2 ^ k) : lowL (a * 2 ^ k + n) (m + k) = lowL a m ++ lowL n k := by
  apply List.ext_getElem
  · simp [lowL_length]
  · intro i h1 h2
    rw [lowL_length] at h1
    rw [lowL_get]
    rw [Nat.mul_comm, Nat.testBit_two_pow_mul_add a hn]
    by_cases hi : i < m
    · rw [List.getElem_append_left (by rw [lowL_length]; exact hi), lowL_get, if_neg (by omega)]
      congr 1; omega
    · rw [List.getElem_append_right (by rw [lowL_length]; omega), lowL_get, if_pos (by omega)]
      congr 1; rw [lowL_length]; omega

theorem lowL_mod (n b : Nat) : lowL (n % 2 ^ b) b = lowL n b := by
  apply List.ext_getElem
  · simp [lowL_length]
  · intro i h1 h2
    rw [lowL_length] at h1
    rw [lowL_get, lowL_get, Nat.testBit_mod_two_pow]
    simp; omega

/-- a writer's bits -/
def WSt.bits (s : WSt) : List Bool := (s.L.flatMap fun c => lowL c.toNat 8) ++ lowL s.a s.m

theorem put_is {s : WSt} {n k : Nat} (hn : n < 2 ^ k) : (s.put n k).bits = s.bits ++ lowL n k := by
  unfold WSt.put
  have h0 : lowL (s.a * 2 ^ k + n) (s.m + k) = lowL s.a s.m ++ lowL n k := lowL_split _ hn
  by_cases hc : 8 ≤ s.m + k
  · rw [if_pos hc]
    obtain ⟨t, ht⟩ : ∃ t, t = s.m + k - 8 := ⟨_, rfl⟩
    obtain ⟨x, hx⟩ : ∃ x, x = s.a * 2 ^ k + n := ⟨_, rfl⟩
    rw [← ht, ← hx]
    rw [← hx] at h0
    unfold WSt.bits
    simp only [List.flatMap_append, List.flatMap_singleton]
    have e1 : (byt (x / 2 ^ t)).toNat = x / 2 ^ t % 2 ^ 8 := by unfold byt; rw [UInt8.toNat_ofNat']
    have e2 : lowL x (s.m + k) = lowL (x / 2 ^ t) 8 ++ lowL (x % 2 ^ t) t := by
      have := lowL_split (a := x / 2 ^ t) (n := x % 2 ^ t) (k := t) 8 (Nat.mod_lt _ (Nat.two_pow_pos _))
      rw [Nat.mul_comm, Nat.div_add_mod] at this
      rw [← this]; congr 1; omega
    rw [e1, lowL_mod, List.append_assoc, ← e2, h0, List.append_assoc]
  · rw [if_neg hc]
    unfold WSt.bits
    simp only
    rw [h0, List.append_assoc]

theorem all_is : ∀ (k : Nat) (s : WSt) (n : Nat), (s.all n k).bits = s.bits ++ lowL n k := by
  intro k
  induction k using Nat.strongRecOn with
  | ind k ih =>
    intro s n
    by_cases hc : 8 < k
    · rw [all_big hc, ih (k - 8) (by omega), put_is (n := n / 2 ^ (k - 8) % 256) (k := 8) (Nat.mod_lt _ (by decide)), List.append_assoc]
      congr 1
      have := lowL_split (a := n / 2 ^ (k - 8)) (n := n % 2 ^ (k - 8)) (k := k - 8) 8 (Nat.mod_lt _ (Nat.two_pow_pos _))
      rw [Nat.mul_comm, Nat.div_add_mod, lowL_mod, show 8 + (k - 8) = k by omega] at this
      rw [this]
      congr 1
      exact lowL_mod _ 8
    · rw [all_small hc, put_is (Nat.mod_lt _ (Nat.two_pow_pos _)), lowL_mod]

theorem low_ones : lowL 16777215 24 = List.replicate 24 true := by decide
set_option maxRecDepth 100000 in
theorem low_unary : ∀ q : Fin 24, lowL ((2 ^ q.val - 1) * 2) (q.val + 1) = List.replicate q.val true ++ [false] := by decide

theorem rice_is (s : WSt) (n k : Nat) : (s.rice n k).bits = s.bits ++ codeL n k := by
  unfold WSt.rice codeL
  by_cases hq : 24 ≤ n / 2 ^ k
  · rw [if_pos hq, if_pos hq, all_is, all_is, low_ones, List.append_assoc]
  · rw [if_neg hq, if_neg hq, all_is, all_is, lowL_mod]
    have := low_unary ⟨n / 2 ^ k, by omega⟩
    simp only at this
    rw [this, List.append_assoc]
end Go.Proofs.Ytmafdbdmmfpeeaa

/-! BitPlain -/
namespace Go.Proofs.Ytmafdbdmmfpeeaa
open Go

/-- a number of bits, the highest one first -/
def numB (l : List Bool) : Nat := l.foldl (fun n b => 2 * n + b.toNat) 0
theorem numB_nil : numB [] = 0 := rfl
theorem numB_snoc (l : List Bool) (b : Bool) : numB (l ++ [b]) = 2 * numB l + b.toNat := by simp [numB]
theorem fold_acc : ∀ (m : List Bool) (a : Nat), m.foldl (fun n b => 2 * n + b.toNat) a = a * 2 ^ m.length + numB m := by
  intro m
  induction m with
  | nil => intro a; simp [numB]
  | cons b m ih =>
    intro a
    have h0 := ih (2 * 0 + b.toNat)
    unfold numB
    rw [List.foldl_cons, List.foldl_cons, ih, h0, List.length_cons, Nat.pow_succ]
    generalize numB m = z; generalize 2 ^ m.length = y
    rw [Nat.add_mul, Nat.add_mul, Nat.mul_comm 2 a, Nat.mul_assoc a, Nat.mul_comm 2 y]; omega
theorem numB_append (l m : List Bool) : numB (l ++ m) = numB l * 2 ^ m.length + numB m := by
  unfold numB
  rw [List.foldl_append, fold_acc]
  rfl
theorem numB_lt : ∀ (l : List Bool), numB l < 2 ^ l.length := by
  intro l
  induction l with
  | nil => simp [numB_nil]
  | cons b m ih =>
    have h := numB_append [b] m
    simp only [List.singleton_append] at h
    have hb : numB [b] ≤ 1 := by cases b <;> decide
    have hb2 : numB [b] * 2 ^ m.length ≤ 1 * 2 ^ m.length := Nat.mul_le_mul_right _ hb
    rw [h, List.length_cons, Nat.pow_succ]
    omega
theorem numB_cons (b : Bool) (l : List Bool) : numB (b :: l) = b.toNat * 2 ^ l.length + numB l := by
  have := numB_append [b] l
  simp only [List.singleton_append] at this
  rw [this]; congr 1; cases b <;> rfl
theorem numB_ones (q : Nat) : numB (List.replicate q true) = 2 ^ q - 1 := by
  induction q with
  | zero => rfl
  | succ q ih =>
    rw [List.replicate_succ, numB_cons, ih, List.length_replicate, Nat.pow_succ]
    have := Nat.two_pow_pos q
    simp; omega
theorem numB_zero {l : List Bool} : numB l = 0 ↔ ∀ b ∈ l, b = false := by
  induction l with
  | nil => simp [numB_nil]
  | cons b l ih =>
    rw [numB_cons]
    have := Nat.two_pow_pos l.length
    cases b
    · simp only [Bool.toNat_false, Nat.zero_mul, Nat.zero_add, ih, List.mem_cons, forall_eq_or_imp, true_and]
    · simp
theorem lowL_succ (n k : Nat) : lowL n (k + 1) = n.testBit k :: lowL n k := by
  unfold lowL
  rw [List.range_succ_eq_map, List.map_cons, List.map_map]
  congr 1
  apply List.map_congr_left
  intro i _
  simp only [Function.comp]
  congr 1; omega
theorem numB_low (n : Nat) : ∀ k, numB (lowL n k) = n % 2 ^ k := by
  intro k
  induction k with
  | zero => simp [lowL, numB_nil, Nat.mod_one]
  | succ k ih =>
    rw [lowL_succ, numB_cons, ih, lowL_length, Nat.mod_pow_succ, Nat.toNat_testBit, Nat.mul_comm, Nat.add_comm]

/-- the bits of bytes -/
def bitsOf (L : List UInt8) : List Bool := L.flatMap fun c => lowL c.toNat 8
theorem bitsOf_length (L : List UInt8) : (bitsOf L).length = 8 * L.length := by
  unfold bitsOf
  induction L with
  | nil => rfl
  | cons c L ih => rw [List.flatMap_cons, List.length_append, ih, lowL_length, List.length_cons]; omega
theorem bitsOf_cons (c : UInt8) (L : List UInt8) : bitsOf (c :: L) = lowL c.toNat 8 ++ bitsOf L := rfl
theorem bitsOf_append (L M : List UInt8) : bitsOf (L ++ M) = bitsOf L ++ bitsOf M := by simp [bitsOf]
theorem bitsOf_get : ∀ (L : List UInt8) (i o : Nat), o < 8 → (bitsOf L)[8 * i + o]? = (L[i]?).map fun c => c.toNat.testBit (7 - o) := by
  intro L
  induction L with
  | nil => intro i o _; simp [bitsOf]
  | cons c L ih =>
    intro i o ho
    rw [bitsOf_cons]
    cases i with
    | zero =>
      rw [Nat.mul_zero, Nat.zero_add, List.getElem?_append_left (by rw [lowL_length]; exact ho)]
      simp [lowL, ho]
    | succ i =>
      rw [List.getElem?_append_right (by rw [lowL_length]; omega), lowL_length, show 8 * (i + 1) + o - 8 = 8 * i + o by omega, ih i o ho]
      simp
theorem bitsOf_at (L : List UInt8) (j : Nat) : (bitsOf L)[j]? = (L[j / 8]?).map fun c => c.toNat.testBit (7 - j % 8) := by
  have := bitsOf_get L (j / 8) (j % 8) (Nat.mod_lt _ (by decide))
  rwa [Nat.div_add_mod] at this
theorem bitsOf_inj {L M : List UInt8} (h : bitsOf L = bitsOf M) : L = M := by
  have hl : L.length = M.length := by
    have := congrArg List.length h
    rw [bitsOf_length, bitsOf_length] at this; omega
  apply List.ext_getElem hl
  intro i h1 h2
  apply UInt8.toNat_inj.1
  apply Nat.eq_of_testBit_eq
  intro t
  by_cases ht : t < 8
  · have := congrArg (fun l => l[8 * i + (7 - t)]?) h
    simp only [bitsOf_get _ _ _ (show 7 - t < 8 by omega)] at this
    rw [List.getElem?_eq_getElem h1, List.getElem?_eq_getElem h2] at this
    have e : 7 - (7 - t) = t := by omega
    simpa [e] using this
  · have b1 : L[i].toNat < 2 ^ t := Nat.lt_of_lt_of_le (UInt8.toNat_lt _) (Nat.pow_le_pow_right (by decide) (by omega : 8 ≤ t))
    have b2 : M[i].toNat < 2 ^ t := Nat.lt_of_lt_of_le (UInt8.toNat_lt _) (Nat.pow_le_pow_right (by decide) (by omega : 8 ≤ t))
    rw [Nat.testBit_lt_two_pow b1, Nat.testBit_lt_two_pow b2]

/-- the part of a byte -/
theorem part_byte (L : List UInt8) (i o t : Nat) (hi : i < L.length) (h : o + t ≤ 8) : numB (((bitsOf L).drop (8 * i + o)).take t) = L[i].toNat / 2 ^ (8 - o - t) % 2 ^ t := by
  rw [← numB_low]
  congr 1
  apply List.ext_getElem?
  intro j
  rw [List.getElem?_take]
  by_cases hj : j < t
  · rw [if_pos hj, List.getElem?_drop, Nat.add_assoc, bitsOf_get _ _ _ (by omega), List.getElem?_eq_getElem hi, List.getElem?_eq_getElem (by rw [lowL_length]; exact hj), lowL_get, Nat.testBit_div_two_pow]
    simp only [Option.map_some]
    congr 2; omega
  · rw [if_neg hj, List.getElem?_eq_none (by rw [lowL_length]; omega)]

theorem take_add_num (l : List Bool) (j t : Nat) (h : j + t ≤ l.length) : numB (l.take (j + t)) = numB (l.take j) * 2 ^ t + numB ((l.drop j).take t) := by
  rw [List.take_add, numB_append, List.length_take, List.length_drop, Nat.min_eq_left (by omega)]

/-- how many bits 1 are at the head, m at most -/
def lead (l : List Bool) (m : Nat) : Nat := ((l.take m).takeWhile id).length
theorem lead_le (l : List Bool) (m : Nat) : lead l m ≤ m ∧ lead l m ≤ l.length := by
  have := (List.takeWhile_prefix (p := id) (l := l.take m)).length_le
  rw [List.length_take] at this
  unfold lead; omega
theorem lead_cut (l : List Bool) (m : Nat) : lead l (min m l.length) = lead l m := by
  unfold lead
  by_cases h : m ≤ l.length
  · rw [Nat.min_eq_left h]
  · rw [Nat.min_eq_right (by omega), List.take_length, List.take_of_length_le (by omega)]

/-- a number as Rice wrote it: the number, how many bits it takes, the error -/
def riceR (l : List Bool) (k : Nat) : Nat × Nat × Nat :=
  if lead l 24 < 24 then (if l.length < lead l 24 + 1 + k then (0, 0, 10) else (lead l 24 * 2 ^ k + numB ((l.drop (lead l 24 + 1)).take k), lead l 24 + 1 + k, 0))
  else if l.length < 88 then (0, 0, 10) else if numB ((l.drop 24).take 64) / 2 ^ k < 24 then (0, 0, 11) else (numB ((l.drop 24).take 64), 88, 0)
def getR (l : List Bool) (k : Nat) : Nat × Nat × Nat := if l.length < k then (0, 0, 10) else (numB (l.take k), k, 0)

theorem takeWhile_form : ∀ l : List Bool, (∃ q r, l = List.replicate q true ++ false :: r ∧ (l.takeWhile id).length = q) ∨ (l = List.replicate l.length true ∧ (l.takeWhile id).length = l.length) := by
  intro l
  induction l with
  | nil => right; simp
  | cons b l ih =>
    cases b
    · left; exact ⟨0, l, by simp, by simp⟩
    · rcases ih with ⟨q, r, h1, h2⟩ | ⟨h1, h2⟩
      · left; exact ⟨q + 1, r, by rw [List.replicate_succ, List.cons_append, ← h1], by simpa using h2⟩
      · right; exact ⟨by rw [List.length_cons, List.replicate_succ, ← h1], by simpa using h2⟩
theorem lead_ones (q : Nat) (r : List Bool) (m : Nat) (h : q < m) : lead (List.replicate q true ++ false :: r) m = q := by
  unfold lead
  rw [List.take_append, List.length_replicate, List.take_of_length_le (by rw [List.length_replicate]; omega)]
  obtain ⟨j, hj⟩ : ∃ j, m - q = j + 1 := ⟨m - q - 1, by omega⟩
  rw [hj, List.take_succ_cons, List.takeWhile_append_of_pos (by simp)]
  simp
theorem lead_full (r : List Bool) (m : Nat) : lead (List.replicate m true ++ r) m = m := by
  unfold lead
  rw [List.take_append, List.length_replicate, List.take_of_length_le (by rw [List.length_replicate]; omega), Nat.sub_self, List.take_zero, List.append_nil]
  rw [List.takeWhile_replicate]; simp

theorem rice_back {n k : Nat} (hn : n < 18446744073709551616) (r : List Bool) : riceR (codeL n k ++ r) k = (n, costOne n k, 0) := by
  unfold riceR
  by_cases hq : 24 ≤ n / 2 ^ k
  · have e : codeL n k = List.replicate 24 true ++ lowL n 64 := by unfold codeL; rw [if_pos hq]
    rw [e, List.append_assoc, lead_full, if_neg (by omega)]
    have hlen : ¬ (List.replicate 24 true ++ (lowL n 64 ++ r)).length < 88 := by simp [lowL_length] <;> omega
    rw [if_neg hlen]
    have h1 : ((List.replicate 24 true ++ (lowL n 64 ++ r)).drop 24).take 64 = lowL n 64 := by
      rw [List.drop_left' (by simp), List.take_left' (lowL_length _ _)]
    rw [h1, numB_low, Nat.mod_eq_of_lt hn, if_neg (by omega), costOne_big (by omega)]
  · obtain ⟨q, hqd⟩ : ∃ q, q = n / 2 ^ k := ⟨_, rfl⟩
    have e : codeL n k = List.replicate q true ++ [false] ++ lowL n k := by unfold codeL; rw [if_neg hq, hqd]
    rw [← hqd] at hq
    have e2 : codeL n k ++ r = List.replicate q true ++ false :: (lowL n k ++ r) := by rw [e]; simp
    rw [e2, lead_ones q _ 24 (by omega), if_pos (by omega)]
    have hlen : ¬ (List.replicate q true ++ false :: (lowL n k ++ r)).length < q + 1 + k := by simp [lowL_length] <;> omega
    rw [if_neg hlen]
    have h1 : ((List.replicate q true ++ false :: (lowL n k ++ r)).drop (q + 1)).take k = lowL n k := by
      have : List.replicate q true ++ false :: (lowL n k ++ r) = (List.replicate q true ++ [false]) ++ (lowL n k ++ r) := by simp
      rw [this, List.drop_left' (by simp), List.take_left' (lowL_length _ _)]
    rw [h1, numB_low, costOne_small (by omega), ← hqd]
    congr 1
    rw [hqd, Nat.mul_comm]; exact Nat.div_add_mod n (2 ^ k)
theorem get_back {n k : Nat} (hn : n < 2 ^ k) (r : List Bool) : getR (lowL n k ++ r) k = (n, k, 0) := by
  unfold getR
  rw [if_neg (by simp [lowL_length]), List.take_left' (lowL_length _ _), numB_low, Nat.mod_eq_of_lt hn]

theorem bitLen_le_iff {x k : Nat} (hx : x < 2 ^ 64) (hk : k ≤ 64) : Lib.bitLen x ≤ k ↔ x < 2 ^ k := by
  constructor
  · intro h
    apply Classical.byContradiction
    intro h1
    have h2 := Lib.bitLen_shift k x (by omega) hx
    have h3 : x / 2 ^ k ≠ 0 := by
      have := (Nat.le_div_iff_mul_le (Nat.two_pow_pos k)).2 (by rw [Nat.one_mul]; omega : 1 * 2 ^ k ≤ x)
      omega
    have h4 := Lib.bitLen_half (x / 2 ^ k) h3 (Nat.lt_of_le_of_lt (Nat.div_le_self _ _) hx)
    omega
  · exact Lib.bitLen_le x k hk
theorem bitLen_is {x k : Nat} (hx : x < 2 ^ 64) (hk : k ≤ 64) (h1 : x < 2 ^ k) (h2 : 0 < k → 2 ^ (k - 1) ≤ x) : Lib.bitLen x = k := by
  have a := (bitLen_le_iff hx hk).2 h1
  by_cases h : k = 0
  · omega
  · have b := mt (bitLen_le_iff (k := k - 1) hx (by omega)).1 (by have := h2 (by omega); omega)
    omega

/-- the bits 1 at the head, as the program counts them -/
theorem lz_lead (l : List Bool) (h : l.length ≤ 24) : Lib.bitLen (18446744073709551615 - numB l * 2 ^ (64 - l.length)) = 64 - (l.takeWhile id).length := by
  rcases takeWhile_form l with ⟨q, r, h1, h2⟩ | ⟨h1, h2⟩
  · rw [h2]
    have hl : l.length = q + 1 + r.length := by rw [h1]; simp; omega
    have hr := numB_lt r
    have hn : numB l = (2 ^ q - 1) * 2 ^ (1 + r.length) + numB r := by
      rw [h1, numB_append, numB_ones, numB_cons]
      simp [Nat.add_comm]
    have e64 : 2 ^ q * (2 * 2 ^ r.length) * 2 ^ (64 - l.length) = 18446744073709551616 := by
      rw [← Nat.pow_succ', ← Nat.pow_add, ← Nat.pow_add, show q + (r.length + 1) + (64 - l.length) = 64 by omega]
    have e63 : 2 ^ (64 - q) = 2 * 2 ^ r.length * 2 ^ (64 - l.length) := by
      rw [← Nat.pow_succ', ← Nat.pow_add]; congr 1; omega
    have e62 : 2 ^ (64 - q - 1) = 2 ^ r.length * 2 ^ (64 - l.length) := by
      rw [← Nat.pow_add]; congr 1; omega
    rw [hn]
    have hA := Nat.two_pow_pos q
    have hC := Nat.two_pow_pos (64 - l.length)
    rw [show 1 + r.length = r.length + 1 by omega, Nat.pow_succ']
    generalize numB r = x at *
    generalize 2 ^ r.length = B at *
    generalize 2 ^ (64 - l.length) = C at *
    generalize 2 ^ q = A at *
    have hX : ((A - 1) * (2 * B) + x) * C + (2 * B * C) = 18446744073709551616 + x * C := by
      obtain ⟨A', rfl⟩ : ∃ A', A = A' + 1 := ⟨A - 1, by omega⟩
      rw [← e64, Nat.add_sub_cancel]
      simp only [Nat.add_mul, Nat.one_mul]
      omega
    have hxC : x * C + C ≤ B * C := by
      have := Nat.mul_le_mul_right C (show x + 1 ≤ B by omega)
      rwa [Nat.add_mul, Nat.one_mul] at this
    have hBC : 2 * B * C = B * C + B * C := by rw [Nat.mul_assoc]; omega
    apply bitLen_is (by omega) (by omega)
    · rw [e63]; omega
    · intro _; rw [e62]; omega
  · rw [h2]
    obtain ⟨h', hh⟩ : ∃ h', h' = l.length := ⟨_, rfl⟩
    rw [h1, numB_ones, List.length_replicate]
    rw [← hh] at h ⊢
    have e64 : 2 ^ h' * 2 ^ (64 - h') = 18446744073709551616 := by
      rw [← Nat.pow_add, show h' + (64 - h') = 64 by omega]
    have hp := Nat.two_pow_pos h'
    have hp2 := Nat.two_pow_pos (64 - h')
    have hX : (2 ^ h' - 1) * 2 ^ (64 - h') = 18446744073709551616 - 2 ^ (64 - h') := by rw [Nat.sub_mul, e64, Nat.one_mul]
    have e63 : 2 ^ (64 - h') = 2 * 2 ^ (64 - h' - 1) := by rw [← Nat.pow_succ']; congr 1; omega
    rw [hX]
    have hle : 2 ^ (64 - h') ≤ 18446744073709551616 := by rw [← e64]; exact Nat.le_mul_of_pos_left _ hp
    apply bitLen_is (by omega) (by omega)
    · omega
    · intro _; omega

/-! what a writer has, as bytes -/
def WSt.out (s : WSt) : List UInt8 := if s.m = 0 then s.L else s.L ++ [byt (s.a * 2 ^ (8 - s.m))]
def pad (m : Nat) : Nat := if m = 0 then 0 else 8 - m
theorem low_pad {a m : Nat} (hm : m ≤ 8) : lowL (a * 2 ^ (8 - m)) 8 = lowL a m ++ List.replicate (8 - m) false := by
  have h := lowL_split (a := a) (n := 0) (k := 8 - m) m (Nat.two_pow_pos _)
  rw [Nat.add_zero, show m + (8 - m) = 8 by omega] at h
  rw [h]
  congr 1
  apply List.ext_getElem
  · simp [lowL_length]
  · intro i h1 h2; rw [lowL_get]; simp
theorem out_bits {s : WSt} (h : s.m < 8) : bitsOf s.out = s.bits ++ List.replicate (pad s.m) false := by
  unfold WSt.out pad WSt.bits
  by_cases hm : s.m = 0
  · rw [if_pos hm, if_pos hm, hm]; simp [lowL, bitsOf]
  · rw [if_neg hm, if_neg hm, bitsOf_append]
    have e : bitsOf [byt (s.a * 2 ^ (8 - s.m))] = lowL (s.a * 2 ^ (8 - s.m)) 8 := by
      rw [bitsOf_cons]
      unfold byt
      rw [UInt8.toNat_ofNat']
      rw [lowL_mod _ 8]; simp [bitsOf]
    rw [e, low_pad (by omega), List.append_assoc]; rfl
theorem bits_len (s : WSt) : s.bits.length = 8 * s.L.length + s.m := by
  have h := bitsOf_length s.L
  unfold bitsOf at h
  unfold WSt.bits
  rw [List.length_append, lowL_length, h]

set_option maxRecDepth 100000 in
theorem set_byte : ∀ (c : Fin 256) (o : Fin 8), c.val.testBit (7 - o.val) = false → c.val + 2 ^ (7 - o.val) < 256 ∧ lowL (c.val + 2 ^ (7 - o.val)) 8 = (lowL c.val 8).set o.val true := by decide +kernel
/-- a bit 1 is put into bytes -/
theorem set_bit : ∀ (L : List UInt8) (i o : Nat) (_ : o < 8) (hi : i < L.length), L[i].toNat.testBit (7 - o) = false →
    L[i].toNat + 2 ^ (7 - o) < 256 ∧ bitsOf (L.set i (byt (L[i].toNat + 2 ^ (7 - o)))) = (bitsOf L).set (8 * i + o) true := by
  intro L
  induction L with
  | nil => intro i o ho hi; exact absurd hi (by simp)
  | cons c L ih =>
    intro i o ho hi hb
    cases i with
    | zero =>
      obtain ⟨h1, h2⟩ := set_byte ⟨c.toNat, UInt8.toNat_lt c⟩ ⟨o, ho⟩ hb
      simp only at h1 h2
      refine ⟨h1, ?_⟩
      simp only [List.getElem_cons_zero, List.set_cons_zero]
      rw [bitsOf_cons, bitsOf_cons, u8_lt _ h1, h2, List.set_append_left _ _ (by rw [lowL_length]; omega)]
      simp
    | succ i =>
      obtain ⟨h1, h2⟩ := ih i o ho (by simpa using hi) hb
      refine ⟨h1, ?_⟩
      simp only [List.getElem_cons_succ, List.set_cons_succ]
      rw [bitsOf_cons, bitsOf_cons, List.set_append_right _ _ (by rw [lowL_length]; omega), lowL_length, h2]
      congr 2; omega
end Go.Proofs.Ytmafdbdmmfpeeaa

/-! VPutN -/
namespace Go.Proofs.Ytmafdbdmmfpeeaa
open Go Go.RowKit

set_option maxRecDepth 100000 in
theorem rice_no (b n : Nat) (k : Int) (w : World) (hk : k < 0 ∨ 40 < k) :
    Calls Try.prog 42 #[.pointer (some ⟨b, 0, none⟩), .int .u64 n, .int .i64 k] w fun e w' => e = .returned (.int .i64 1) ∧ w = w' := by
  have hc : decide (k < 0) = true ∨ (decide (k < 0) = false ∧ decide (40 < k) = true) := by
    simp only [decide_eq_true_eq, decide_eq_false_iff_not]; omega
  clear hk
  rcases hc with h1 | ⟨h1, h2⟩
  all_goals
    go_enter Try.func42, Try.ntmps42
    go_wp2_with fail
    go_ret
    exact ⟨rfl, rfl⟩
end Go.Proofs.Ytmafdbdmmfpeeaa

/-! VLen -/
namespace Go.Proofs.Ytmafdbdmmfpeeaa
open Go Go.RowKit

def WSt.len (s : WSt) : Nat := 8 * s.L.length + s.m
theorem put_bits (s : WSt) (n k : Nat) : (s.put n k).len = s.len + k := by
  unfold WSt.put WSt.len
  split <;> simp <;> omega
theorem all_bits : ∀ (k : Nat) (s : WSt) (n : Nat), (s.all n k).len = s.len + k := by
  intro k
  induction k using Nat.strongRecOn with
  | ind k ih =>
    intro s n
    by_cases hc : 8 < k
    · rw [all_big hc, ih (k - 8) (by omega), put_bits]; omega
    · rw [all_small hc, put_bits]
theorem rice_bits (s : WSt) (n k : Nat) : (s.rice n k).len = s.len + costOne n k := by
  unfold WSt.rice costOne
  by_cases hq : 24 ≤ n / 2 ^ k
  · rw [if_pos hq, if_neg (by omega), all_bits, all_bits]
  · rw [if_neg hq, if_pos (by omega), all_bits, all_bits]; omega

/-- a writer's own block -/
def WBlk (b : Nat) (n a m : Nat) (w : World) : Prop := ∃ p A c, w.heap[b]? = some (.cells #[p, .slice A n c, .int .u64 a, .int .i64 m] 109 (0, 0))
theorem WrOf.blk {R : Nat → Prop} {b : Nat} {s : WSt} {w : World} (h : WrOf R b s w) : WBlk b s.L.length s.a s.m w := by
  obtain ⟨_, _, p, v, _, hh, ho⟩ := h
  obtain ⟨A, c, rfl⟩ := ho.form
  exact ⟨p, A, c, hh⟩
theorem WBlk.later {b n a m : Nat} {w w' : World} (h : WBlk b n a m w) (hb : w'.heap[b]? = w.heap[b]?) : WBlk b n a m w' := by
  obtain ⟨p, A, c, hh⟩ := h
  exact ⟨p, A, c, hb.trans hh⟩

def Same (w w' : World) : Prop := Stays (fun _ => True) w w'
theorem Same.refl (w : World) : Same w w := Stays.refl _ _
theorem Same.drew (w : World) : Same w w.drew := (Stays.refl _ _).drewr
theorem Same.stays {w w' : World} (h : Same w w') (R : Nat → Prop) : Stays R w w' := Stays.mono h fun _ _ => trivial

theorem new_any (w : World) :
    Calls Try.prog 41 #[] w fun e w' => e = .returned (.pointer (some ⟨w.heap.size, 0, none⟩)) ∧ w' = w.alloc (.cells #[.pointer none, .slice none 0 0, .int .u64 0, .int .i64 0] 109) := by
  go_enter Try.func41, Try.ntmps41
  go_wp2_with fail
  go_ret
  exact ⟨rfl, rfl⟩

def WSt.none : WSt := ⟨[], 0, 0⟩
theorem none_ok : WSt.none.ok := by unfold WSt.ok WSt.none; decide
theorem new_wr {R : Nat → Prop} {b : Nat} {w : World} (hh : w.heap[b]? = some (.cells #[.pointer none, .slice none 0 0, .int .u64 0, .int .i64 0] 109 (0, 0))) (hb : R b) : WrOf R b WSt.none w :=
  fresh_later (tl := [.int .u64 0, .int .i64 0]) hh fits_writer hb
theorem rice_ok {s : WSt} {n k : Nat} (h : s.ok) (hk : k ≤ 40) : (s.rice n k).ok ∧ (s.rice n k).L.length ≤ s.L.length + 20 := by
  unfold WSt.rice
  by_cases hq : 24 ≤ n / 2 ^ k
  · rw [if_pos hq]
    obtain ⟨h1, l1⟩ := all_ok 24 s 16777215 h
    obtain ⟨h2, l2⟩ := all_ok 64 _ n h1
    exact ⟨h2, by omega⟩
  · rw [if_neg hq]
    obtain ⟨h1, l1⟩ := all_ok (n / 2 ^ k + 1) s ((2 ^ (n / 2 ^ k) - 1) * 2) h
    obtain ⟨h2, l2⟩ := all_ok k _ (n % 2 ^ k) h1
    exact ⟨h2, by omega⟩
end Go.Proofs.Ytmafdbdmmfpeeaa
