/-
  The walks of the laws 'FrameSums' and 'FrameApart'.
-/
import Derived.Test.YtgfchhbekbmlcaaDoorFrame
namespace Go.Proofs.YtgfchhbekbmlcaaDoor
open Go Go.RowKit

theorem frameSums_walk (s : ByteArray) (w : World) (_hs : s.size ≤ maxLen) (ht : Tab w) :
    Calls Tryd.prog 3 #[.string s] w fun e w' => e = .returned (.bool true) ∧ Below w.heap.size w w' := by
  clear _hs
  have Ht := Lib.hid ht
  clear ht
  by_cases hs : 2048 < s.size
  · go_enter Tryd.func3, Tryd.ntmps3
    go_wp2_with fail
    go_ret
    exact ⟨rfl, Below.refl _ _⟩
  · have hz : s.size < 1099511627776 := by omega
    go_enter Tryd.func3, Tryd.ntmps3
    go_wp2_with fail
    refine (crc_any s _ Ht.out hz).mono ?_
    rintro e w1 ⟨rfl, hb1⟩
    go_wp2_with fail
    refine (rcrc_any s _ hz).mono ?_
    rintro e w2 ⟨rfl, rfl⟩
    go_wp2_with fail
    refine (frame_any s _ (Ht.out.below hb1) hz).mono ?_
    rintro e w3 ⟨rfl, hb3⟩
    go_wp2_with fail
    refine (rframe_any s _ hz).mono ?_
    rintro e w4 ⟨rfl, hb4⟩
    go_wp2_with fail
    go_ret
    exact ⟨rfl, hb1.then (hb3.then hb4)⟩
theorem frame_inj {a b : List UInt8} (ha : a.length < 18446744073709551616) (hb : b.length < 18446744073709551616) (h : frame a = frame b) : a = b := by
  unfold frame text at h
  rw [List.append_assoc, List.append_assoc] at h
  obtain ⟨h1, h2⟩ := uint_append_inj ha hb h
  have := congrArg (List.take a.length) h2
  rw [List.take_left, h1, List.take_left] at this
  exact this
theorem frame_length {a : List UInt8} : (frame a).length = (uint a.length).length + a.length + 2 := by simp [frame, text, sumBytes]; omega
theorem uint_one {n : Nat} (h : n ≤ 127) : (uint n).length = 1 := by rw [uint_small (by omega)]; rfl
theorem uint_two {n : Nat} (h : 127 < n) (h' : n < 16384) : (uint n).length = 2 := by rw [uint_big (by omega), uint_small (by omega)]; rfl

set_option maxRecDepth 100000 in
theorem frameApart_walk (a b : ByteArray) (w : World) (_ha : a.size ≤ maxLen) (_hb : b.size ≤ maxLen) (ht : Tab w) :
    Calls Tryd.prog 4 #[.string a, .string b] w fun e w' => e = .returned (.bool true) ∧ Below w.heap.size w w' := by
  clear _ha _hb
  have Ht := Lib.hid ht
  clear ht
  by_cases ha : 2048 < a.size
  · go_enter Tryd.func4, Tryd.ntmps4
    go_wp2_with fail
    go_ret
    exact ⟨rfl, Below.refl _ _⟩
  by_cases hb : 2048 < b.size
  · go_enter Tryd.func4, Tryd.ntmps4
    go_wp2_with fail
    go_ret
    exact ⟨rfl, Below.refl _ _⟩
  have hz : a.size < 1099511627776 := by omega
  have hz' : b.size < 1099511627776 := by omega
  have FA := Lib.hid (fun w ht => frame_any a w ht hz)
  have FB := Lib.hid (fun w ht => frame_any b w ht hz')
  have RA := Lib.hid (fun w => rframe_any a w hz)
  have hal : a.data.toList.length = a.size := by rw [Lib.size_eq]
  have hbl : b.data.toList.length = b.size := by rw [Lib.size_eq]
  have hl : (S (frame a.data.toList)).size = (uint a.size).length + a.size + 2 := by rw [S_size, frame_length, hal]
  have heq : ((S (frame a.data.toList)).toList == (S (frame b.data.toList)).toList) = (a.toList == b.toList) := by
    rw [Lib.toList_data, Lib.toList_data, Lib.toList_data, Lib.toList_data, S_toList, S_toList]
    by_cases e : a.data.toList = b.data.toList
    · rw [e]; simp
    · rw [beq_eq_false_iff_ne.2 e]
      exact beq_eq_false_iff_ne.2 fun e' => e (frame_inj (by omega) (by omega) e')
  have hrr : ((a.toList == b.toList) == (a.toList == b.toList)) = true := by simp
  clear hal hbl
  by_cases h127 : 127 < a.size
  · rw [uint_two h127 (by omega)] at hl
    have hl' : (S (frame a.data.toList)).size = a.size + 3 + 1 := by omega
    clear hl
    go_enter Tryd.func4, Tryd.ntmps4
    go_wp2_with fail
    refine (FA.out _ Ht.out).mono ?_
    rintro e w1 ⟨rfl, hb1⟩
    go_wp2_with fail
    refine (FB.out _ (Ht.out.below hb1)).mono ?_
    rintro e w2 ⟨rfl, hb2⟩
    go_wp2_with fail
    refine (RA.out _).mono ?_
    rintro e w3 ⟨rfl, hb3⟩
    go_wp2_with fail
    go_ret
    exact ⟨rfl, hb1.then (hb2.then hb3)⟩
  · rw [uint_one (by omega)] at hl
    have hl' : (S (frame a.data.toList)).size = a.size + 3 := by omega
    clear hl
    go_enter Tryd.func4, Tryd.ntmps4
    go_wp2_with fail
    refine (FA.out _ Ht.out).mono ?_
    rintro e w1 ⟨rfl, hb1⟩
    go_wp2_with fail
    refine (FB.out _ (Ht.out.below hb1)).mono ?_
    rintro e w2 ⟨rfl, hb2⟩
    go_wp2_with fail
    refine (RA.out _).mono ?_
    rintro e w3 ⟨rfl, hb3⟩
    go_wp2_with fail
    go_ret
    exact ⟨rfl, hb1.then (hb2.then hb3)⟩
end Go.Proofs.YtgfchhbekbmlcaaDoor
