/-
  The walk of the law 'FrameScans'.
-/
import Derived.Test.YtgfchhbekbmlcaaDoorSame
namespace Go.Proofs.YtgfchhbekbmlcaaDoor
open Go Go.RowKit Go.Deep Go.ChangeShapes Go.WideShapes

set_option maxRecDepth 100000 in
set_option maxHeartbeats 1000000 in
theorem frameScans_walk (s : ByteArray) (w : World) (_hs : s.size ≤ maxLen) (ht : Tab w) :
    Calls Tryd.prog 5 #[.string s] w fun e w' => e = .returned (.bool true) ∧ Below w.heap.size w w' := by
  clear _hs
  have Ht := Lib.hid ht
  clear ht
  by_cases hs : 2048 < s.size
  · go_enter Tryd.func5, Tryd.ntmps5
    go_wp2_with fail
    go_ret
    exact ⟨rfl, Below.refl _ _⟩
  · have hz : s.size < 1099511627776 := by omega
    have C0 := Lib.hid (fun w ht => frame_any ⟨#[]⟩ w ht (by decide))
    have hf := frame_nil_len
    go_enter Tryd.func5, Tryd.ntmps5
    go_wp2_with fail
    refine (scan_any s _ Ht.out hz).mono ?_
    rintro e w1 ⟨A, ca, ts, rfl, hts, hr1, hb1⟩
    have Hr1 := Lib.hid hr1
    have Hts := Lib.hid hts
    clear hr1 hts
    go_wp2_with fail
    refine (rscan_any s _ hz).mono ?_
    rintro e w2 ⟨B, cb, us, rfl, hus, hr2, hb2⟩
    have heq : us = ts := scanned_inj us ts _ (by rw [← Lib.size_eq]; omega) hus Hts.out
    have hl : ts.length ≤ 1099511627776 := by have := scanned_len Hts.out; rw [← Lib.size_eq] at this; omega
    subst heq
    have Hr2 := Lib.hid hr2
    have Hr1' := Lib.hid (Hr1.out.below hb2)
    clear hus hr2
    go_wp2_with fail
    refine (same_any A B ca cb us us _ Hr1'.out Hr2.out hl).mono ?_
    rintro e w3 ⟨rfl, hb3⟩
    rw [decide_eq_true rfl]
    go_wp2_with fail
    refine (C0.out _ (((Ht.out.below hb1).below hb2).below hb3)).mono ?_
    rintro e w4 ⟨rfl, hb4⟩
    go_wp2_with fail
    go_ret
    exact ⟨rfl, hb1.then (hb2.then (hb3.then hb4))⟩
end Go.Proofs.YtgfchhbekbmlcaaDoor
