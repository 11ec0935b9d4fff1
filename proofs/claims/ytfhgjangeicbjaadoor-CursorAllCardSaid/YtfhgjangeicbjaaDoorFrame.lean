/-
  The walks of Frame.
-/
import Derived.Test.YtfhgjangeicbjaaDoorCrc
import Derived.Test.YtfhgjangeicbjaaDoorZigRead
namespace Go.Proofs.YtfhgjangeicbjaaDoor
open Go Go.RowKit

/-- the bytes of a frame -/
def sumBytes (l : List UInt8) : List UInt8 := [byt (crc l / 256), byt (crc l % 256)]
def frame (l : List UInt8) : List UInt8 := text l ++ sumBytes l

theorem text_le {l : List UInt8} (h : l.length < 1099511627776) : (text l).length ≤ l.length + 10 := by
  rw [text, List.length_append]; have := uint_len_ten (n := l.length) (by omega); omega

set_option maxRecDepth 100000 in
set_option maxHeartbeats 1000000 in
theorem frame_any (s : ByteArray) (w : World) (ht : Tab w) (hs : s.size < 1099511627776) :
    Calls Tryd.prog 16 #[.string s] w fun e w' => e = .returned (.string (S (frame s.data.toList))) ∧ Below w.heap.size w w' := by
  have hc := crc_lt s.data.toList
  have C := Lib.hid (crc_any s w ht hs)
  have T := Lib.hid (fun w => text_any s w hs)
  have Hf : Hid (frame s.data.toList = text s.data.toList ++ [byt (crc s.data.toList / 256), byt (crc s.data.toList % 256)]) := rfl
  have hsz : (S (text s.data.toList)).size ≤ s.size + 10 := by rw [S_size, Lib.size_eq]; exact text_le (by rw [← Lib.size_eq]; exact hs)
  clear ht
  generalize crc s.data.toList = c at *
  have hcv := run_two_at (P := Tryd.prog) (src := 38) (dst := 9) (IntKind.u8.wrap ((c : Int) / 256)) (IntKind.u8.wrap (c : Int)) (byt (c / 256)) (byt (c % 256)) (by rw [u8_lt _ (by omega), IntKind.wrap_u8]; omega) (by rw [u8_lt _ (by omega), IntKind.wrap_u8]; omega) Tryd.underlying38 Tryd.underlying5 Tryd.underlying9
  have hs2 : (S [byt (c / 256), byt (c % 256)]).size = 2 := by rw [S_size]; rfl
  go_enter Tryd.func16, Tryd.ntmps16
  go_wp2_with fail
  refine C.out.mono ?_
  rintro e w1 ⟨rfl, hb1⟩
  go_wp2_with fail
  go_region_with (go_at_call 17; refine (T.out _).mono ?_; rintro e w2 ⟨rfl, hb2⟩; obtain ⟨hbc, _⟩ := bcell hb2)
  all_goals go_wp2_with fail
  all_goals go_ret
  all_goals refine ⟨ret_str (by rw [Hf.out, ← S_append]), ?_⟩
  all_goals first | exact hb1.then (hb2.drewl.then (Below.one _ _)) | exact hb1.then hb2.drewl.allocl

set_option maxRecDepth 100000 in
set_option maxHeartbeats 1000000 in
theorem rframe_any (s : ByteArray) (w : World) (hs : s.size < 1099511627776) :
    Calls Tryd.prog 21 #[.string s] w fun e w' => e = .returned (.string (S (frame s.data.toList))) ∧ Below w.heap.size w w' := by
  have hc := crc_lt s.data.toList
  have C := Lib.hid (rcrc_any s w hs)
  have T := Lib.hid (fun w => rtext_any s w hs)
  have Hf : Hid (frame s.data.toList = text s.data.toList ++ [byt (crc s.data.toList / 256), byt (crc s.data.toList % 256)]) := rfl
  have hsz : (S (text s.data.toList)).size ≤ s.size + 10 := by rw [S_size, Lib.size_eq]; exact text_le (by rw [← Lib.size_eq]; exact hs)
  generalize crc s.data.toList = c at *
  have hcv := run_two_at (P := Tryd.prog) (src := 38) (dst := 9) (IntKind.u8.wrap ((c : Int) / 256)) (IntKind.u8.wrap ((c : Int) % 256)) (byt (c / 256)) (byt (c % 256)) (by rw [u8_lt _ (by omega), IntKind.wrap_u8]; omega) (by rw [u8_lt _ (by omega), IntKind.wrap_u8]; omega) Tryd.underlying38 Tryd.underlying5 Tryd.underlying9
  have hs2 : (S [byt (c / 256), byt (c % 256)]).size = 2 := by rw [S_size]; rfl
  have hq : IntKind.i64.wrap ((c : Int) / 256) = (c : Int) / 256 := IntWalk.i64_in _ (by omega)
  have hr : (c : Int).tmod 256 = (c : Int) % 256 := IntWalk.rem_in _ _ (by omega)
  go_enter Tryd.func21, Tryd.ntmps21
  go_wp2_with fail
  refine C.out.mono ?_
  rintro e w1 ⟨rfl, rfl⟩
  go_wp2_with fail
  go_region_with (go_at_call 22; refine (T.out _).mono ?_; rintro e w2 ⟨rfl, hb2⟩; obtain ⟨hbc, _⟩ := bcell hb2)
  all_goals go_wp2_with fail
  all_goals go_ret
  all_goals refine ⟨ret_str (by rw [Hf.out, ← S_append]), ?_⟩
  all_goals first | exact hb2.drewl.then (Below.one _ _) | exact hb2.drewl.allocl
end Go.Proofs.YtfhgjangeicbjaaDoor
