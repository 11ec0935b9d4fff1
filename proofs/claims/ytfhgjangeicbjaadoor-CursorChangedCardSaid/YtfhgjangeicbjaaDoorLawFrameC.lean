/-
  The walk of the law 'FrameChanged'.
-/
import Derived.Test.YtfhgjangeicbjaaDoorSame
import Derived.Test.YtfhgjangeicbjaaDoorFrameChg
namespace Go.Proofs.YtfhgjangeicbjaaDoor
open Go Go.RowKit Go.Deep Go.ChangeShapes Go.WideShapes

theorem noframe_nil : NoFrame [] := by
  intro t r h
  have := congrArg List.length h
  have h2 := frame_len_pos t
  simp only [List.length_nil, List.length_append] at this
  omega
theorem scanned_one (t : List UInt8) : Scanned (frame t) [t] := ⟨[], by simp, noframe_nil⟩
theorem scanned_none {l : List UInt8} (h : NoFrame l) : Scanned l [] := ⟨l, by simp, h⟩

/-- 'string([]byte{c})' of a byte that lies somewhere -/
theorem run_one_at {P : Program} {src dst e : TypeId} (y : Int) (c : UInt8) (hy : y = (c.toNat : Int))
    (hs : P.underlying src = some (.slice e)) (he : P.underlying e = some (.int .u8)) (hd : P.underlying dst = some .string) (w : World) (g : Nat) (h0 : w.cell? ⟨g, 0, none⟩ = some (.int .u8 y)) :
    (convert src dst (.slice (some ⟨g, 0, none⟩) 1 1)).run P w = .ok (.string (S [c])) w := by
  subst hy
  refine run_convert_bytes_back w src dst e ⟨g, 0, none⟩ 1 [c] hs he hd fun j hj => ?_
  obtain rfl : j = 0 := by simpa using hj
  exact h0

theorem changed_data (f : ByteArray) (k : Nat) (c : UInt8) (h : k < f.size) :
    (f.extract 0 k ++ S [c] ++ f.extract (k + 1) f.size).data.toList = f.data.toList.take k ++ c :: f.data.toList.drop (k + 1) := by
  have hl : f.data.toList.length = f.size := by rw [Lib.size_eq]
  have h1 : (f.extract 0 k).data.toList = f.data.toList.take k := by rw [Lib.extract_data, List.drop_zero, Nat.sub_zero]
  have h2 : (f.extract (k + 1) f.size).data.toList = f.data.toList.drop (k + 1) := by rw [Lib.extract_data, List.take_of_length_le (by rw [List.length_drop]; omega)]
  rw [ByteArray.data_append, ByteArray.data_append, Array.toList_append, Array.toList_append, S_toList, h1, h2, List.append_assoc]
  rfl

theorem changed_back {l : List UInt8} {k : Nat} (h : k < l.length) : l.take k ++ l[k] :: l.drop (k + 1) = l := by
  rw [← List.drop_eq_getElem_cons h, List.take_append_drop]

theorem changed_frame {s : List UInt8} {M : Nat} {c : UInt8} {k : Nat} (hk : k = (uint s.length).length + M) (hM : M < s.length + 2) (hl : s.length < 1099511627776) (hkf : k < (frame s).length) (hc : c ≠ (frame s)[k]) :
    NoFrame ((frame s).take k ++ c :: (frame s).drop (k + 1)) := by
  subst hk
  have e : frame s = uint s.length ++ (s ++ sumBytes s) := by rw [frame, text, List.append_assoc]
  have hx : M < (s ++ sumBytes s).length := by simp [sumBytes]; omega
  have hc' : c ≠ (s ++ sumBytes s)[M] := by
    intro h; apply hc; rw [h]
    have := congrArg (fun l => l[(uint s.length).length + M]?) e
    rw [List.getElem?_eq_getElem hkf, List.getElem?_append_right (by omega), Nat.add_sub_cancel_left, List.getElem?_eq_getElem hx] at this
    exact (Option.some.inj this).symm
  rw [e, List.take_length_add_append, Nat.add_assoc, List.drop_length_add_append, List.append_assoc]
  exact changed_noframe hl hx hc'

end Go.Proofs.YtfhgjangeicbjaaDoor
