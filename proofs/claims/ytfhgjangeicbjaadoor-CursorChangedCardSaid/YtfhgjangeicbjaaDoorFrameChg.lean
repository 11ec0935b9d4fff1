/-
  Plain laws: a frame of which one byte behind its length is another one is none.
-/
import Derived.Test.YtfhgjangeicbjaaDoorScanPlain
namespace Go.Proofs.YtfhgjangeicbjaaDoor

theorem crc_set {s : List UInt8} {m : Nat} {b : UInt8} (hm : m < s.length) (h : crc (s.take m ++ b :: s.drop (m + 1)) = crc s) : b = s[m] := by
  have e : s = s.take m ++ s[m] :: s.drop (m + 1) := by rw [← List.drop_eq_getElem_cons hm, List.take_append_drop]
  rw [congrArg crc e] at h
  exact crc_changed h

theorem sumBytes_inj {a b : List UInt8} (h : sumBytes a = sumBytes b) : crc a = crc b := by
  unfold sumBytes at h
  simp only [List.cons.injEq, and_true] at h
  have ha := crc_lt a
  have hb := crc_lt b
  have h0 := congrArg UInt8.toNat h.1
  have h1 := congrArg UInt8.toNat h.2
  rw [u8_lt _ (by omega), u8_lt _ (by omega)] at h0 h1
  omega

theorem changed_noframe {s : List UInt8} {m : Nat} {b : UInt8} (hl : s.length < 1099511627776) (hm : m < (s ++ sumBytes s).length) (hb : b ≠ (s ++ sumBytes s)[m]) :
    NoFrame (uint s.length ++ ((s ++ sumBytes s).take m ++ b :: (s ++ sumBytes s).drop (m + 1))) := by
  intro u r' h
  have hs2 : (sumBytes s).length = 2 := rfl
  have hu2 : (sumBytes u).length = 2 := rfl
  have hul := uint_len_ten (n := s.length) (by omega)
  have hlen := congrArg List.length h
  simp only [List.length_append, List.length_cons, List.length_take, List.length_drop, frame, text] at hlen hm
  rw [frame, text, List.append_assoc, List.append_assoc] at h
  obtain ⟨h1, h2⟩ := uint_append_inj (by omega) (by omega) h
  have hl2 := congrArg List.length h2
  simp only [List.length_append, List.length_cons, List.length_take, List.length_drop] at hl2
  have hr : r' = [] := List.eq_nil_of_length_eq_zero (by omega)
  subst hr
  rw [List.append_nil] at h2
  by_cases hms : m < s.length
  · -- a byte of the text
    have e1 : (s ++ sumBytes s).take m = s.take m := List.take_append_of_le_length (by omega)
    have e2 : (s ++ sumBytes s).drop (m + 1) = s.drop (m + 1) ++ sumBytes s := List.drop_append_of_le_length (by omega)
    rw [e1, e2, ← List.cons_append, ← List.append_assoc] at h2
    have hul : (s.take m ++ b :: s.drop (m + 1)).length = u.length := by
      simp only [List.length_append, List.length_cons, List.length_take, List.length_drop]; omega
    obtain ⟨h3, h4⟩ := List.append_inj h2 hul
    have := crc_set hms (by rw [h3]; exact (sumBytes_inj h4).symm)
    rw [List.getElem_append_left hms] at hb
    exact hb this
  · -- a byte of the sum
    have e1 : (s ++ sumBytes s).take m = s ++ (sumBytes s).take (m - s.length) := by rw [List.take_append, List.take_of_length_le (by omega)]
    rw [e1, List.append_assoc] at h2
    obtain ⟨h3, h4⟩ := List.append_inj h2 (by omega)
    subst h3
    have h5 := congrArg (fun l => l[m - s.length]?) h4
    have hm2 : m - s.length < 2 := by omega
    rw [List.getElem?_append_right (by rw [List.length_take]; omega), List.length_take, Nat.min_eq_left (by omega), Nat.sub_self, List.getElem?_cons_zero] at h5
    rw [List.getElem_append_right (by omega)] at hb
    rw [List.getElem?_eq_getElem (by omega)] at h5
    exact hb (Option.some.inj h5)
end Go.Proofs.YtfhgjangeicbjaaDoor
