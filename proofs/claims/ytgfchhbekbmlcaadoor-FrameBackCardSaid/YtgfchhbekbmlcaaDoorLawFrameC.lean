/-
  The walk of the law 'FrameChanged'.
-/
import Derived.Test.YtgfchhbekbmlcaaDoorSame
import Derived.Test.YtgfchhbekbmlcaaDoorFrameChg
namespace Go.Proofs.YtgfchhbekbmlcaaDoor
open Go Go.RowKit Go.Deep Go.ChangeShapes Go.WideShapes

theorem noframe_nil : NoFrame [] := by
  intro t r h
  have := congrArg List.length h
  have h2 := frame_len_pos t
  simp only [List.length_nil, List.length_append] at this
  omega
theorem scanned_one (t : List UInt8) : Scanned (frame t) [t] := ⟨[], by simp, noframe_nil⟩
theorem scanned_none {l : List UInt8} (h : NoFrame l) : Scanned l [] := ⟨l, by simp, h⟩

/-- 'string([]byte{c})' of a byte that lies somewhere -/
theorem run_one_at {P : Program} {src dst e : TypeId} (y : Int) (c : UInt8) (hy : y = (c.toNat : Int))
    (hs : P.underlying src = some (.slice e)) (he : P.underlying e = some (.int .u8)) (hd : P.underlying dst = some .string) (w : World) (g : Nat) (h0 : w.cell? ⟨g, 0, none⟩ = some (.int .u8 y)) :
    (convert src dst (.slice (some ⟨g, 0, none⟩) 1 1)).run P w = .ok (.string (S [c])) w := by
  subst hy
  refine run_convert_bytes_back w src dst e ⟨g, 0, none⟩ 1 [c] hs he hd fun j hj => ?_
  obtain rfl : j = 0 := by simpa using hj
  exact h0

theorem changed_data (f : ByteArray) (k : Nat) (c : UInt8) (h : k < f.size) :
    (f.extract 0 k ++ S [c] ++ f.extract (k + 1) f.size).data.toList = f.data.toList.take k ++ c :: f.data.toList.drop (k + 1) := by
  have hl : f.data.toList.length = f.size := by rw [Lib.size_eq]
  have h1 : (f.extract 0 k).data.toList = f.data.toList.take k := by rw [Lib.extract_data, List.drop_zero, Nat.sub_zero]
  have h2 : (f.extract (k + 1) f.size).data.toList = f.data.toList.drop (k + 1) := by rw [Lib.extract_data, List.take_of_length_le (by rw [List.length_drop]; omega)]
  rw [ByteArray.data_append, ByteArray.data_append, Array.toList_append, Array.toList_append, S_toList, h1, h2, List.append_assoc]
  rfl

theorem changed_back {l : List UInt8} {k : Nat} (h : k < l.length) : l.take k ++ l[k] :: l.drop (k + 1) = l := by
  rw [← List.drop_eq_getElem_cons h, List.take_append_drop]

theorem changed_frame {s : List UInt8} {M : Nat} {c : UInt8} {k : Nat} (hk : k = (uint s.length).length + M) (hM : M < s.length + 2) (hl : s.length < 1099511627776) (hkf : k < (frame s).length) (hc : c ≠ (frame s)[k]) :
    NoFrame ((frame s).take k ++ c :: (frame s).drop (k + 1)) := by
  subst hk
  have e : frame s = uint s.length ++ (s ++ sumBytes s) := by rw [frame, text, List.append_assoc]
  have hx : M < (s ++ sumBytes s).length := by simp [sumBytes]; omega
  have hc' : c ≠ (s ++ sumBytes s)[M] := by
    intro h; apply hc; rw [h]
    have := congrArg (fun l => l[(uint s.length).length + M]?) e
    rw [List.getElem?_eq_getElem hkf, List.getElem?_append_right (by omega), Nat.add_sub_cancel_left, List.getElem?_eq_getElem hx] at this
    exact (Option.some.inj this).symm
  rw [e, List.take_length_add_append, Nat.add_assoc, List.drop_length_add_append, List.append_assoc]
  exact changed_noframe hl hx hc'

set_option maxRecDepth 100000 in
set_option maxHeartbeats 1000000 in
theorem frameChanged_walk (s : ByteArray) (a : Int) (b : Nat) (w : World) (_hs : s.size ≤ maxLen) (_h0 : -9223372036854775808 ≤ a) (_h1 : a ≤ 9223372036854775807) (hb : b < 256) (ht : Tab w) :
    Calls Tryd.prog 7 #[.string s, .int .i64 a, .int .u8 b] w fun e w' => e = .returned (.bool true) ∧ Below w.heap.size w w' := by
  clear _hs
  have Ht := Lib.hid ht
  clear ht
  by_cases hs : 2048 < s.size
  · go_enter Tryd.func7, Tryd.ntmps7
    go_wp2_with fail
    go_ret
    exact ⟨rfl, Below.refl _ _⟩
  have hz : s.size < 1099511627776 := by omega
  obtain ⟨f, hf⟩ : ∃ f, f = S (frame s.data.toList) := ⟨_, rfl⟩
  have F1 := Lib.hid (fun w ht => frame_any s w ht hz)
  have F2 := Lib.hid (fun w => rframe_any s w hz)
  rw [← hf] at F1 F2
  have hal : s.data.toList.length = s.size := by rw [Lib.size_eq]
  have hlen : f.size = (uint s.size).length + s.size + 2 := by rw [hf, S_size]; simp [frame, text, sumBytes, hal]; omega
  have hup := uint_pos s.size
  have hut := uint_len_ten (n := s.size) (by omega)
  have hL3 : 3 ≤ f.size := by omega
  have hlo : s.size + 3 ≤ f.size := by omega
  have hhi : f.size ≤ s.size + 12 := by omega
  have Hlen := Lib.hid hlen
  have Hf := Lib.hid hf
  clear hf hlen hup hut
  obtain ⟨M, hM⟩ : ∃ M : Nat, (wrap64 (wrap64 (a.tmod (s.size + 2) + s.size) + 2)).tmod (s.size + 2) = (M : Int) ∧ M < s.size + 2 := by
    have h2 := Int.lt_tmod_of_pos a (b := (s.size : Int) + 2) (by omega)
    have h3 := Int.tmod_lt_of_pos a (b := (s.size : Int) + 2) (by omega)
    have e1 : wrap64 (a.tmod (s.size + 2) + s.size) = a.tmod (s.size + 2) + s.size := by unfold wrap64; omega
    rw [e1]
    have e2 : wrap64 (a.tmod (s.size + 2) + s.size + 2) = a.tmod (s.size + 2) + s.size + 2 := by unfold wrap64; omega
    rw [e2]
    have h4 := Int.tmod_nonneg (a := a.tmod ((s.size : Int) + 2) + s.size + 2) ((s.size : Int) + 2) (by omega)
    have h5 := Int.tmod_lt_of_pos (a.tmod ((s.size : Int) + 2) + s.size + 2) (b := (s.size : Int) + 2) (by omega)
    exact ⟨((a.tmod ((s.size : Int) + 2) + s.size + 2).tmod ((s.size : Int) + 2)).toNat, by omega, by omega⟩
  go_enter Tryd.func7, Tryd.ntmps7
  go_wp2_with fail
  refine (F1.out _ Ht.out).mono ?_
  rintro e w1 ⟨rfl, hb1⟩
  go_wp2_with fail
  refine (F2.out _).mono ?_
  rintro e w2 ⟨rfl, hb2⟩
  go_wp2
  have hkw : ∃ k : Nat, (k : Int) = (f.size : Int) - s.size - 2 + M ∧ k = (uint s.size).length + M := ⟨(uint s.size).length + M, by have := Hlen.out; omega, rfl⟩
  obtain ⟨k, hkw, hk⟩ := hkw
  rw [← hkw]
  have hkf : k < f.size := by omega
  have Hk := Lib.hid hk
  have HM := Lib.hid hM
  clear hk hkw hM
  have gsl : ∀ W, (Instr.slice 9 (.string f) none (some (.int .i64 (k : Int))) none).run Tryd.prog W = .ok (.string (f.extract 0 k)) W := fun W => by
    have := run_slice_string_h (P := Tryd.prog) W 9 f Tryd.underlying9 .i64 (k : Int) (by omega) (by omega)
    rwa [show ((k : Int)).toNat = k by omega] at this
  have gsl2 : ∀ W, (Instr.slice 9 (.string f) (some (.int .i64 ((k : Int) + 1))) none none).run Tryd.prog W = .ok (.string (f.extract (k + 1) f.size)) W := fun W => by
    have := run_slice_string_l (P := Tryd.prog) W 9 f Tryd.underlying9 .i64 ((k : Int) + 1) (by omega) (by omega)
    rwa [show ((k : Int) + 1).toNat = k + 1 by omega] at this
  have g1 : IntKind.i64.wrap ((k : Int) + 1) = (k : Int) + 1 := IntWalk.i64_in _ (by omega)
  have hfb := f[k].toNat_lt
  obtain ⟨c, hc⟩ : ∃ c : UInt8, c = f[k] + UInt8.ofNat b := ⟨_, rfl⟩
  have hcn : c.toNat = (f[k].toNat + b) % 256 := by rw [hc, UInt8.toNat_add, UInt8.toNat_ofNat']; omega
  have hcv := run_one_at (P := Tryd.prog) (src := 33) (dst := 9) (((f[k].toNat : Int) + (b : Int)) % 256) c (by rw [hcn]; omega) Tryd.underlying33 Tryd.underlying5 Tryd.underlying9
  have hcv' := run_one_at (P := Tryd.prog) (src := 33) (dst := 9) (IntKind.u8.wrap ((f[k].toNat : Int) + (b : Int))) c (by rw [hcn, IntKind.wrap_u8]; omega) Tryd.underlying33 Tryd.underlying5 Tryd.underlying9
  have Hc := Lib.hid hc
  have Hcn := Lib.hid hcn
  clear hc hcn
  have hsc : (S [c]).size = 1 := by rw [S_size]; rfl
  have hmin : min k f.size = k := by omega
  have hmin2 : min f.size f.size = f.size := by omega
  go_region
  generalize hw3 : (w2.alloc (.cells #[.int .u8 (((f[k].toNat : Int) + (b : Int)) % 256)] 5)).drew = w3
  have hb3 : Below w2.heap.size w2 w3 := by rw [← hw3]; exact ((Below.refl _ _).alloc (Nat.le_refl _) _).drew
  have Ht3 := Lib.hid (((Ht.out.below hb1).below hb2).below hb3)
  have hbel := (hb1.then hb2).then hb3
  clear hw3 hcv hcv'
  have hdat := changed_data f k c hkf
  have htz : (f.extract 0 k ++ S [c] ++ f.extract (k + 1) f.size).size = f.size := by
    have hl0 := Lib.size_eq f
    rw [Lib.size_eq, hdat, List.length_append, List.length_cons, List.length_take, List.length_drop]; omega
  have hfl : f.data.toList = frame s.data.toList := by rw [Hf.out, S_toList]
  have hlf : (frame s.data.toList).length = f.size := by rw [← hfl, ← Lib.size_eq]
  have hfk : ∀ h, f[k] = (frame s.data.toList)[k]'h := by intro h; simp only [← hfl]; rfl
  have Hfk := Lib.hid hfk
  clear hfk
  generalize f.extract 0 k ++ S [c] ++ f.extract (k + 1) f.size = t at *
  have D := Lib.hid (fun w ht => scan_any t w ht (by omega))
  have htl : t.data.toList.length = t.size := by rw [Lib.size_eq]
  by_cases hb0 : b = 0
  · subst hb0
    have hts : t.data.toList = frame s.data.toList := by
      rw [hdat, ← hfl]
      have hck : c = f.data.toList[k]'(by rw [← Lib.size_eq]; exact hkf) := by
        rw [Hc.out]; apply UInt8.toNat_inj.1; simp; rfl
      rw [hck]; exact changed_back _
    rw [hts] at D
    clear hdat hfb hfl hts
    have Hlf := Lib.hid hlf
    clear hlf
    go_wp2_with fail
    refine (D.out _ Ht3.out).mono ?_
    rintro e w4 ⟨A, ca, ts, rfl, hsc, hrd, hb4⟩
    have hone : ts = [s.data.toList] := scanned_inj _ _ _ (by rw [Hlf.out]; omega) hsc (scanned_one _)
    subst hone
    obtain ⟨g, off, rfl, hgl, hcell⟩ := str_at hrd (i := 0) (by simp)
    rw [List.getElem_cons_zero, S_data, Nat.add_zero] at hcell
    rw [show ([s.data.toList].flatMap frame).length = f.size by simpa using Hlf.out]
    go_wp2
    go_ret
    exact ⟨rfl, hbel.then hb4⟩
  · have hts : NoFrame t.data.toList := by
      rw [hdat, hfl]
      refine changed_frame (M := M) (by rw [Hk.out, hal]) (by rw [hal]; exact HM.out.2) (by omega) (by omega) ?_
      intro h
      have e := congrArg UInt8.toNat h
      rw [Hcn.out, ← Hfk.out] at e
      omega
    go_wp2_with fail
    refine (D.out _ Ht3.out).mono ?_
    rintro e w4 ⟨A, ca, ts, rfl, hsc, hrd, hb4⟩
    have hone : ts = [] := scanned_inj _ _ _ (by omega) hsc (scanned_none hts)
    subst hone
    go_wp2
    go_ret
    exact ⟨rfl, hbel.then hb4⟩
end Go.Proofs.YtgfchhbekbmlcaaDoor
