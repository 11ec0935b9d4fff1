/-
  The walk of the document's Scan.
-/
import Derived.Test.YtfhgjangeicbjaaDoorScan
namespace Go.Proofs.YtfhgjangeicbjaaDoor
open Go Go.RowKit

set_option maxRecDepth 100000 in
set_option maxHeartbeats 2000000 in
theorem rscan_any (s : ByteArray) (w : World) (hs : s.size < 1099511627776) :
    Calls Tryd.prog 29 #[.string s] w (RetScan s.data.toList w) := by
  go_enter Tryd.func29, Tryd.ntmps29
  go_wp2_with fail
  go_loopw [4, 5] (fun out a wr => ∃ (k : Nat) (ts : List (List UInt8)) (O : Option Addr) (co : Nat), a = .int .i64 k ∧ k ≤ s.size ∧ s.data.toList = ts.flatMap frame ++ s.data.toList.drop k ∧ k = (ts.flatMap frame).length ∧ ts.length ≤ k ∧ out = .slice O ts.length co ∧
      wr.ownsRow w.heap.size 9 1 (.slice O ts.length co) ts.length (strCells ts) ∧ Below w.heap.size w wr) (fun _ a _ => s.size - (intOf a).toNat)
  case atStart => exact ⟨0, [], _, 0, rfl, by omega, by simp, by simp, by simp, rfl, made0' _ _ _, Below.one _ _⟩
  case round =>
    obtain ⟨k, ts, O, co, rfl, hk, hsp, hkl, htl, rfl, hown, hbel⟩ := hrel
    have Hsp := Lib.hid hsp
    have Hkl := Lib.hid hkl
    have hll : s.data.toList.length = s.size := by rw [Lib.size_eq]
    clear hsp hkl
    have G := Lib.hid (fun w => rgetText_any s k w hs)
    rcases getTextAt_cases (l := s.data.toList) (k := k) (by omega) (by omega) with ⟨e, h, he, hno⟩ | ⟨t, r, h, hdr⟩
    · rw [h] at G
      have hne : ((e : Int) == 0) = false := beq_eq_false_iff_ne.2 (by omega)
      have hne2 : ((e : Int) != 0) = true := by simp; omega
      have Hno := Lib.hid hno
      clear h he hno hll
      go_wp2_with fail
      refine (G.out _).mono ?_
      rintro e w1 ⟨rfl, hb1⟩
      have hbel1 := hbel.trans (hb1.mono hbel.size)
      have hown1 := own_below hown hb1
      go_wp2_with fail
      go_quiet (fail)
      go_wp2_with fail
      go_ret2
      obtain ⟨A', c', hv, hrd⟩ := Rd.of_own hown1
      obtain ⟨rfl, rfl⟩ : O = A' ∧ co = c' := by simpa using hv
      refine ⟨O, co, ts, by rw [← Hkl.out]; rfl, ⟨_, Hsp.out, fun t r' => ?_⟩, hrd, below_drewN hbel1 _⟩
      have := Hno.out t (sumBytes t ++ r')
      rwa [frame, List.append_assoc]
    · rw [h] at G
      have Hdr := Lib.hid hdr
      have hx := congrArg List.length hdr
      rw [List.length_drop, List.length_append, hll] at hx
      obtain ⟨x, hxe⟩ : ∃ x, x = k + (text t).length := ⟨_, rfl⟩
      rw [← hxe] at G
      have hrl : r.length + x = s.size := by omega
      have hkx : k < x := by have := uint_pos t.length; rw [hxe, text, List.length_append]; omega
      have htz : (S t).size < 1099511627776 := by rw [S_size]; rw [text, List.length_append] at hx; omega
      have Hxe := Lib.hid hxe
      clear h hdr hx hll hxe
      have hxs : x ≤ s.size := by omega
      by_cases hr2 : r.length < 2
      · have hd : decide ((s.size : Int) < (x : Int) + 2) = true := by simp; omega
        have Hrl := Lib.hid hrl
        clear hrl
        go_wp2_with fail
        refine (G.out _).mono ?_
        rintro e w1 ⟨rfl, hb1⟩
        have hbel1 := hbel.trans (hb1.mono hbel.size)
        have hown1 := own_below hown hb1
        go_wp2_with fail
        have g1 : IntKind.i64.wrap ((x : Int) + 2) = (x : Int) + 2 := IntWalk.i64_in _ (by omega)
        go_quiet (fail)
        go_wp2_with fail
        go_ret2
        obtain ⟨A', c', hv, hrd⟩ := Rd.of_own hown1
        obtain ⟨rfl, rfl⟩ : O = A' ∧ co = c' := by simpa using hv
        refine ⟨O, co, ts, by rw [← Hkl.out]; rfl, ⟨_, Hsp.out, ?_⟩, hrd, below_drewN hbel1 _⟩
        rw [Hdr.out]
        exact noframe_text (by rw [← Hdr.out, List.length_drop, ← Lib.size_eq]; omega) fun r' e => by have := congrArg List.length e; simp [sumBytes] at this; omega
      · have hx2 : x + 1 < s.size := by omega
        have hd : decide ((s.size : Int) < (x : Int) + 2) = false := by simp; omega
        have hex : (s.extract k (x + 2)).data.toList = text t ++ r.take 2 := by
          rw [Lib.extract_data, Hdr.out, Hxe.out, show k + (text t).length + 2 - k = (text t).length + 2 by omega, List.take_append, List.take_of_length_le (by omega), show (text t).length + 2 - (text t).length = 2 by omega]
        have C := Lib.hid (fun w => rframe_any (S t) w htz)
        rw [S_toList] at C
        have hr2' : 2 ≤ r.length := by omega
        have Hr2 := Lib.hid hr2'
        clear hrl hr2 hr2'
        have gsl : ∀ W, (Instr.slice 9 (.string s) (some (.int .i64 (k : Int))) (some (.int .i64 ((x : Int) + 2))) none).run Tryd.prog W = .ok (.string (s.extract k (x + 2))) W := fun W => by
          have := run_slice_string (P := Tryd.prog) W 9 s .i64 .i64 (k : Int) ((x : Int) + 2) Tryd.underlying9 (by omega) (by omega) (by omega)
          rwa [show ((x : Int) + 2).toNat = x + 2 by omega, show ((k : Int)).toNat = k by omega] at this
        have Gsl := Lib.hid gsl
        clear gsl
        by_cases hs2 : r.take 2 = sumBytes t
        · have hcc : ((S (frame t)).toList == (s.extract k (x + 2)).toList) = true := by rw [Lib.toList_data, Lib.toList_data, S_toList, hex, hs2, frame]; simp
          have Hs2 := Lib.hid hs2
          clear hs2 hex
          go_wp2_with fail
          refine (G.out _).mono ?_
          rintro e w1 ⟨rfl, hb1⟩
          have hbel1 := hbel.trans (hb1.mono hbel.size)
          have hown1 := own_below hown hb1
          go_wp2_with fail
          have g1 : IntKind.i64.wrap ((x : Int) + 2) = (x : Int) + 2 := IntWalk.i64_in _ (by omega)
          have gsl := Gsl.out
          have hS : True := trivial
          go_region_held3 (fun _ => True) (trivial) (first | (go_at_call 21; refine (C.out _).mono ?_; rintro e w2 ⟨rfl, hb2⟩))
          all_goals
            have hbd := hb2.drewl
            have hbel2 := hbel1.trans (hbd.mono hbel1.size)
            have hown2 := own_below hown1 hbd
            have hsz2 := Nat.le_trans hbel1.size hbd.size
            go_wp2_with (at_builtin; go_must (refine wpList_append_elem rfl _ _ 59 rfl 9 (.string ⟨#[]⟩) 1 16 Tryd.underlying59 strInf rfl (by decide) w.heap.size _ _ _ _ w2 #[.string (S t)] rfl (by intro u hu; simp at hu; subst hu; rfl) hown2 rfl hbel2 hsz2 rfl (by unfold maxLen; omega) (by omega) ?_); intro v' w3 hown3 hgr3 hbel3 hsz3 hlt3 hnn3)
            go_roundw
            case rel =>
              obtain ⟨O', co', rfl⟩ := own_form hown3
              have hdx : s.data.toList.drop (x + 2) = r.drop 2 := by
                rw [Hxe.out, ← List.drop_drop, ← List.drop_drop, Hdr.out, List.drop_left]
              have e1 : frame t ++ s.data.toList.drop (x + 2) = s.data.toList.drop k := by
                rw [Hdr.out, hdx, frame, ← Hs2.out, List.append_assoc, List.take_append_drop]
              have e2 : (frame t).length = (text t).length + 2 := by simp [frame, sumBytes]
              exact ⟨x + 2, ts ++ [t], O', co', by go_num, by omega, by rw [List.flatMap_append, List.flatMap_singleton, List.append_assoc, e1]; exact Hsp.out, by rw [List.flatMap_append, List.flatMap_singleton, List.length_append, e2, ← Hkl.out, Hxe.out]; omega, by simp; omega, by simp, by simpa [strCells_snoc] using hown3, hbel3⟩
            case measure => simp [intOf]; omega
        · have hcc : ((S (frame t)).toList == (s.extract k (x + 2)).toList) = false := by
            rw [Lib.toList_data, Lib.toList_data, S_toList, hex, frame]
            exact beq_eq_false_iff_ne.2 fun e => hs2 (List.append_cancel_left e).symm
          have Hs2 := Lib.hid hs2
          clear hs2 hex
          go_wp2_with fail
          refine (G.out _).mono ?_
          rintro e w1 ⟨rfl, hb1⟩
          have hbel1 := hbel.trans (hb1.mono hbel.size)
          have hown1 := own_below hown hb1
          go_wp2_with fail
          have g1 : IntKind.i64.wrap ((x : Int) + 2) = (x : Int) + 2 := IntWalk.i64_in _ (by omega)
          have gsl := Gsl.out
          have hS : True := trivial
          go_region_held3 (fun _ => True) (trivial) (first | (go_at_call 21; refine (C.out _).mono ?_; rintro e w2 ⟨rfl, hb2⟩))
          all_goals
            have hbd := hb2.drewl
            have hbel2 := hbel1.trans (hbd.mono hbel1.size)
            have hown2 := own_below hown1 hbd
            have hsz2 := Nat.le_trans hbel1.size hbd.size
            go_wp2_with fail
            go_ret2
            obtain ⟨A', c', hv, hrd⟩ := Rd.of_own hown2
            obtain ⟨rfl, rfl⟩ : O = A' ∧ co = c' := by simpa using hv
            refine ⟨O, co, ts, by rw [← Hkl.out]; rfl, ⟨_, Hsp.out, ?_⟩, hrd, hbel2⟩
            rw [Hdr.out]
            refine noframe_text (by rw [← Hdr.out, List.length_drop, ← Lib.size_eq]; omega) fun r' e => ?_
            refine Hs2.out ?_
            rw [e, List.take_append_of_le_length (by simp [sumBytes]), List.take_of_length_le (by simp [sumBytes])]
end Go.Proofs.YtfhgjangeicbjaaDoor
