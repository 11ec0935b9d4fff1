/-
  The walk of frame.Scan.
-/
import Derived.Test.YtfhgjangeicbjaaDoorScanPlain
namespace Go.Proofs.YtfhgjangeicbjaaDoor
open Go Go.RowKit

/-- a call that answers texts, and where they end -/
def RetScan (l : List UInt8) (w : World) (e : Ending) (w' : World) : Prop :=
  ∃ A c ts, e = .returned (.tuple #[.slice A (ts.length) c, .int .i64 ((ts.flatMap frame).length : Nat)]) ∧ Scanned l ts ∧ Rd w' 1 A ts.length (strCells ts) ∧ Below w.heap.size w w'

theorem strInf : (Tryd.prog.info? 9).map (fun i => (i.zero, i.size, i.bytes)) = some (some (.string ⟨#[]⟩), 1, 16) := by kernel_rfl

set_option maxRecDepth 100000 in
set_option maxHeartbeats 2000000 in
theorem scan_any (s : ByteArray) (w : World) (ht : Tab w) (hs : s.size < 1099511627776) :
    Calls Tryd.prog 25 #[.string s] w (RetScan s.data.toList w) := by
  go_enter Tryd.func25, Tryd.ntmps25
  go_wp2_with fail
  go_loopw [4, 5] (fun out a wr => ∃ (k : Nat) (ts : List (List UInt8)) (O : Option Addr) (co : Nat), a = .int .i64 k ∧ k ≤ s.size ∧ s.data.toList = ts.flatMap frame ++ s.data.toList.drop k ∧ k = (ts.flatMap frame).length ∧ ts.length ≤ k ∧ out = .slice O ts.length co ∧
      wr.ownsRow w.heap.size 9 1 (.slice O ts.length co) ts.length (strCells ts) ∧ Below w.heap.size w wr) (fun _ a _ => s.size - (intOf a).toNat)
  case atStart => exact ⟨0, [], none, 0, rfl, by omega, by simp, by simp, by simp, rfl, World.ownsRow_nil _ _ _ _, Below.refl _ _⟩
  case round =>
    obtain ⟨k, ts, O, co, rfl, hk, hsp, hkl, htl, rfl, hown, hbel⟩ := hrel
    have Ht := Lib.hid (ht.below hbel)
    have Hsp := Lib.hid hsp
    have Hkl := Lib.hid hkl
    have hll : s.data.toList.length = s.size := by rw [Lib.size_eq]
    clear ht hsp hkl
    have G := Lib.hid (fun w => getText_any s k w hs)
    rcases getTextAt_cases (l := s.data.toList) (k := k) (by omega) (by omega) with ⟨e, h, he, hno⟩ | ⟨t, r, h, hdr⟩
    · rw [h] at G
      have hne : ((e : Int) == 0) = false := beq_eq_false_iff_ne.2 (by omega)
      have hne2 : ((e : Int) != 0) = true := by simp; omega
      have Hno := Lib.hid hno
      clear h he hno hll
      go_wp2_with fail
      refine (G.out _).mono ?_
      rintro e w1 ⟨rfl, rfl⟩
      go_wp2_with fail
      go_quiet (fail)
      go_wp2_with fail
      go_ret2
      obtain ⟨A', c', hv, hrd⟩ := Rd.of_own hown
      obtain ⟨rfl, rfl⟩ : O = A' ∧ co = c' := by simpa using hv
      refine ⟨O, co, ts, by rw [← Hkl.out]; rfl, ⟨_, Hsp.out, fun t r' => ?_⟩, hrd, below_drewN hbel _⟩
      have := Hno.out t (sumBytes t ++ r')
      rwa [frame, List.append_assoc]
    · rw [h] at G
      have Hdr := Lib.hid hdr
      have hx := congrArg List.length hdr
      rw [List.length_drop, List.length_append, hll] at hx
      obtain ⟨x, hxe⟩ : ∃ x, x = k + (text t).length := ⟨_, rfl⟩
      rw [← hxe] at G
      have hrl : r.length + x = s.size := by omega
      have hkx : k < x := by have := uint_pos t.length; rw [hxe, text, List.length_append]; omega
      have htz : (S t).size < 1099511627776 := by rw [S_size]; rw [text, List.length_append] at hx; omega
      have Hxe := Lib.hid hxe
      clear h hdr hx hll hxe
      by_cases hr2 : r.length < 2
      · have hd : decide ((s.size : Int) - (x : Int) < 2) = true := by simp; omega
        have Hrl := Lib.hid hrl
        have hxs : x ≤ s.size := by omega
        clear hrl
        go_wp2_with fail
        refine (G.out _).mono ?_
        rintro e w1 ⟨rfl, rfl⟩
        go_wp2_with fail
        go_quiet (fail)
        go_wp2_with fail
        go_ret2
        obtain ⟨A', c', hv, hrd⟩ := Rd.of_own hown
        obtain ⟨rfl, rfl⟩ : O = A' ∧ co = c' := by simpa using hv
        refine ⟨O, co, ts, by rw [← Hkl.out]; rfl, ⟨_, Hsp.out, ?_⟩, hrd, below_drewN hbel _⟩
        rw [Hdr.out]
        exact noframe_text (by rw [← Hdr.out, List.length_drop, ← Lib.size_eq]; omega) fun r' e => by have := congrArg List.length e; simp [sumBytes] at this; omega
      · have hx2 : x + 1 < s.size := by omega
        have hdx : s.data.toList.drop x = r := by
          rw [Hxe.out, ← List.drop_drop, Hdr.out, List.drop_left]
        have hx1 : x < s.size := by omega
        clear hrl hr2
        have hr : r = s[x] :: s[x + 1] :: s.data.toList.drop (x + 2) := hdx.symm.trans (by rw [drop_byte hx1, drop_byte hx2])
        have Hr := Lib.hid hr
        have h0 := (s[x]).toNat_lt
        have h1 := (s[x + 1]).toNat_lt
        have ho := sum_or h0 h1
        have hxs : x ≤ s.size := by omega
        have hd : decide ((s.size : Int) - (x : Int) < 2) = false := by simp; omega
        have C := Lib.hid (fun w ht => crc_any (S t) w ht htz)
        rw [S_toList] at C
        clear hdx hr
        by_cases hs2 : s[x].toNat * 256 + s[x + 1].toNat = crc t
        · have Hs2 := Lib.hid (sum_is hs2)
          rw [hs2] at ho
          have hcc : ((crc t : Int) != (crc t : Int)) = false := by simp
          clear hs2
          go_wp2_with fail
          refine (G.out _).mono ?_
          rintro e w1 ⟨rfl, rfl⟩
          go_wp2_with fail
          have g1 : IntKind.i64.wrap ((x : Int) + 1) = (x : Int) + 1 := IntWalk.i64_in _ (by omega)
          have g2 : IntKind.i64.wrap ((s.size : Int) - (x : Int)) = (s.size : Int) - (x : Int) := IntWalk.i64_in _ (by omega)
          have g3 : (0 : Int) ≤ (x : Int) + 1 := by omega
          have g4 : ((x : Int) + 1).toNat = x + 1 := by omega
          have g5 : (x : Int) < (s.size : Int) := by omega
          have g7 : IntKind.i64.wrap (s[x].toNat : Int) = (s[x].toNat : Int) := IntWalk.i64_in _ (by omega)
          have g8 : IntKind.i64.wrap (s[x + 1].toNat : Int) = (s[x + 1].toNat : Int) := IntWalk.i64_in _ (by omega)
          have g9 : IntKind.i64.wrap ((s[x].toNat : Int) * 256) = (s[x].toNat : Int) * 256 := IntWalk.i64_in _ (by omega)
          have g6 : (x : Int) + 1 < (s.size : Int) := by omega
          have ht0 := Ht.out
          go_region_held3 (fun w' => Tab w')
            (first | assumption | exact Tab.below (by assumption) hb2)
            (first | (go_at_call 33; refine (C.out _ (by assumption)).mono ?_; rintro e w2 ⟨rfl, hb2⟩))
          all_goals
            clear ht0
            have hbd := hb2.drewl
            have hbel2 := hbel.trans (hbd.mono hbel.size)
            have hown2 := own_below hown hbd
            have hsz2 := Nat.le_trans hbel.size hbd.size
            go_wp2_with (at_builtin; go_must (refine wpList_append_elem rfl _ _ 59 rfl 9 (.string ⟨#[]⟩) 1 16 Tryd.underlying59 strInf rfl (by decide) w.heap.size _ _ _ _ w2 #[.string (S t)] rfl (by intro u hu; simp at hu; subst hu; rfl) hown2 rfl hbel2 hsz2 rfl (by unfold maxLen; omega) (by omega) ?_); intro v' w3 hown3 hgr3 hbel3 hsz3 hlt3 hnn3)
            go_roundw
            case rel =>
              obtain ⟨O', co', rfl⟩ := own_form hown3
              have e1 : frame t ++ s.data.toList.drop (x + 2) = s.data.toList.drop k := by
                rw [Hdr.out, Hr.out, frame, ← Hs2.out]; simp
              have e2 : (frame t).length = (text t).length + 2 := by simp [frame, sumBytes]
              exact ⟨x + 2, ts ++ [t], O', co', by go_num, by omega, by rw [List.flatMap_append, List.flatMap_singleton, List.append_assoc, e1]; exact Hsp.out, by rw [List.flatMap_append, List.flatMap_singleton, List.length_append, e2, ← Hkl.out, Hxe.out]; omega, by simp; omega, by simp, by simpa [strCells_snoc] using hown3, hbel3⟩
            case measure => simp [intOf]; omega
        · have Hs2 := Lib.hid (sum_not hs2)
          have hcc : (((s[x].toNat * 256 + s[x + 1].toNat : Nat) : Int) != (crc t : Int)) = true := by rw [bne_iff_ne]; omega
          generalize s[x].toNat * 256 + s[x + 1].toNat = v at ho hcc
          clear hs2
          go_wp2_with fail
          refine (G.out _).mono ?_
          rintro e w1 ⟨rfl, rfl⟩
          go_wp2_with fail
          have g1 : IntKind.i64.wrap ((x : Int) + 1) = (x : Int) + 1 := IntWalk.i64_in _ (by omega)
          have g2 : IntKind.i64.wrap ((s.size : Int) - (x : Int)) = (s.size : Int) - (x : Int) := IntWalk.i64_in _ (by omega)
          have g3 : (0 : Int) ≤ (x : Int) + 1 := by omega
          have g4 : ((x : Int) + 1).toNat = x + 1 := by omega
          have g5 : (x : Int) < (s.size : Int) := by omega
          have g7 : IntKind.i64.wrap (s[x].toNat : Int) = (s[x].toNat : Int) := IntWalk.i64_in _ (by omega)
          have g8 : IntKind.i64.wrap (s[x + 1].toNat : Int) = (s[x + 1].toNat : Int) := IntWalk.i64_in _ (by omega)
          have g9 : IntKind.i64.wrap ((s[x].toNat : Int) * 256) = (s[x].toNat : Int) * 256 := IntWalk.i64_in _ (by omega)
          have g6 : (x : Int) + 1 < (s.size : Int) := by omega
          have ht0 := Ht.out
          go_region_held3 (fun w' => Tab w')
            (first | assumption | exact Tab.below (by assumption) hb2)
            (first | (go_at_call 33; refine (C.out _ (by assumption)).mono ?_; rintro e w2 ⟨rfl, hb2⟩))
          all_goals
            clear ht0
            have hbd := hb2.drewl
            have hbel2 := hbel.trans (hbd.mono hbel.size)
            have hown2 := own_below hown hbd
            go_wp2_with fail
            go_ret2
            obtain ⟨A', c', hv, hrd⟩ := Rd.of_own hown2
            obtain ⟨rfl, rfl⟩ : O = A' ∧ co = c' := by simpa using hv
            refine ⟨O, co, ts, by rw [← Hkl.out]; rfl, ⟨_, Hsp.out, ?_⟩, hrd, hbel2⟩
            rw [Hdr.out]
            refine noframe_text (by rw [← Hdr.out, List.length_drop, ← Lib.size_eq]; omega) fun r' e => ?_
            rw [Hr.out] at e
            refine Hs2.out ?_
            unfold sumBytes at e ⊢
            simp at e ⊢
            exact ⟨e.1, e.2.1⟩
end Go.Proofs.YtfhgjangeicbjaaDoor
