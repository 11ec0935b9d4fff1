/-
  The document's Decode of series.
-/
import Derived.Test.YtmafdbdmmfpeeaaMajDecP
import Derived.Test.YtmafdbdmmfpeeaaRMajEnc
import Derived.Test.YtmafdbdmmfpeeaaTheirs
namespace Go.Proofs.Ytmafdbdmmfpeeaa
open Go Go.RowKit

/-- what the document's Decode answers -/
def DecSPost (l : List UInt8) (w : World) (e : Ending) (w' : World) : Prop :=
  ∃ A c, ∃ xs : List SerV, e = .returned (.tuple #[.slice A xs.length c, .int .i64 (decS l).2]) ∧ SersAt w' A xs (decS l).1 ∧ Below w.heap.size w w'
theorem sersAt_nil (w : World) (A : Option Addr) : SersAt w A [] [] := ⟨rfl, Rd.nil _ _ _, fun i h => absurd h (by simp)⟩

set_option linter.unusedSimpArgs false in
set_option maxRecDepth 100000 in
set_option maxHeartbeats 2000000 in
theorem rmdecode_any (s : ByteArray) (w : World) (hs : s.size ≤ 1000000) : Calls Try.prog 19 #[.string s] w (DecSPost s.data.toList w) := by
  obtain ⟨B, hB⟩ : ∃ B, w.heap.size = B := ⟨_, rfl⟩
  have HC := Lib.hid (rtable_at s B w hB hs)
  have HB := Lib.hid hB
  clear hB
  go_enter Try.func19, Try.ntmps19
  go_wp2_with fail
  refine HC.out.mono ?_
  rintro e w1 (⟨hN, rfl, hb⟩ | ⟨ps, v, t, hN, rfl, h1, h2, hl, hb⟩)
  · have HD := Lib.hid (decS_none hN)
    have Hb := Lib.hid hb
    clear hN hb
    go_wp2_with fail
    go_ret2
    exact ⟨none, 0, [], by rw [HD.out]; rfl, by rw [HD.out]; exact sersAt_nil _ _, HB.out ▸ Hb.out⟩
  · have hbw : Below w.heap.size w w1 := HB.out ▸ hb
    obtain ⟨A1, c1, rfl⟩ := h1.form
    have Hv := Lib.hid h1.rd
    obtain ⟨n, hn⟩ : ∃ n, ps.length = n := ⟨_, rfl⟩
    rw [hn] at Hv hl ⊢
    have Hn := Lib.hid hn
    have HTab := Lib.hid hN
    have hBw : B ≤ w1.heap.size := by have := hb.size; rw [HB.out] at this; exact this
    have HM := Lib.hid (OutAt.made w1.heap.size 74 w1 (Nat.le_refl _))
    have HbM := Lib.hid (Below.one w1 (.cells #[] 74))
    have Hbw := Lib.hid hbw
    clear hN h1 h2 hb hn hbw
    go_wp2_with fail
    go_loopw [7, 8] (fun ov ix wr => ∃ (i : Nat) (A : Option Addr) (c : Nat) (xs : List SerV) (l : List Ser), ix = .int .i64 i ∧ ov = .slice A i c ∧ xs.length = i ∧ i ≤ n ∧ serT (ps.take i) = some l ∧ OutAt w1.heap.size 74 (.slice A i c) xs l wr ∧ Below w1.heap.size w1 wr) (fun _ ix _ => n - (intOf ix).toNat)
    case atStart => exact ⟨0, _, 0, [], [], rfl, rfl, rfl, by omega, rfl, HM.out, HbM.out⟩
    case round =>
      obtain ⟨i, A, c, xs, l, rfl, rfl, hxl, hi, hser, hout, hbel⟩ := hrel
      have Hout := Lib.hid hout
      have Hbel := Lib.hid hbel
      have Hser := Lib.hid hser
      have Hxl := Lib.hid hxl
      clear hout hser hxl
      by_cases hlt : i < n
      · have hlp : i < ps.length := by have := Hn.out; omega
        obtain ⟨gb, off, rfl, hgb, hf⟩ := (Hv.out.below hbel).elem idCells_length (by decide) hlp
        have f0 := hf 0 _ rfl
        have hfd := find_own HTab.out hlp
        have F := rfind_fresh s (ps[i].1 : Int) wr hs
        rw [hfd] at F
        have hmem : ps[i] ∈ ps := List.getElem_mem hlp
        have htk : ps.take (i + 1) = ps.take i ++ [ps[i]] := by rw [List.take_append_getElem]
        have Htk := Lib.hid htk
        have Hmem := Lib.hid hmem
        clear hfd hmem htk hf
        simp only [Nat.mul_one, Nat.add_zero] at f0
        generalize ps[i] = p at *
        have hk1 : (i : Int) < n := by omega
        have hBr : w1.heap.size ≤ wr.heap.size := hbel.size
        clear hbel
        cases hp : partR p.2 with
        | none =>
          have HNo := Lib.hid (decS_bad HTab.out (serT_none Hmem.out hp))
          have hpv : partV p.2 = ([], 11) := by unfold partV; rw [hp]
          rw [hpv] at F
          have HF := Lib.hid F
          clear F hpv hp
          go_wp2_with fail
          refine HF.out.mono ?_
          rintro e w2 ⟨A2, c2, rfl, hr2, hb2, hf2⟩
          have Hb2 := Lib.hid (Hbel.out.trans (hb2.mono Hbel.out.size))
          clear hr2 hb2 hf2
          go_wp2_with fail
          go_ret2
          exact ⟨none, 0, [], by rw [HNo.out]; rfl, by rw [HNo.out]; exact sersAt_nil _ _, Hbw.out.trans (Hb2.out.mono Hbw.out.size)⟩
        | some L =>
          have hpv : partV p.2 = (L, 0) := by unfold partV; rw [hp]
          have hL0 : 0 < L.length := by
            unfold partR at hp
            split at hp
            · rename_i h; simp only [Option.some.injEq] at hp; subst hp; exact List.length_pos_iff.2 h.2
            · cases hp
          have Hsn := Lib.hid (serT_snoc Hser.out hp)
          rw [hpv] at F
          have HF := Lib.hid F
          clear F hpv hp
          go_wp2_with fail
          refine HF.out.mono ?_
          rintro e w2 ⟨A2, c2, rfl, hr2, hb2, hf2⟩
          simp only at hr2
          have f0' := keepc hb2 f0
          obtain ⟨R, hold, hlie, hmore⟩ := Hout.out.more (I := (p.1 : Int)) (c := c2) hBr hb2 rfl hr2 hf2 hL0
          rw [Hxl.out] at hlie hmore
          have Hlie := Lib.hid hlie
          have Hold := Lib.hid hold
          have Hmore := Lib.hid hmore
          have Hb2 := Lib.hid (Hbel.out.trans (hb2.mono Hbel.out.size))
          obtain ⟨m, hm⟩ : ∃ m, L.length = m := ⟨_, rfl⟩
          rw [hm] at Hmore ⊢
          clear hr2 hb2 hf2 hlie hold hmore hm f0 hL0
          go_wp2_with (at_builtin; go_loud (refine wpList_append_elem_row rfl (.tmp 39) (.tmp 46) 36 (by rfl) 74 (.agg #[.int .i64 0, .slice none 0 0]) 2 32 Try.underlying36 theirInf rfl (by decide) R i _ _ w2 #[.int .i64 p.1, .slice A2 m c2] rfl (by intro u hu; simp at hu; rcases hu with rfl | rfl <;> rfl) Hlie.out (by rfl) Hold.out (by rfl) (by unfold maxLen; omega) (by omega) ?_); intro v6 w6 hown6 hst6 hgr6 hat6; have hm6 := Hmore.out v6 w6 hown6 hst6; have Ho6 := Lib.hid hm6.1; have Hb6 := Lib.hid (hm6.2); obtain ⟨A6, c6, rfl⟩ := hown6.form; clear hown6 hst6 hgr6 hat6 hm6)
          go_roundw
          case rel => exact ⟨i + 1, A6, c6, _, _, by go_num, rfl, by rw [List.length_append, Hxl.out]; rfl, by omega, by rw [Htk.out]; exact Hsn.out, Ho6.out, Hb2.out.trans Hb6.out⟩
          case measure => simp [intOf]; omega
      · obtain rfl : i = n := by omega
        have hser := Hser.out
        rw [List.take_of_length_le (by have := Hn.out; omega)] at hser
        obtain ⟨henc, hgood, hok⟩ := decS_enc HTab.out hser
        have HD := Lib.hid (decS_good HTab.out hser)
        have hsv : encSV l = (s.data.toList, 0) := by rw [encSV_good (goodSb_iff.2 hgood), henc]
        have hat := Hout.out
        rw [← Hxl.out] at hat
        have E := rmencode_ok A c xs l wr hat.sers (fun x hx => (hok x hx).1) (by have := Hxl.out; omega) (fun x hx => (hok x hx).2)
        rw [hsv, Hxl.out] at E
        have HE := Lib.hid E
        have Hat := Lib.hid hat.sers
        have hT := eqS (s := s) (a := s.data.toList) rfl
        obtain ⟨T, hTT⟩ : ∃ T, S s.data.toList = T := ⟨_, rfl⟩
        rw [hTT] at HE hT
        clear hser henc hgood hok hsv hat E hbel hTT
        go_wp2_with fail
        refine HE.out.mono ?_
        rintro e w2 ⟨rfl, hb2⟩
        have Hat2 := Lib.hid (Hat.out.below hb2)
        have Hb2 := Lib.hid (Hbel.out.trans (hb2.mono Hbel.out.size))
        clear hb2
        go_wp2_with fail
        go_ret2
        exact ⟨A, c, xs, by rw [HD.out, Hxl.out]; rfl, by rw [HD.out]; exact Hat2.out, Hbw.out.trans (Hb2.out.mono Hbw.out.size)⟩
end Go.Proofs.Ytmafdbdmmfpeeaa
