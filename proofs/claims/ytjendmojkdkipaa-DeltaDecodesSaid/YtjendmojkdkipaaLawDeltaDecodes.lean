/-
  The walk of the law 'DeltaDecodes'.
-/
import Derived.Test.YtjendmojkdkipaaRDDec
import Derived.Test.YtjendmojkdkipaaSampEq
namespace Go.Proofs.Ytjendmojkdkipaa
open Go Go.RowKit

set_option maxRecDepth 100000 in
set_option maxHeartbeats 1000000 in
theorem deltaDecodes_walk (s : ByteArray) (_hs : s.size ≤ maxLen) (w : World) :
    Calls Try.prog 4 #[.string s] w fun e w' => e = .returned (.bool true) ∧ Below w.heap.size w w' := by
  by_cases h : 1024 < s.size
  · have hd : decide ((1024 : Int) < (s.size : Int)) = true := decide_eq_true (by omega)
    go_enter Try.func4, Try.ntmps4
    go_wp2_with fail
    go_ret
    exact ⟨rfl, Below.refl _ _⟩
  · have hd : decide ((1024 : Int) < (s.size : Int)) = false := decide_eq_false (by omega)
    have D1 := Lib.hid (ddec_one s w (by omega))
    have D2 := Lib.hid (fun w => rddec_one s w (by omega))
    have D3 := fun w => ddec_one (⟨#[]⟩ : ByteArray) w (by decide)
    simp only [dec_empty.1, dec_empty.2] at D3
    have HD3 := Lib.hid D3
    obtain ⟨hf, hok, hl, henc, hE⟩ := decL_ok s.data.toList
    have hT : decE s.data.toList = 0 → ((S (encB (decL s.data.toList))).toList == s.toList) = true := fun h => eqS (henc h)
    clear henc D3 h
    generalize decL s.data.toList = L at *
    generalize decE s.data.toList = E at *
    have HT := Lib.hid hT
    have Hf := Lib.hid hf
    have Hok := Lib.hid hok
    have HE := Lib.hid hE
    clear hT hf hok hE
    go_enter Try.func4, Try.ntmps4
    go_wp2_with fail
    refine D1.out.mono ?_
    rintro e w1 ⟨A, c, rfl, hr1, hc, hcm, hb1⟩
    have Hr1 := Lib.hid hr1
    have Hb1 := Lib.hid hb1
    clear hr1 hb1
    go_wp2_with fail
    refine (D2.out _).mono ?_
    rintro e w2 ⟨B, d, rfl, hr2, hb2⟩
    have Hr2 := Lib.hid hr2
    have Hr12 := Lib.hid (Hr1.out.below hb2)
    have Hb2 := Lib.hid (Hb1.out.trans (hb2.mono Hb1.out.size))
    clear hr2 hb2
    go_wp2_with fail
    refine (HD3.out _).mono ?_
    rintro e w3 ⟨A3, c3, rfl, _, _, _, hb3⟩
    have Hr3 := Lib.hid (Hr12.out.below hb3)
    have Hr4 := Lib.hid (Hr2.out.below hb3)
    have Hb3 := Lib.hid (Hb2.out.trans (hb3.mono Hb2.out.size))
    clear hb3
    go_wp2_with fail
    refine (same03_any A B c d L L w3 Hr3.out Hr4.out (by omega)).mono ?_
    rintro e w4 ⟨rfl, hb4⟩
    have Hr5 := Lib.hid (Hr3.out.below hb4)
    have Hb4 := Lib.hid (Hb3.out.trans (hb4.mono Hb3.out.size))
    clear hb4
    rw [samesB_self]
    have E1 := denc_all A c L w4 Hr5.out Hok.out hl hc hcm
    rw [encV_fine Hf.out] at E1
    have HE1 := Lib.hid E1
    clear E1
    generalize S (encB L) = T at *
    go_wp2_with fail
    refine HE1.out.mono ?_
    rintro e w5 ⟨rfl, hb5⟩
    have Hb5 := Lib.hid (Hb4.out.trans (hb5.mono Hb4.out.size))
    clear hb5
    rcases HE.out with h0 | h0
    · have hT := HT.out h0
      obtain ⟨k1, k2⟩ := err_no h0
      clear h0
      go_wp2_with fail
      go_ret
      exact ⟨rfl, Hb5.out⟩
    · obtain ⟨k1, k2⟩ := err_yes (e := E) (by omega)
      clear h0
      go_wp2_with fail
      go_ret
      exact ⟨rfl, Hb5.out⟩
end Go.Proofs.Ytjendmojkdkipaa
