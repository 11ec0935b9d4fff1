/-
  The walk of the law 'DeltaEncodes'.
-/
import Derived.Test.YtjendmojkdkipaaRDDec
import Derived.Test.YtjendmojkdkipaaSampEq
namespace Go.Proofs.Ytjendmojkdkipaa
open Go Go.RowKit

set_option maxRecDepth 100000 in
set_option maxHeartbeats 1000000 in
theorem deltaEncodes_walk (w : World) (v0 : Value) (g0 : ∃ A c, ∃ xs : List Sample, v0 = .slice A xs.length c ∧ Rd w 2 A xs.length (xs.flatMap sampleCells) ∧ (∀ x ∈ xs, Sample.ok x) ∧ xs.length ≤ c ∧ c ≤ maxLen) :
    Calls Try.prog 8 #[v0] w fun e w' => e = .returned (.bool true) ∧ Below w.heap.size w w' := by
  obtain ⟨A, c, L, rfl, hrd, hok, hc, hcm⟩ := g0
  by_cases h : 200 < L.length
  · have hd : decide ((200 : Int) < (L.length : Int)) = true := decide_eq_true (by omega)
    go_enter Try.func8, Try.ntmps8
    go_wp2_with fail
    go_ret
    exact ⟨rfl, Below.refl _ _⟩
  · have hd : decide ((200 : Int) < (L.length : Int)) = false := decide_eq_false (by omega)
    have E1 := denc_all A c L w hrd hok (by omega) hc hcm
    have E2 := fun w' h => rdenc_all A c L w' h hok (by omega)
    by_cases hf : Fine L
    · rw [encV_fine hf] at E1
      simp only [encV_fine hf] at E2
      obtain ⟨d1, d2⟩ := dec_enc hf hok (by omega)
      have hpos : 0 < (S (encB L)).size := by rw [S_size]; exact encB_pos _
      have hle : (S (encB L)).size ≤ 25 + 22 * L.length := by rw [S_size]; exact encB_len hf hok (by omega)
      have D1 := fun w => ddec_one (S (encB L)) w (by omega)
      simp only [S_toList, d1, d2] at D1
      have HE1 := Lib.hid E1
      have HE2 := Lib.hid E2
      have HD1 := Lib.hid D1
      have Hrd := Lib.hid hrd
      have hM := Lib.hid (fun w => most_any L.length w (by omega))
      have hl200 : L.length ≤ 200 := by omega
      clear E1 E2 D1 d1 d2 hf hok hrd h
      generalize S (encB L) = T at *
      have k1 : decide ((T.size : Int) ≤ 25 + 22 * (L.length : Int)) = true := decide_eq_true (by omega)
      have k2 : decide ((0 : Int) < (T.size : Int)) = true := decide_eq_true (by omega)
      have k3 : decide (0 < T.size) = true := decide_eq_true hpos
      go_enter Try.func8, Try.ntmps8
      go_wp2_with fail
      refine HE1.out.mono ?_
      rintro e w1 ⟨rfl, hb1⟩
      have Hr1 := Lib.hid (Hrd.out.below hb1)
      have Hb1 := Lib.hid hb1
      clear hb1
      go_wp2_with fail
      refine (HE2.out _ Hr1.out).mono ?_
      rintro e w2 ⟨rfl, hb2⟩
      have Hr2 := Lib.hid (Hr1.out.below hb2)
      have Hb2 := Lib.hid (Hb1.out.then hb2)
      clear hb2
      go_wp2_with fail
      refine (HD1.out _).mono ?_
      rintro e w3 ⟨B, d, rfl, hr3, _, _, hb3⟩
      have Hr3 := Lib.hid (Hr2.out.below hb3)
      have Hr4 := Lib.hid hr3
      have Hb3 := Lib.hid (Hb2.out.then hb3)
      clear hb3 hr3
      go_wp2_with fail
      refine (same03_any B A d c L L w3 Hr4.out Hr3.out (by omega)).mono ?_
      rintro e w4 ⟨rfl, hb4⟩
      have Hb4 := Lib.hid (Hb3.out.then hb4)
      clear hb4
      rw [samesB_self]
      go_wp2_with fail
      refine (hM.out _).mono ?_
      rintro e w5 ⟨rfl, rfl⟩
      go_wp2_with fail
      go_ret
      exact ⟨rfl, Hb4.out⟩
    · rw [encV_no hf] at E1
      simp only [encV_no hf] at E2
      have HE1 := Lib.hid E1
      have HE2 := Lib.hid E2
      have Hrd := Lib.hid hrd
      have hT : ((S []).toList == ByteArray.empty.toList) = true := beq_self_eq_true _
      have hT' : (S []).toList.isEmpty = true := by rw [Lib.toList_data, S_toList]; rfl
      clear E1 E2 hf hok hrd h
      generalize S [] = T at *
      go_enter Try.func8, Try.ntmps8
      go_wp2_with fail
      refine HE1.out.mono ?_
      rintro e w1 ⟨rfl, hb1⟩
      have Hr1 := Lib.hid (Hrd.out.below hb1)
      have Hb1 := Lib.hid hb1
      clear hb1
      go_wp2_with fail
      refine (HE2.out _ Hr1.out).mono ?_
      rintro e w2 ⟨rfl, hb2⟩
      have Hb2 := Lib.hid (Hb1.out.then hb2)
      clear hb2
      go_wp2_with fail
      go_ret
      exact ⟨rfl, Hb2.out⟩
end Go.Proofs.Ytjendmojkdkipaa
