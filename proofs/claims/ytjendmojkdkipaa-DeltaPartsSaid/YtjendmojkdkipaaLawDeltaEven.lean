/-
  The walk of the law 'DeltaEven'.
-/
import Derived.Test.YtjendmojkdkipaaDeltaLen
import Derived.Test.YtjendmojkdkipaaRDEnc0
namespace Go.Proofs.Ytjendmojkdkipaa
open Go Go.RowKit

theorem sampleInf : (Try.prog.info? 25).map (fun i => (i.zero, i.size, i.bytes)) = some (some (.agg #[.int .i64 0, .int .i64 0]), 2, 16) := by kernel_rfl
/-- a row of the call's own as a slice that is read -/
theorem own_slice {w : World} {B n : Nat} {e : TypeId} {size : Nat} {v : Value} {xs : List Value} (h : w.ownsRow B e size v n xs) : ∃ A c, v = .slice A n c ∧ Rd w size A n xs ∧ n ≤ c ∧ c ≤ maxLen := by
  have hrd := Rd.of_own h
  rcases h.2 with ⟨rfl, rfl⟩ | ⟨g, cap, cur, rfl, hb, hg, hn, hm, hs, ht⟩
  · obtain ⟨A, c, e, hr⟩ := hrd
    cases e
    exact ⟨none, 0, rfl, hr, by omega, by unfold maxLen; omega⟩
  · obtain ⟨A, c, e, hr⟩ := hrd
    cases e
    exact ⟨_, cap, rfl, hr, hn, hm⟩

set_option maxRecDepth 100000 in
set_option maxHeartbeats 2000000 in
theorem deltaEven_walk (f b : Nat) (v : Int) (n : Nat) (hf : f < 65536) (hb : b < 65536) (hv0 : -9223372036854775808 ≤ v) (hv1 : v ≤ 9223372036854775807) (hn : n < 256) (w : World) :
    Calls Try.prog 3 #[.int .u16 f, .int .u16 b, .int .i64 v, .int .u8 n] w fun e w' => e = .returned (.bool true) ∧ Below w.heap.size w w' := by
  obtain ⟨d, hd⟩ : ∃ d, d = b + 1 := ⟨_, rfl⟩
  have hdi : (1 : Int) + (b : Int) = (d : Int) := by omega
  have hd0 : 0 < d := by omega
  have hd1 : d ≤ 65536 := by omega
  clear hd
  have hM := made0' w 25 2
  have HM := Lib.hid hM
  clear hM
  go_enter Try.func3, Try.ntmps3
  go_wp2_with fail
  go_loopw [10, 11] (fun av ix wr => ∃ j : Nat, ix = .int .i64 j ∧ j ≤ n ∧ wr.ownsRow w.heap.size 25 2 av j ((evenL f d v j).flatMap sampleCells) ∧ Below w.heap.size w wr ∧ w.heap.size ≤ wr.heap.size) (fun _ ix _ => n - (intOf ix).toNat)
  case atStart => exact ⟨0, rfl, by omega, HM.out, Below.one _ _, by simp⟩
  case round =>
    obtain ⟨j, rfl, hj, hown, hbel, hsz⟩ := hrel
    by_cases hlt : j < n
    · have hm0 : j * d ≤ 255 * 65536 := Nat.mul_le_mul (by omega) hd1
      obtain ⟨m, hm⟩ : ∃ m, m = j * d := ⟨_, rfl⟩
      have hmb : m ≤ 20000000 := by omega
      have HE := Lib.hid (show (evenL f d v (j + 1)).flatMap sampleCells = (evenL f d v j).flatMap sampleCells ++ [.int .i64 ((f : Int) + (m : Int)), .int .i64 v] by
        rw [evenL_next, List.flatMap_append, ← hm]
        simp [sampleCells])
      have Hm := Lib.hid hm
      have hmi : IntKind.i64.wrap ((j : Int) * (d : Int)) = (m : Int) := by
        have h1 : (j : Int) * (d : Int) = (m : Int) := by rw [hm]; push_cast; rfl
        rw [h1, IntKind.wrap_i64]
        omega
      have Hbel := Lib.hid hbel
      clear hm hm0 hbel
      generalize (evenL f d v j).flatMap sampleCells = zs at *
      go_wp2_with (at_builtin; go_must (refine wpList_append_elem rfl _ _ 23 (by rfl) 25 (.agg #[.int .i64 0, .int .i64 0]) 2 16 Try.underlying23 sampleInf rfl (by decide) _ j zs _ w wr #[.int .i64 ((f : Int) + (m : Int)), .int .i64 v] rfl (by intro u hu; simp at hu; rcases hu with rfl | rfl <;> rfl) hown (by rfl) Hbel.out hsz (by rfl) (by unfold maxLen; omega) (by omega) ?_); intro v' w5 hown5 _ hb5 hs5 _ _)
      go_roundw
      case rel => exact ⟨j + 1, by go_num, by omega, by rw [HE.out]; exact hown5, hb5, hs5⟩
      case measure => simp [intOf]; omega
    · obtain rfl : j = n := by omega
      obtain ⟨A, c, rfl, hrd, hc, hcm⟩ := own_slice hown
      have hfine := evenL_fine (v := v) hd0 hd1 hf (show j ≤ 255 by omega)
      have hok := evenL_ok (d := d) (f := f) (n := j) (v := v) ⟨hv0, hv1⟩ hd1 hf (by omega)
      have hlen := evenL_length f d v j
      have E1 := denc_all A c (evenL f d v j) wr (by rw [hlen]; exact hrd) hok (by omega) (by omega) hcm
      have E2 := fun w' h => rdenc_all A c (evenL f d v j) w' (by rw [hlen]; exact h) hok (by omega)
      rw [encV_fine hfine, hlen] at E1
      rw [encV_fine hfine, hlen] at E2
      have HE1 := Lib.hid E1
      have HE2 := Lib.hid E2
      have hpos : 0 < (S (encB (evenL f d v j))).size := by rw [S_size]; exact encB_pos _
      have hle : 2 ≤ j → (S (encB (evenL f d v j))).size ≤ 36 + j / 4 + 1 := fun h => by rw [S_size]; exact even_len ⟨hv0, hv1⟩ hf (by omega) h
      have Hb := Lib.hid hbel
      have Hrd := Lib.hid hrd
      clear E1 E2 hfine hok hlen hbel hrd hown hc
      generalize S (encB (evenL f d v j)) = t at *
      go_wp2_with fail
      refine HE1.out.mono ?_
      rintro e w1 ⟨rfl, hb1⟩
      have Hb1 := Lib.hid (Hb.out.trans (hb1.mono hsz))
      have Hr1 := Lib.hid (Hrd.out.below hb1)
      clear hb1
      go_wp2_with fail
      refine (HE2.out _ Hr1.out).mono ?_
      rintro e w2 ⟨rfl, hb2⟩
      have Hb2 := Lib.hid (Hb1.out.trans (hb2.mono Hb1.out.size))
      clear hb2
      by_cases h2 : j < 2
      · clear hle
        go_wp2_with fail
        go_ret
        exact ⟨ret_bool (by simp), Hb2.out⟩
      · have hle2 := hle (by omega)
        clear hle
        go_wp2_with fail
        go_ret
        exact ⟨ret_bool (by simp; omega), Hb2.out⟩
end Go.Proofs.Ytjendmojkdkipaa
