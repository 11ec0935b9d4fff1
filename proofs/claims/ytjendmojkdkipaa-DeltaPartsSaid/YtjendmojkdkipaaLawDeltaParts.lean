/-
  The walk of the law 'DeltaParts'.
-/
import Derived.Test.YtjendmojkdkipaaPartsPlain
namespace Go.Proofs.Ytjendmojkdkipaa
open Go Go.RowKit

theorem own_some {w : World} {B n : Nat} {e : TypeId} {size : Nat} {v : Value} {xs : List Value} (h : w.ownsRow B e size v n xs) (hv : v ≠ .slice none 0 0) : ∃ g c, v = .slice (some ⟨g, 0, none⟩) n c := by
  rcases h.2 with ⟨rfl, _⟩ | ⟨g, cap, cur, rfl, _⟩
  · exact absurd rfl hv
  · exact ⟨g, cap, rfl⟩

theorem sample_one (L : List Sample) : ∀ u ∈ L.flatMap sampleCells, u.oneCell' = true := by
  intro u hu
  obtain ⟨x, _, hx⟩ := List.mem_flatMap.1 hu
  simp only [sampleCells, List.mem_cons, List.not_mem_nil, or_false] at hx
  rcases hx with rfl | rfl <;> rfl

set_option maxRecDepth 100000 in
set_option maxHeartbeats 8000000 in
theorem deltaParts_walk (w : World) (v0 v1 : Value) (a : Nat) (g0 : ∃ A c, ∃ xs : List Nat, v0 = .slice A xs.length c ∧ Rd w 1 A xs.length (xs.flatMap byteCell) ∧ (∀ x ∈ xs, x < 256) ∧ xs.length ≤ c ∧ c ≤ maxLen)
    (g1 : ∃ A c, ∃ xs : List Int, v1 = .slice A xs.length c ∧ Rd w 1 A xs.length (xs.flatMap intCell) ∧ (∀ x ∈ xs, In64 x) ∧ xs.length ≤ c ∧ c ≤ maxLen) (ha : a < 256) :
    Calls Try.prog 7 #[v0, v1, .int .u8 a] w fun e w' => e = .returned (.bool true) ∧ Below w.heap.size w w' := by
  obtain ⟨A0, c0, ts, rfl, hrt, ht, hc0, hcm0⟩ := g0
  obtain ⟨A1, c1, vs, rfl, hrv, hv, hc1, hcm1⟩ := g1
  have hM := Lib.hid (made0' w 25 2)
  have Hrt := Lib.hid hrt
  have Hrv := Lib.hid hrv
  have Ht := Lib.hid ht
  have Hv := Lib.hid hv
  have hlt0 : ts.length ≤ 9223372036854775807 := by unfold maxLen at hcm0; omega
  have hlv0 : vs.length ≤ 9223372036854775807 := by unfold maxLen at hcm1; omega
  clear hrt hrv ht hv hc0 hc1 hcm0 hcm1
  go_enter Try.func7, Try.ntmps7
  go_wp2_with fail
  go_loopw [7, 8, 9] (fun lv tv ix wr => ∃ (j g c : Nat), ix = .int .i64 j ∧ j ≤ ts.length ∧ j ≤ 60 ∧ tv = .int .i64 (timeP ts j) ∧ lv = .slice (some ⟨g, 0, none⟩) j c ∧ wr.ownsRow w.heap.size 25 2 (.slice (some ⟨g, 0, none⟩) j c) j ((partL ts vs j).flatMap sampleCells) ∧ Below w.heap.size w wr ∧ w.heap.size ≤ wr.heap.size) (fun _ _ ix _ => 60 - (intOf ix).toNat)
  case atStart => exact ⟨0, _, 0, rfl, by omega, by omega, rfl, rfl, hM.out, Below.one _ _, by simp⟩
  case round =>
    clear hM
    obtain ⟨j, g, c, rfl, hj, hj60, rfl, rfl, hown, hbel, hsz⟩ := hrel
    by_cases hlt : j < ts.length ∧ j < 60
    · obtain ⟨hlt, hlt60⟩ := hlt
      obtain ⟨b0, o0, rfl, hb0, f0⟩ := byte_at (Hrt.out.below hbel) hlt
      have htj := Ht.out _ (List.getElem_mem hlt)
      have htp := timeP_le Ht.out j
      have hnx : timeP ts (j + 1) = timeP ts j + (1 + ts[j]) := by
        show timeP ts j + (1 + ts.getD j 0) = _
        rw [List.getD_eq_getElem?_getD, List.getElem?_eq_getElem hlt]
        rfl
      have Hpl := Lib.hid (show (partL ts vs (j + 1)).flatMap sampleCells = (partL ts vs j).flatMap sampleCells ++ [.int .i64 ((timeP ts j : Int) + (1 + (ts[j] : Int))), .int .i64 (partV vs j)] by
        rw [partL_next, List.flatMap_append, hnx]
        simp [sampleCells])
      have Hnx := Lib.hid hnx
      have Hbel := Lib.hid hbel
      have k1 : decide ((j : Int) < (ts.length : Int)) = true := decide_eq_true (by omega)
      have k2 : decide ((j : Int) < 60) = true := decide_eq_true (by omega)
      have htb : timeP ts j ≤ 16000 := by omega
      clear hnx hbel htp
      generalize (partL ts vs j).flatMap sampleCells = zs at *
      generalize timeP ts j = tp at *
      generalize ts[j] = tj at *
      by_cases hv : j < vs.length
      · obtain ⟨b1, o1, rfl, hb1, f1⟩ := int_at' (Hrv.out.below Hbel.out) hv
        have hpv : partV vs j = vs[j] := by unfold partV; rw [if_pos hv, List.getD_eq_getElem?_getD, List.getElem?_eq_getElem hv]; rfl
        rw [hpv] at Hpl
        clear hpv
        generalize vs[j] = vj at *
        go_wp2_with (at_builtin; go_must (refine wpList_append_elem rfl _ _ 23 (by rfl) 25 (.agg #[.int .i64 0, .int .i64 0]) 2 16 Try.underlying23 sampleInf rfl (by decide) _ j zs _ w wr #[.int .i64 ((tp : Int) + (1 + (tj : Int))), .int .i64 vj] rfl (by intro u hu; simp at hu; rcases hu with rfl | rfl <;> rfl) hown (by rfl) Hbel.out hsz (by rfl) (by unfold maxLen; omega) (by omega) ?_); intro v' w5 hown5 _ hb5 hs5 _ hn5; obtain ⟨g', c', rfl⟩ := own_some hown5 hn5)
        go_roundw
        case rel => exact ⟨j + 1, g', c', by go_num, by omega, by omega, by rw [Hnx.out]; push_cast; rfl, rfl, by rw [Hpl.out]; exact hown5, hb5, hs5⟩
        case measure => simp [intOf]; omega
      · have hpv : partV vs j = (j : Int) := by unfold partV; rw [if_neg hv]
        rw [hpv] at Hpl
        clear hpv
        have k3 : decide ((j : Int) < (vs.length : Int)) = false := decide_eq_false (by omega)
        go_wp2_with (at_builtin; go_must (refine wpList_append_elem rfl _ _ 23 (by rfl) 25 (.agg #[.int .i64 0, .int .i64 0]) 2 16 Try.underlying23 sampleInf rfl (by decide) _ j zs _ w wr #[.int .i64 ((tp : Int) + (1 + (tj : Int))), .int .i64 (j : Int)] rfl (by intro u hu; simp at hu; rcases hu with rfl | rfl <;> rfl) hown (by rfl) Hbel.out hsz (by rfl) (by unfold maxLen; omega) (by omega) ?_); intro v' w5 hown5 _ hb5 hs5 _ hn5; obtain ⟨g', c', rfl⟩ := own_some hown5 hn5)
        go_roundw
        case rel => exact ⟨j + 1, g', c', by go_num, by omega, by omega, by rw [Hnx.out]; push_cast; rfl, rfl, by rw [Hpl.out]; exact hown5, hb5, hs5⟩
        case measure => simp [intOf]; omega
    · obtain ⟨hf, hok⟩ := partL_fine (n := j) Ht.out Hv.out hj60
      have hlen := partL_length ts vs j
      obtain ⟨A, c', e1, hr, hc, hcm⟩ := own_slice hown
      cases e1
      have k1 : (¬ j < ts.length ∧ decide (j < ts.length) = false ∧ decide ((j : Int) < (ts.length : Int)) = false) ∨ (j < ts.length ∧ decide (j < ts.length) = true ∧ decide ((j : Int) < (ts.length : Int)) = true ∧ decide ((j : Int) < 60) = false) := by
        by_cases h : j < ts.length
        · exact .inr ⟨h, decide_eq_true h, decide_eq_true (by omega), decide_eq_false (by omega)⟩
        · exact .inl ⟨h, decide_eq_false h, decide_eq_false (by omega)⟩
      obtain ⟨L, hL⟩ : ∃ L, L = partL ts vs j := ⟨_, rfl⟩
      rw [← hL] at hf hok hlen hr
      obtain ⟨k, hk⟩ : ∃ k, k = a % (j + 1) := ⟨_, rfl⟩
      have hkl : k ≤ j := by have := Nat.mod_lt a (show 0 < j + 1 by omega); omega
      have hki : (a : Int) % ((j : Int) + 1) = (k : Int) := by rw [hk]; push_cast; rfl
      have hkt : (a : Int).tmod ((j : Int) + 1) = (k : Int) := by rw [Int.tmod_eq_emod_of_nonneg (by omega)]; exact hki
      obtain ⟨L1, hL1⟩ : ∃ L1, L1 = L.take k := ⟨_, rfl⟩
      obtain ⟨L2, hL2⟩ : ∃ L2, L2 = L.drop k := ⟨_, rfl⟩
      have hl1 : L1.length = k := by rw [hL1, List.length_take]; omega
      have hl2 : L2.length = j - k := by rw [hL2, List.length_drop, hlen]
      have hf1 : Fine L1 := by rw [hL1]; exact fine_take hf k
      have hf2 : Fine L2 := by rw [hL2]; exact fine_drop hf k
      have hok1 : ∀ x ∈ L1, Sample.ok x := fun x hx => hok x (List.mem_of_mem_take (hL1 ▸ hx))
      have hok2 : ∀ x ∈ L2, Sample.ok x := fun x hx => hok x (List.mem_of_mem_drop (hL2 ▸ hx))
      have hr1 : Rd wr 2 (some ⟨g, 0, none⟩) k (L1.flatMap sampleCells) := by rw [hL1]; exact Rd.take (by rw [hlen]; exact hr) (by omega)
      have hr2 : Rd wr 2 (some ⟨g, 0 + k * 2, none⟩) (j - k) (L2.flatMap sampleCells) := by rw [hL2, ← hlen]; exact Rd.drop (by rw [hlen]; exact hr) (by omega)
      have hcat : L1 ++ L2 = L := by rw [hL1, hL2]; exact List.take_append_drop k L
      have E1 := fun w' h => denc_all (some ⟨g, 0, none⟩) c L1 w' h hok1 (by omega) (by omega) hcm
      have E2 := fun w' A c (h : Rd w' 2 A L2.length (L2.flatMap sampleCells)) hc hcm => denc_all A c L2 w' h hok2 (by omega) hc hcm
      have E3 := fun w' h => denc_all (some ⟨g, 0, none⟩) c L w' h hok (by omega) (by omega) hcm
      have E4 := fun w' h => rdenc_all (some ⟨g, 0, none⟩) c L w' h hok (by omega)
      obtain ⟨d1, d1'⟩ := dec_enc hf1 hok1 (by omega)
      obtain ⟨d2, d2'⟩ := dec_enc hf2 hok2 (by omega)
      obtain ⟨d3, d3'⟩ := dec_enc hf hok (by omega)
      have z1 := encB_len hf1 hok1 (by omega)
      have z2 := encB_len hf2 hok2 (by omega)
      have z3 := encB_len hf hok (by omega)
      have D1 := fun w => ddec_one (S (encB L1)) w (by rw [S_size]; omega)
      have D2 := fun w => ddec_one (S (encB L2)) w (by rw [S_size]; omega)
      have D3 := fun w => ddec_one (S (encB L)) w (by rw [S_size]; omega)
      simp only [S_toList, d1, d1', hl1] at D1
      simp only [S_toList, d2, d2', hl2] at D2
      simp only [S_toList, d3, d3', hlen] at D3
      simp only [encV_fine hf1, hl1] at E1
      simp only [encV_fine hf2, hl2] at E2
      simp only [encV_fine hf, hlen] at E3 E4
      have SM := Lib.hid (fun A B ca cb w h1 h2 => same03_any A B ca cb L L w h1 h2 (by omega))
      simp only [samesB_self, hlen] at SM
      have HE1 := Lib.hid E1
      have HE2 := Lib.hid E2
      have HE3 := Lib.hid E3
      have HE4 := Lib.hid E4
      have HD1 := Lib.hid D1
      have HD2 := Lib.hid D2
      have HD3 := Lib.hid D3
      have Hr := Lib.hid hr
      have Hr1 := Lib.hid hr1
      have Hr2 := Lib.hid hr2
      have Hb := Lib.hid hbel
      have Hcat := Lib.hid (show L1.flatMap sampleCells ++ L2.flatMap sampleCells = L.flatMap sampleCells by rw [← hcat, List.flatMap_append])
      have hso1 := Lib.hid (sample_one L1)
      have hso2 := Lib.hid (sample_one L2)
      clear E1 E2 E3 E4 D1 D2 D3 d1 d1' d2 d2' d3 d3' z1 z2 z3 hf hok hf1 hf2 hok1 hok2 hr hr1 hr2 hbel hL hk hlen hown hlt hcat hL1 hL2 hl1 hl2
      generalize S (encB L1) = T1 at *
      generalize S (encB L2) = T2 at *
      generalize S (encB L) = T3 at *
      generalize L1.flatMap sampleCells = zs1 at *
      generalize L2.flatMap sampleCells = zs2 at *
      generalize L.flatMap sampleCells = zs at *
      have hkj : (k : Int) ≤ (j : Int) := by omega
      have hjc : (j : Int) ≤ (c : Int) := by omega
      rcases k1 with ⟨k1, k2, k3⟩ | ⟨k1, k2, k3, k4⟩
      all_goals
        rcases Nat.lt_or_ge k c with hck | hck
        · have hcn : ¬ c = k := by omega
          go_wp2_with fail
          refine (HE1.out _ Hr1.out).mono ?_
          rintro e w1 ⟨rfl, hb1⟩
          have Hr' := Lib.hid (Hr.out.below hb1)
          have Hr2' := Lib.hid (Hr2.out.below hb1)
          have Hb1 := Lib.hid (Hb.out.trans (hb1.mono hsz))
          clear hb1
          go_wp2_with fail
          refine (HE2.out _ _ _ (by have := Hr2'.out; rwa [Nat.zero_add] at this) (by omega) (by omega)).mono ?_
          rintro e w2 ⟨rfl, hb2⟩
          have Hr3 := Lib.hid (Hr'.out.below hb2)
          have Hb2 := Lib.hid (Hb1.out.trans (hb2.mono Hb1.out.size))
          clear hb2
          go_wp2_with fail
          refine (HE3.out _ Hr3.out).mono ?_
          rintro e w3 ⟨rfl, hb3⟩
          have Hr4 := Lib.hid (Hr3.out.below hb3)
          have Hb3 := Lib.hid (Hb2.out.trans (hb3.mono Hb2.out.size))
          clear hb3
          go_wp2_with fail
          refine (HD1.out _).mono ?_
          rintro e w4 ⟨Ax, cx, rfl, hx, -, -, hb4⟩
          have Hr5 := Lib.hid (Hr4.out.below hb4)
          have Hx := Lib.hid hx
          have Hb4 := Lib.hid (Hb3.out.trans (hb4.mono Hb3.out.size))
          clear hb4 hx
          go_wp2_with fail
          refine (HD2.out _).mono ?_
          rintro e w5 ⟨Ay, cy, rfl, hy, -, -, hb5⟩
          have Hr6 := Lib.hid (Hr5.out.below hb5)
          have Hx2 := Lib.hid (Hx.out.below hb5)
          have Hy := Lib.hid hy
          have Hb5 := Lib.hid (Hb4.out.trans (hb5.mono Hb4.out.size))
          clear hb5 hy
          go_wp2_with fail
          refine (HD3.out _).mono ?_
          rintro e w6 ⟨Az, cz, rfl, hz, -, -, hb6⟩
          have Hr7 := Lib.hid (Hr6.out.below hb6)
          have Hx3 := Lib.hid (Hx2.out.below hb6)
          have Hy2 := Lib.hid (Hy.out.below hb6)
          have Hz := Lib.hid hz
          have Hb6 := Lib.hid (Hb5.out.trans (hb6.mono Hb5.out.size))
          have hsz6 := Hb6.out.size
          have hm6 := Lib.hid (made0' w6 25 2)
          have Hx4 := Lib.hid (Hx3.out.alloc (.cells #[] 25))
          have Hbm := Lib.hid (Below.one w6 (.cells #[] 25))
          clear hb6 hz
          go_wp2_with (at_builtin; first | (refine wpList_append_rd rfl (.tmp 124) (.tmp 125) 23 (by rfl) 25 (.agg #[.int .i64 0, .int .i64 0]) 2 16 Try.underlying23 sampleInf rfl (by decide) w6.heap.size 0 [] _ w6 _ hm6.out (by rfl) Hbm.out (by simp) Ax k cx zs1 (by rfl) Hx4.out hso1.out (by unfold maxLen; omega) (by omega) ?_; intro v7 w7 hown7 hb7 hs7 hs7' _; have Hy5 := Lib.hid (Hy2.out.below hb7); have Hw7 := Lib.hid hown7; have Hbm7 := Lib.hid hb7; clear hown7 hb7) | (go_must (refine wpList_append_rd rfl (.tmp 127) (.tmp 128) 23 (by rfl) 25 (.agg #[.int .i64 0, .int .i64 0]) 2 16 Try.underlying23 sampleInf rfl (by decide) w6.heap.size (0 + k) ([] ++ zs1) _ w6 _ Hw7.out (by rfl) Hbm7.out hs7 Ay (j - k) cy zs2 (by rfl) Hy5.out hso2.out (by unfold maxLen; omega) (by omega) ?_); intro v8 w8 hown8 hb8 hs8 _ _; have hw8 : w8.ownsRow w6.heap.size 25 2 v8 j zs := (by have h := hown8; rw [List.nil_append, Hcat.out, show 0 + k + (j - k) = j by omega] at h; exact h); obtain ⟨A8, c8, rfl, hr8, -, -⟩ := own_slice hw8; have Hr8 := Lib.hid hr8; have Hrl := Lib.hid (Hr7.out.below hb8); have Hz8 := Lib.hid (Hz.out.below hb8); have Hb8 := Lib.hid (Hb6.out.trans (hb8.mono hsz6)); clear hown8 hb8 hw8 hr8))
          refine (HE4.out _ Hrl.out).mono ?_
          rintro e w9 ⟨rfl, hb9⟩
          have Hr9 := Lib.hid (Hr8.out.below hb9)
          have Hrl9 := Lib.hid (Hrl.out.below hb9)
          have Hz9 := Lib.hid (Hz8.out.below hb9)
          have Hb9 := Lib.hid (Hb8.out.trans (hb9.mono Hb8.out.size))
          clear hb9
          go_wp2_with fail
          refine (SM.out _ _ _ _ _ Hr9.out Hrl9.out).mono ?_
          rintro e w10 ⟨rfl, hb10⟩
          have Hz10 := Lib.hid (Hz9.out.below hb10)
          have Hrl10 := Lib.hid (Hrl9.out.below hb10)
          have Hb10 := Lib.hid (Hb9.out.trans (hb10.mono Hb9.out.size))
          clear hb10
          go_wp2_with fail
          refine (SM.out _ _ _ _ _ Hz10.out Hrl10.out).mono ?_
          rintro e w11 ⟨rfl, hb11⟩
          have Hb11 := Lib.hid (Hb10.out.trans (hb11.mono Hb10.out.size))
          clear hb11
          go_wp2_with fail
          go_ret
          exact ⟨rfl, Hb11.out⟩
        · have h1 : j = k := by omega
          have h2 : j = c := by omega
          subst h1
          subst h2
          simp only [Nat.sub_self] at HE2 HD2 Hr2
          go_wp2_with fail
          refine (HE1.out _ Hr1.out).mono ?_
          rintro e w1 ⟨rfl, hb1⟩
          have Hr' := Lib.hid (Hr.out.below hb1)
          have Hr2' := Lib.hid (Hr2.out.below hb1)
          have Hb1 := Lib.hid (Hb.out.trans (hb1.mono hsz))
          clear hb1
          go_wp2_with fail
          refine (HE2.out _ _ _ (by exact ⟨Hr2'.out.1, fun h => absurd h (by omega)⟩) (by omega) (by omega)).mono ?_
          rintro e w2 ⟨rfl, hb2⟩
          have Hr3 := Lib.hid (Hr'.out.below hb2)
          have Hb2 := Lib.hid (Hb1.out.trans (hb2.mono Hb1.out.size))
          clear hb2
          go_wp2_with fail
          refine (HE3.out _ Hr3.out).mono ?_
          rintro e w3 ⟨rfl, hb3⟩
          have Hr4 := Lib.hid (Hr3.out.below hb3)
          have Hb3 := Lib.hid (Hb2.out.trans (hb3.mono Hb2.out.size))
          clear hb3
          go_wp2_with fail
          refine (HD1.out _).mono ?_
          rintro e w4 ⟨Ax, cx, rfl, hx, -, -, hb4⟩
          have Hr5 := Lib.hid (Hr4.out.below hb4)
          have Hx := Lib.hid hx
          have Hb4 := Lib.hid (Hb3.out.trans (hb4.mono Hb3.out.size))
          clear hb4 hx
          go_wp2_with fail
          refine (HD2.out _).mono ?_
          rintro e w5 ⟨Ay, cy, rfl, hy, -, -, hb5⟩
          have Hr6 := Lib.hid (Hr5.out.below hb5)
          have Hx2 := Lib.hid (Hx.out.below hb5)
          have Hy := Lib.hid hy
          have Hb5 := Lib.hid (Hb4.out.trans (hb5.mono Hb4.out.size))
          clear hb5 hy
          go_wp2_with fail
          refine (HD3.out _).mono ?_
          rintro e w6 ⟨Az, cz, rfl, hz, -, -, hb6⟩
          have Hr7 := Lib.hid (Hr6.out.below hb6)
          have Hx3 := Lib.hid (Hx2.out.below hb6)
          have Hy2 := Lib.hid (Hy.out.below hb6)
          have Hz := Lib.hid hz
          have Hb6 := Lib.hid (Hb5.out.trans (hb6.mono Hb5.out.size))
          have hsz6 := Hb6.out.size
          have hm6 := Lib.hid (made0' w6 25 2)
          have Hx4 := Lib.hid (Hx3.out.alloc (.cells #[] 25))
          have Hbm := Lib.hid (Below.one w6 (.cells #[] 25))
          clear hb6 hz
          go_wp2_with (at_builtin; first | (refine wpList_append_rd rfl (.tmp 124) (.tmp 125) 23 (by rfl) 25 (.agg #[.int .i64 0, .int .i64 0]) 2 16 Try.underlying23 sampleInf rfl (by decide) w6.heap.size 0 [] _ w6 _ hm6.out (by rfl) Hbm.out (by simp) Ax j cx zs1 (by rfl) Hx4.out hso1.out (by unfold maxLen; omega) (by omega) ?_; intro v7 w7 hown7 hb7 hs7 hs7' _; have Hy5 := Lib.hid (Hy2.out.below hb7); have Hw7 := Lib.hid hown7; have Hbm7 := Lib.hid hb7; clear hown7 hb7) | (go_must (refine wpList_append_rd rfl (.tmp 127) (.tmp 128) 23 (by rfl) 25 (.agg #[.int .i64 0, .int .i64 0]) 2 16 Try.underlying23 sampleInf rfl (by decide) w6.heap.size (0 + j) ([] ++ zs1) _ w6 _ Hw7.out (by rfl) Hbm7.out hs7 Ay 0 cy zs2 (by rfl) Hy5.out hso2.out (by unfold maxLen; omega) (by omega) ?_); intro v8 w8 hown8 hb8 hs8 _ _; have hw8 : w8.ownsRow w6.heap.size 25 2 v8 j zs := (by have h := hown8; rw [List.nil_append, Hcat.out, show 0 + j + 0 = j by omega] at h; exact h); obtain ⟨A8, c8, rfl, hr8, -, -⟩ := own_slice hw8; have Hr8 := Lib.hid hr8; have Hrl := Lib.hid (Hr7.out.below hb8); have Hz8 := Lib.hid (Hz.out.below hb8); have Hb8 := Lib.hid (Hb6.out.trans (hb8.mono hsz6)); clear hown8 hb8 hw8 hr8))
          refine (HE4.out _ Hrl.out).mono ?_
          rintro e w9 ⟨rfl, hb9⟩
          have Hr9 := Lib.hid (Hr8.out.below hb9)
          have Hrl9 := Lib.hid (Hrl.out.below hb9)
          have Hz9 := Lib.hid (Hz8.out.below hb9)
          have Hb9 := Lib.hid (Hb8.out.trans (hb9.mono Hb8.out.size))
          clear hb9
          go_wp2_with fail
          refine (SM.out _ _ _ _ _ Hr9.out Hrl9.out).mono ?_
          rintro e w10 ⟨rfl, hb10⟩
          have Hz10 := Lib.hid (Hz9.out.below hb10)
          have Hrl10 := Lib.hid (Hrl9.out.below hb10)
          have Hb10 := Lib.hid (Hb9.out.trans (hb10.mono Hb9.out.size))
          clear hb10
          go_wp2_with fail
          refine (SM.out _ _ _ _ _ Hz10.out Hrl10.out).mono ?_
          rintro e w11 ⟨rfl, hb11⟩
          have Hb11 := Lib.hid (Hb10.out.trans (hb11.mono Hb10.out.size))
          clear hb11
          go_wp2_with fail
          go_ret
          exact ⟨rfl, Hb11.out⟩
end Go.Proofs.Ytjendmojkdkipaa
