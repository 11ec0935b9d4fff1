/-
  The walk of the law 'RunsFences'.
-/
import Derived.Test.YthmikefinibecaaLawRunsC
namespace Go.Proofs.Ythmikefinibecaa
open Go Go.RowKit Go.Deep Go.ChangeShapes Go.WideShapes

/-- where row i stands in its block -/
theorem fence_row {rows : List Row} (hg : goodR rows = true) {i : Nat} (hi : i < rows.length) :
    i / 16 < chN rows.length ∧ firstT (chOf rows (i / 16)) ≤ rows[i].T ∧ rows[i].T ≤ lastOf (firstT (chOf rows (i / 16))) (chOf rows (i / 16)) ∧ 0 ≤ firstT (chOf rows (i / 16)) ∧ lastOf (firstT (chOf rows (i / 16))) (chOf rows (i / 16)) < 1099511627776 ∧
      (i % 16 = 0 → rows[i].T = firstT (chOf rows (i / 16))) ∧ (i % 16 = 15 → rows[i].T = lastOf (firstT (chOf rows (i / 16))) (chOf rows (i / 16))) := by
  have hj : i / 16 < chN rows.length := by unfold chN; omega
  have hl : (chOf rows (i / 16)).length = chLen rows.length (i / 16) := ch_len _ _
  have hr : i % 16 < (chOf rows (i / 16)).length := by rw [hl]; unfold chLen; omega
  obtain ⟨h', e⟩ := ch_get hr
  have hi' : i / 16 * 16 + i % 16 = i := by omega
  have e1 : rows[i / 16 * 16 + i % 16] = rows[i] := by congr 1
  rw [e1] at e
  have hf := ch_fine hg (i / 16)
  have m1 := fine_mono hf (Nat.zero_le (i % 16)) hr
  have m2 := fine_mono hf (show i % 16 ≤ (chOf rows (i / 16)).length - 1 by omega) (by omega)
  have hlast := lastOf_last (chOf rows (i / 16)) (firstT (chOf rows (i / 16))) (by intro h; rw [h] at hr; simp at hr)
  rw [← hlast] at m2
  rw [rAt_get hr, e] at m1 m2
  obtain ⟨r1, r2, r3⟩ := last_rng hg hj
  refine ⟨hj, m1, m2, r1, r3, fun h0 => ?_, fun h15 => ?_⟩
  · unfold firstT
    have : (rAt (chOf rows (i / 16)) (i % 16)).T = rows[i].T := by rw [rAt_get hr, e]
    rw [h0] at this
    exact this.symm
  · rw [hlast]
    have hl16 : (chOf rows (i / 16)).length - 1 = i % 16 := by
      have : (chOf rows (i / 16)).length ≤ 16 := by rw [hl]; unfold chLen; omega
      omega
    rw [hl16, rAt_get hr, e]

set_option linter.unusedSimpArgs false in
set_option maxRecDepth 100000 in
set_option maxHeartbeats 4000000 in
theorem runsFences_walk (w : World) (v0 : Value) (g0 : ∃ A c, ∃ xs : List Row, v0 = .slice A xs.length c ∧ Rd w 3 A xs.length (xs.flatMap rowCells) ∧ (∀ x ∈ xs, Row.ok x) ∧ xs.length ≤ c ∧ c ≤ maxLen) :
    Calls Try.prog 4 #[v0] w fun e w' => e = .returned (.bool true) ∧ Below w.heap.size w w' := by
  obtain ⟨A, c, rows, rfl, hrd, hok, hc, hcm⟩ := g0
  by_cases hl : 300 < rows.length
  · have k1 : decide (300 < rows.length) = true := decide_eq_true hl
    have k2 : decide ((300 : Int) < (rows.length : Int)) = true := decide_eq_true (by omega)
    clear hl hrd hok
    go_enter Try.func4, Try.ntmps4
    go_wp2_with fail
    go_ret
    exact ⟨rfl, Below.refl _ _⟩
  have k1 : decide (300 < rows.length) = false := decide_eq_false hl
  have k2 : decide ((300 : Int) < (rows.length : Int)) = false := decide_eq_false (by omega)
  have C1 := fun w' (hb : Below w.heap.size w w') => enc_all A c rows w' (hrd.below hb) hok (by omega) hc hcm
  have C2 := fun w' (hb : Below w.heap.size w w') => renc_all A c rows w' (hrd.below hb) hok (by omega) hc hcm
  have Hrd := Lib.hid hrd
  by_cases hg : goodR rows = true
  · simp only [encRV_good hg (show rows.length ≤ 5000 by omega)] at C1 C2
    obtain ⟨h1, h2⟩ := encR_len hg hok (by omega)
    have C4 := fun w' => blocks_u (S (encR rows)) w' (by rw [S_size]; exact h1)
    unfold BlkU at C4
    obtain ⟨e3, e4⟩ := blkL_back hg hok (by omega)
    rw [S_toList, e3, e4] at C4
    simp only [List.length_map, List.length_range] at C4
    obtain ⟨T, hT⟩ : ∃ T, S (encR rows) = T := ⟨_, rfl⟩
    simp only [hT] at C1 C2 C4
    obtain ⟨N, hNN⟩ : ∃ N, chN rows.length = N := ⟨_, rfl⟩
    have hN : (N : Int) = ((rows.length : Int) + 15) / 16 := by rw [← hNN]; unfold chN; omega
    simp only [hNN] at C4
    have H1 := Lib.hid C1
    have H2 := Lib.hid C2
    have H4 := Lib.hid C4
    have q1 : ((N : Int) == ((rows.length : Int) + 15) / 16) = true := beq_iff_eq.2 hN
    have q2 : ((N : Int) != ((rows.length : Int) + 15) / 16) = false := by rw [bne, q1]; rfl
    have HNN := Lib.hid hNN
    have Hg := Lib.hid hg
    clear hNN C1 C2 C4 hT h1 h2 hg hok hrd e3 e4 hN
    go_enter Try.func4, Try.ntmps4
    go_wp2_with fail
    refine (H1.out _ (Below.refl _ _)).mono ?_
    rintro e w1 ⟨rfl, hb1⟩
    have B1 := Lib.hid hb1
    clear hb1
    go_wp2_with fail
    refine (H2.out _ B1.out).mono ?_
    rintro e w2 ⟨rfl, hb2⟩
    have B2 := Lib.hid (B1.out.then hb2)
    clear hb2 B1 H1 H2
    go_wp2_with fail
    refine (blk_nil _).mono ?_
    rintro e w3 ⟨A3, c3, rfl, hb3⟩
    have B3 := Lib.hid (B2.out.then hb3)
    clear hb3 B2
    go_wp2_with fail
    refine (H4.out _).mono ?_
    rintro e w4 ⟨A4, c4, rfl, hr4, hn4, hb4⟩
    have B4 := Lib.hid (B3.out.then hb4)
    have R4 := Lib.hid hr4
    have Rr := Lib.hid (Hrd.out.below B4.out)
    clear hb4 hr4 B3 H4 Hrd
    obtain ⟨n, hn⟩ : ∃ n, rows.length = n := ⟨_, rfl⟩
    have Hn := Lib.hid hn
    have hn3 : n ≤ 300 := by omega
    rw [hn] at Rr q1 q2 ⊢
    clear hn
    go_wp2_with fail
    go_loopw [11] (fun ix wr => ∃ i : Nat, ix = .int .i64 i ∧ i ≤ n ∧ Below w4.heap.size w4 wr) (fun ix _ => n - (intOf ix).toNat)
    case atStart => exact ⟨0, rfl, by omega, Below.refl _ _⟩
    case round =>
      obtain ⟨i, rfl, hi, hbel⟩ := hrel
      have Hbel := Lib.hid hbel
      clear hbel
      by_cases hlt : i < n
      · have hlt' : i < rows.length := by have := Hn.out; omega
        obtain ⟨f1, f2, f3, f4, f5, f6, f7⟩ := fence_row Hg.out hlt'
        rw [HNN.out] at f1
        obtain ⟨b, off, rfl, hbb, s0, -, -⟩ := row_at (Rr.out.below Hbel.out) hlt'
        have hmp : i / 16 < ((List.range N).map (fenOf rows)).length := by simp; exact f1
        obtain ⟨g1, o1, rfl, hg1, hf1⟩ := (R4.out.below Hbel.out).elem rngC_length (by decide) hmp
        have t0 := hf1 0 _ rfl
        have t1 := hf1 1 _ rfl
        have hfe : ((List.range N).map (fenOf rows))[i / 16] = fenOf rows (i / 16) := by simp
        rw [hfe] at t0 t1
        rw [show (fenOf rows (i / 16)).F = firstT (chOf rows (i / 16)) from rfl] at t0
        rw [show (fenOf rows (i / 16)).T = lastOf (firstT (chOf rows (i / 16))) (chOf rows (i / 16)) + 1 from rfl] at t1
        obtain ⟨F, hF⟩ : ∃ F, firstT (chOf rows (i / 16)) = F := ⟨_, rfl⟩
        rw [hF] at f2 f3 f4 f5 f6 f7 t0 t1
        obtain ⟨L, hL⟩ : ∃ L, lastOf F (chOf rows (i / 16)) = L := ⟨_, rfl⟩
        rw [hL] at f3 f5 f7 t1
        obtain ⟨X, hX⟩ : ∃ X, rows[i].T = X := ⟨_, rfl⟩
        rw [hX] at s0 f2 f3 f6 f7
        simp only [Nat.add_zero] at t0 t1
        have t1' : wr.cell? ⟨g1, o1 + i / 16 * 2 + 1, none⟩ = some (.int .i64 (L + 1)) := by rw [Nat.add_assoc]; exact t1
        have hi1 : (i : Int) < n := by omega
        have hi2 : (i : Int) / 16 < N := by omega
        have hi3 : ((i : Int) / 16).toNat = i / 16 := by omega
        have hi4 : (0 : Int) ≤ (i : Int) / 16 := by omega
        have c1 : decide (X < F) = false := decide_eq_false (by omega)
        have c2 : decide (L + 1 ≤ X) = false := decide_eq_false (by omega)
        have hL1 : IntKind.i64.wrap (L + 1 - 1) = L := by rw [IntKind.wrap_i64]; omega
        have hL2 : IntKind.i64.wrap L = L := by rw [IntKind.wrap_i64]; omega
        have hcs : (i % 16 = 0 ∧ X = F) ∨ (i % 16 = 15 ∧ X = L) ∨ (i % 16 ≠ 0 ∧ i % 16 ≠ 15) := by
          by_cases a0 : i % 16 = 0
          · exact .inl ⟨a0, f6 a0⟩
          · by_cases a1 : i % 16 = 15
            · exact .inr (.inl ⟨a1, f7 a1⟩)
            · exact .inr (.inr ⟨a0, a1⟩)
        clear hfe hf1 t1 f6 f7 hF hL hX hlt' hmp f1
        rcases hcs with ⟨a0, a1⟩ | ⟨a0, a1⟩ | ⟨a0, a1⟩
        · have d1 : ((i : Int) % 16 == 0) = true := beq_iff_eq.2 (by omega)
          have d2 : ((i : Int) % 16 == 15) = false := beq_eq_false_iff_ne.2 (by omega)
          have d3 : (X != F) = false := by rw [a1]; simp
          clear a0 a1 f2 f3 f4 f5
          go_wp2_with fail
          go_quiet (fail)
          go_wp2_with fail
          go_roundw
          case rel => exact ⟨i + 1, by go_num, by omega, below_drewN (Hbel.out.alloc Hbel.out.size _) _⟩
          case measure => simp [intOf]; omega
        · have d1 : ((i : Int) % 16 == 0) = false := beq_eq_false_iff_ne.2 (by omega)
          have d2 : ((i : Int) % 16 == 15) = true := beq_iff_eq.2 (by omega)
          have d3 : (X != L) = false := by rw [a1]; simp
          clear a0 a1 f2 f3 f4 f5
          go_wp2_with fail
          go_quiet (fail)
          go_wp2_with fail
          go_roundw
          case rel => exact ⟨i + 1, by go_num, by omega, below_drewN (Hbel.out.alloc Hbel.out.size _) _⟩
          case measure => simp [intOf]; omega
        · have d1 : ((i : Int) % 16 == 0) = false := beq_eq_false_iff_ne.2 (by omega)
          have d2 : ((i : Int) % 16 == 15) = false := beq_eq_false_iff_ne.2 (by omega)
          clear a0 a1 f2 f3 f4 f5
          go_wp2_with fail
          go_quiet (fail)
          go_wp2_with fail
          go_roundw
          case rel => exact ⟨i + 1, by go_num, by omega, below_drewN (Hbel.out.alloc Hbel.out.size _) _⟩
          case measure => simp [intOf]; omega
      · obtain rfl : i = n := by omega
        have HB := Lib.hid (B4.out.trans (Hbel.out.mono B4.out.size))
        have R5 := Lib.hid (R4.out.below Hbel.out)
        clear q1 q2 Rr R4 hlt hi
        go_wp2_with fail
        go_loopw [13] (fun jx wy => ∃ j : Nat, jx = .int .i64 j ∧ 1 ≤ j ∧ (j ≤ N ∨ j = 1) ∧ Below wr.heap.size wr wy) (fun jx _ => N - (intOf jx).toNat)
        case atStart => exact ⟨1, rfl, by omega, .inr rfl, Below.refl _ _⟩
        case round =>
          rename World => wy
          obtain ⟨j, rfl, hj1, hj2, hby⟩ := hrel
          have Hby := Lib.hid hby
          clear hby
          by_cases hlt : j < N
          · have hm1 : j < ((List.range N).map (fenOf rows)).length := by simp; exact hlt
            have hm2 : j - 1 < ((List.range N).map (fenOf rows)).length := by simp; omega
            obtain ⟨g1, o1, rfl, hg1, hf1⟩ := (R5.out.below Hby.out).elem rngC_length (by decide) hm1
            obtain ⟨g2, o2, e, hg2, hf2⟩ := (R5.out.below Hby.out).elem rngC_length (by decide) hm2
            obtain ⟨rfl, rfl⟩ : g1 = g2 ∧ o1 = o2 := by simpa using e
            have t0 := hf1 0 _ rfl
            have t1 := hf2 1 _ rfl
            have hfe : ((List.range N).map (fenOf rows))[j] = fenOf rows j := by simp
            have hfe2 : ((List.range N).map (fenOf rows))[j - 1] = fenOf rows (j - 1) := by simp
            have hlf := last_first Hg.out (i := j - 1) (by rw [HNN.out]; omega)
            have hlr := last_rng Hg.out (i := j - 1) (by rw [HNN.out]; omega)
            rw [show j - 1 + 1 = j by omega] at hlf
            rw [hfe] at t0
            rw [hfe2] at t1
            rw [show (fenOf rows j).F = firstT (chOf rows j) from rfl] at t0
            rw [show (fenOf rows (j - 1)).T = lastOf (firstT (chOf rows (j - 1))) (chOf rows (j - 1)) + 1 from rfl] at t1
            obtain ⟨F, hF⟩ : ∃ F, firstT (chOf rows j) = F := ⟨_, rfl⟩
            rw [hF] at hlf t0
            obtain ⟨L, hL⟩ : ∃ L, lastOf (firstT (chOf rows (j - 1))) (chOf rows (j - 1)) = L := ⟨_, rfl⟩
            rw [hL] at hlf hlr t1
            simp only [Nat.add_zero] at t0 t1
            have t1' : wy.cell? ⟨g1, o1 + (j - 1) * 2 + 1, none⟩ = some (.int .i64 (L + 1)) := by rw [Nat.add_assoc]; exact t1
            have c1 : decide (F < L) = false := decide_eq_false (by omega)
            have hL1 : IntKind.i64.wrap (L + 1 - 1) = L := by rw [IntKind.wrap_i64]; omega
            have hL2 : IntKind.i64.wrap L = L := by rw [IntKind.wrap_i64]; omega
            have hk1 : (j : Int) < N := by omega
            have hk2 : (0 : Int) ≤ (j : Int) - 1 := by omega
            have hk3 : (j : Int) - 1 < N := by omega
            have hk4 : IntKind.i64.wrap ((j : Int) - 1) = (j : Int) - 1 := by rw [IntKind.wrap_i64]; omega
            have hk5 : ((j : Int) - 1).toNat = j - 1 := by omega
            have hk6 : (1 : Int) ≤ j := by omega
            clear hfe hfe2 hf1 hf2 t1 hF hL hlf hlr e hm1 hm2
            go_wp2_with fail
            go_quiet (fail)
            go_wp2_with fail
            go_roundw
            case rel => exact ⟨j + 1, by go_num, by omega, .inl (by omega), below_drewN Hby.out _⟩
            case measure => simp [intOf]; omega
          · have hj0 : decide (j < N) = false := decide_eq_false hlt
            go_wp2_with fail
            go_ret
            exact ⟨rfl, HB.out.trans (Hby.out.mono HB.out.size)⟩
  · have hV : encRV rows = ([], 30) := if_neg (fun h => hg h.1)
    simp only [hV, S_empty] at C1 C2
    have H1 := Lib.hid C1
    have H2 := Lib.hid C2
    clear C1 C2 hg hok hrd hV
    go_enter Try.func4, Try.ntmps4
    go_wp2_with fail
    refine (H1.out _ (Below.refl _ _)).mono ?_
    rintro e w1 ⟨rfl, hb1⟩
    have B1 := Lib.hid hb1
    clear hb1
    go_wp2_with fail
    refine (H2.out _ B1.out).mono ?_
    rintro e w2 ⟨rfl, hb2⟩
    have B2 := Lib.hid (B1.out.then hb2)
    clear hb2 B1 H1 H2
    go_wp2_with fail
    refine (blk_nil _).mono ?_
    rintro e w3 ⟨A3, c3, rfl, hb3⟩
    have B3 := Lib.hid (B2.out.then hb3)
    clear hb3 B2
    go_wp2_with fail
    go_ret
    exact ⟨rfl, B3.out⟩
end Go.Proofs.Ythmikefinibecaa
