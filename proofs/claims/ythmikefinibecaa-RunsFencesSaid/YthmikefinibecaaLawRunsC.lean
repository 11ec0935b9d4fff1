/-
  The walk of the law 'RunsIn'.
-/
import Derived.Test.YthmikefinibecaaLawRunsB
namespace Go.Proofs.Ythmikefinibecaa
open Go Go.RowKit Go.Deep Go.ChangeShapes Go.WideShapes

theorem betL_back {rows : List Row} (hg : goodR rows = true) (hok : ∀ x ∈ rows, Row.ok x) (hl : rows.length ≤ 5000) (x y : Int) : betL (encR rows) x y = rows.filter (inR x y) ∧ betE (encR rows) x y = 0 := by
  have h := betS_back hg hok hl x y
  unfold betL betE
  rw [h]
  exact ⟨rfl, rfl⟩
theorem blkL_back {rows : List Row} (hg : goodR rows = true) (hok : ∀ x ∈ rows, Row.ok x) (hl : rows.length ≤ 5000) : blkL (encR rows) = (List.range (chN rows.length)).map (fenOf rows) ∧ blkE (encR rows) = 0 := by
  have h := fences_back hg hok hl
  unfold blkL blkE
  rw [h]
  exact ⟨rfl, rfl⟩

set_option linter.unusedSimpArgs false in
set_option maxRecDepth 100000 in
set_option maxHeartbeats 4000000 in
theorem runsIn_walk (w : World) (v0 v1 : Value) (g0 : ∃ A c, ∃ xs : List Row, v0 = .slice A xs.length c ∧ Rd w 3 A xs.length (xs.flatMap rowCells) ∧ (∀ x ∈ xs, Row.ok x) ∧ xs.length ≤ c ∧ c ≤ maxLen) (g1 : ∃ x y : Int, v1 = .agg #[.int .i64 x, .int .i64 y] ∧ I64 x ∧ I64 y) :
    Calls Try.prog 8 #[v0, v1] w fun e w' => e = .returned (.bool true) ∧ Below w.heap.size w w' := by
  obtain ⟨A, c, rows, rfl, hrd, hok, hc, hcm⟩ := g0
  obtain ⟨x, y, rfl, -, -⟩ := g1
  by_cases hl : 300 < rows.length
  · have k1 : decide (300 < rows.length) = true := decide_eq_true hl
    have k2 : decide ((300 : Int) < (rows.length : Int)) = true := decide_eq_true (by omega)
    clear hl hrd hok
    go_enter Try.func8, Try.ntmps8
    go_wp2_with fail
    go_ret
    exact ⟨rfl, (Below.refl _ _).alloc (Nat.le_refl _) _⟩
  have k1 : decide (300 < rows.length) = false := decide_eq_false hl
  have k2 : decide ((300 : Int) < (rows.length : Int)) = false := decide_eq_false (by omega)
  have HB0 := Lib.hid (show Below w.heap.size w (w.alloc (.cells #[.int .i64 x, .int .i64 y] 23)) from Below.one _ _)
  have Hbx := Lib.hid (show RBox w.heap.size x y (w.alloc (.cells #[.int .i64 x, .int .i64 y] 23)) from heap_alloc_new w _)
  have hBz : w.heap.size < (w.alloc (.cells #[.int .i64 x, .int .i64 y] 23)).heap.size := by simp
  have C1 := fun w' (hb : Below w.heap.size w w') => enc_all A c rows w' (hrd.below hb) hok (by omega) hc hcm
  have C2 := fun w' (hb : Below w.heap.size w w') => renc_all A c rows w' (hrd.below hb) hok (by omega) hc hcm
  have Hrd := Lib.hid hrd
  by_cases hg : goodR rows = true
  · simp only [encRV_good hg (show rows.length ≤ 5000 by omega)] at C1 C2
    obtain ⟨h1, h2⟩ := encR_len hg hok (by omega)
    have C3 := fun w' => between_u (S (encR rows)) x y w' (by rw [S_size]; exact h1)
    have C4 := fun w' => blocks_u (S (encR rows)) w' (by rw [S_size]; exact h1)
    unfold BetU at C3
    unfold BlkU at C4
    obtain ⟨e1, e2⟩ := betL_back hg hok (by omega) x y
    obtain ⟨e3, e4⟩ := blkL_back hg hok (by omega)
    rw [S_toList, e1, e2] at C3
    rw [S_toList, e3, e4] at C4
    simp only [List.length_map, List.length_range] at C4
    obtain ⟨T, hT⟩ : ∃ T, S (encR rows) = T := ⟨_, rfl⟩
    simp only [hT] at C1 C2 C3 C4
    have H1 := Lib.hid C1
    have H2 := Lib.hid C2
    have H3 := Lib.hid C3
    have H4 := Lib.hid C4
    have hN : (chN rows.length : Int) = ((rows.length : Int) + 15) / 16 := by unfold chN; omega
    obtain ⟨N, hNN⟩ : ∃ N, chN rows.length = N := ⟨_, rfl⟩
    simp only [hNN] at H4
    rw [hNN] at hN
    have q1 : ((N : Int) == ((rows.length : Int) + 15) / 16) = true := beq_iff_eq.2 hN
    clear hNN C1 C2 C3 C4 hT h1 h2 hg hok hrd e1 e2 e3 e4 hN
    go_enter Try.func8, Try.ntmps8
    go_wp2_with fail
    generalize w.alloc (.cells #[.int .i64 x, .int .i64 y] 23) = w0 at *
    refine (H1.out _ HB0.out).mono ?_
    rintro e w1 ⟨rfl, hb1⟩
    have B1 := Lib.hid hb1
    clear hb1
    go_wp2_with fail
    refine (H2.out _ (HB0.out.then B1.out)).mono ?_
    rintro e w2 ⟨rfl, hb2⟩
    have B2 := Lib.hid (B1.out.then hb2)
    clear hb2 B1 H1 H2
    go_wp2_with fail
    refine (blk_nil _).mono ?_
    rintro e w3 ⟨A3, c3, rfl, hb3⟩
    have B3 := Lib.hid (B2.out.then hb3)
    clear hb3 B2
    obtain ⟨x0, x1⟩ := (show RBox w.heap.size x y w3 from (B3.out.block _ hBz).trans Hbx.out).cells
    go_wp2_with fail
    refine (H3.out _).mono ?_
    rintro e w4 ⟨A4, c4, rfl, hr4, hn4, hb4⟩
    have B4 := Lib.hid (B3.out.then hb4)
    have R4 := Lib.hid hr4
    clear hb4 hr4 B3 H3 x0 x1
    have HM := Lib.hid (Lie.made (fun k => k < w4.heap.size) w4 36 3 (fun k hk => hk))
    have HbM := Lib.hid (Below.one w4 (.cells #[] 36))
    go_wp2_with fail
    generalize w4.alloc (.cells #[] 36) = wm at *
    obtain ⟨n, hn⟩ : ∃ n, rows.length = n := ⟨_, rfl⟩
    have Hn := Lib.hid hn
    have hn3 : n ≤ 300 := by omega
    rw [hn] at Hrd q1 ⊢
    clear hn
    go_loopw [13, 14] (fun ov ix wr => ∃ (i : Nat) (acc : List Row) (A' : Option Addr) (c' : Nat), ix = .int .i64 i ∧ ov = .slice A' acc.length c' ∧ i ≤ n ∧ Hid (acc = (rows.take i).filter (inR x y)) ∧ acc.length ≤ i ∧ Lie (fun k => k < w4.heap.size) 36 3 (.slice A' acc.length c') acc.length (acc.flatMap rowCells) wr ∧ Below w4.heap.size w4 wr) (fun _ ix _ => n - (intOf ix).toNat)
    case atStart => exact ⟨0, [], _, 0, rfl, rfl, by omega, Lib.hid (by simp), by simp, HM.out, HbM.out⟩
    case round =>
      obtain ⟨i, acc, A', c', rfl, rfl, hi, hac, hle, hlie, hbel⟩ := hrel
      have Hlie := Lib.hid hlie
      have Hbel := Lib.hid hbel
      obtain ⟨m, hm⟩ : ∃ m, acc.length = m := ⟨_, rfl⟩
      rw [hm] at Hlie hle ⊢
      have Hm := Lib.hid hm
      clear hlie hbel hm
      have hB4 := HB0.out.then (B4.out.trans (Hbel.out.mono B4.out.size))
      have hsz4 := B4.out.size
      by_cases hlt : i < n
      · have hlt' : i < rows.length := by have := Hn.out; omega
        obtain ⟨b, off, rfl, hbb, s0, s1, s2⟩ := row_at (Hrd.out.below hB4) hlt'
        obtain ⟨x0, x1⟩ := (show RBox w.heap.size x y wr from (Hbel.out.block _ (by omega)).trans ((B4.out.block _ hBz).trans Hbx.out)).cells
        have hft := filter_take (p := inR x y) hlt'
        obtain ⟨r, hr⟩ : ∃ r, rows[i] = r := ⟨_, rfl⟩
        rw [hr] at s0 s1 s2 hft
        have Hft := Lib.hid hft
        clear hr hft hlt' hB4
        obtain ⟨T', I', V'⟩ := r
        simp only at s0 s1 s2
        have hi1 : (i : Int) < n := by omega
        have hc : ¬ x ≤ T' ∨ (x ≤ T' ∧ ¬ T' < y) ∨ (x ≤ T' ∧ T' < y) := by omega
        rcases hc with h1 | ⟨h1, h2⟩ | ⟨h1, h2⟩
        · have k3 : decide (x ≤ T') = false := decide_eq_false h1
          have HI := Lib.hid (show inR x y ⟨T', I', V'⟩ = false by unfold inR; simp only [k3, Bool.false_and])
          clear h1
          go_wp2_with fail
          go_quiet (fail)
          go_wp2_with fail
          go_roundw
          case rel => exact ⟨i + 1, acc, A', c', by go_num, by rw [Hm.out], by omega, Lib.hid (by rw [Hft.out, HI.out, if_neg (by simp), List.append_nil]; exact hac.out), by rw [Hm.out]; omega, by rw [Hm.out]; exact Hlie.out.below (below_drewN (Below.refl _ _) _), below_drewN Hbel.out _⟩
          case measure => simp [intOf]; omega
        · have k3 : decide (x ≤ T') = true := decide_eq_true h1
          have k4 : decide (T' < y) = false := decide_eq_false h2
          have HI := Lib.hid (show inR x y ⟨T', I', V'⟩ = false by unfold inR; simp only [k3, k4, Bool.and_false])
          clear h1 h2
          go_wp2_with fail
          go_quiet (fail)
          go_wp2_with fail
          go_roundw
          case rel => exact ⟨i + 1, acc, A', c', by go_num, by rw [Hm.out], by omega, Lib.hid (by rw [Hft.out, HI.out, if_neg (by simp), List.append_nil]; exact hac.out), by rw [Hm.out]; omega, by rw [Hm.out]; exact Hlie.out.below (below_drewN (Below.refl _ _) _), below_drewN Hbel.out _⟩
          case measure => simp [intOf]; omega
        · have k3 : decide (x ≤ T') = true := decide_eq_true h1
          have k4 : decide (T' < y) = true := decide_eq_true h2
          have HI := Lib.hid (show inR x y ⟨T', I', V'⟩ = true by unfold inR; simp only [k3, k4, Bool.and_true])
          clear h1 h2
          go_wp2_with fail
          go_quiet (fail)
          have HLd := Lib.hid (Hlie.out.below (below_drewN (Below.refl _ _) nq))
          have Hbeld := Lib.hid (below_drewN Hbel.out nq)
          have hold : Old (fun k => k < w4.heap.size) (wr.drewN nq) := fun j hj => Nat.lt_of_lt_of_le hj Hbel.out.size
          go_wp2_with (at_builtin; go_must (refine wpList_append_elem_row rfl (.tmp 76) (.tmp 81) 28 (by rfl) 36 (.agg #[.int .i64 0, .int .i64 0, .int .i64 0]) 3 24 Try.underlying28 rowInf rfl (by decide) _ m _ _ (wr.drewN nq) #[.int .i64 T', .int .i64 I', .int .i64 V'] rfl (by intro u hu; simp at hu; rcases hu with rfl | rfl | rfl <;> rfl) HLd.out (by rfl) hold (by rfl) (by unfold maxLen; omega) (by omega) ?_); intro v8 w8 hown8 hst8 hgr8 hat8; have Hl8 := Lib.hid hown8; have Hb8 := Lib.hid (Hbeld.out.trans (hst8.below fun k hk => hk)); obtain ⟨A8, c8, rfl⟩ := hown8.form; clear hown8 hst8 hgr8 hat8)
          go_roundw
          case rel =>
            have hl1 : (acc ++ [(⟨T', I', V'⟩ : Row)]).length = m + 1 := by rw [List.length_append, Hm.out]; rfl
            have hf1 : (acc ++ [(⟨T', I', V'⟩ : Row)]).flatMap rowCells = acc.flatMap rowCells ++ #[Value.int .i64 T', .int .i64 I', .int .i64 V'].toList := by simp [rowCells]
            exact ⟨i + 1, acc ++ [⟨T', I', V'⟩], A8, c8, by go_num, by rw [hl1], by omega, Lib.hid (by rw [Hft.out, HI.out, if_pos rfl, hac.out]), by rw [hl1]; omega, by rw [hl1, hf1]; exact Hl8.out, Hb8.out⟩
          case measure => simp [intOf]; omega
      · obtain rfl : i = n := by omega
        have hA : acc = rows.filter (inR x y) := by rw [hac.out, List.take_of_length_le (by rw [Hn.out]; exact Nat.le_refl _)]
        have HA := Lib.hid hA
        have Rwant := Lib.hid (show Rd wr 3 A' acc.length (acc.flatMap rowCells) by rw [Hm.out]; exact Hlie.out.rd)
        have Rbet := Lib.hid (R4.out.below Hbel.out)
        have HBe := Lib.hid hB4
        clear hA hB4 hsz4
        go_wp2_with fail
        refine (H4.out _).mono ?_
        rintro e w5 ⟨A5, c5, rfl, -, hn5, hb5⟩
        have B5 := Lib.hid (HBe.out.then hb5)
        have Rw5 := Lib.hid (Rwant.out.below hb5)
        have Rb5 := Lib.hid (Rbet.out.below hb5)
        rw [HA.out] at Rw5
        have Hm2 := Lib.hid (show (rows.filter (inR x y)).length = m by rw [← HA.out]; exact Hm.out)
        rw [Hm2.out] at Rb5 Rw5 ⊢
        have hE := equal_any A4 A' c4 c' (rows.filter (inR x y)) (rows.filter (inR x y)) w5 (by rw [Hm2.out]; exact Rb5.out) (by rw [Hm2.out]; exact Rw5.out) (by rw [Hm2.out]; omega)
        rw [rowsEq_self, Hm2.out] at hE
        have HE := Lib.hid hE
        clear hb5 hE Rw5 Rb5 HBe Rwant Rbet H4
        go_wp2_with fail
        refine HE.out.mono ?_
        rintro e w6 ⟨rfl, hb6⟩
        have B6 := Lib.hid (B5.out.then hb6)
        clear hb6 HE B5
        go_wp2_with fail
        go_ret
        exact ⟨rfl, B6.out⟩
  · have hV : encRV rows = ([], 30) := if_neg (fun h => hg h.1)
    simp only [hV, S_empty] at C1 C2
    have H1 := Lib.hid C1
    have H2 := Lib.hid C2
    clear C1 C2 hg hok hrd hV
    go_enter Try.func8, Try.ntmps8
    go_wp2_with fail
    generalize w.alloc (.cells #[.int .i64 x, .int .i64 y] 23) = w0 at *
    refine (H1.out _ HB0.out).mono ?_
    rintro e w1 ⟨rfl, hb1⟩
    have B1 := Lib.hid hb1
    clear hb1
    go_wp2_with fail
    refine (H2.out _ (HB0.out.then B1.out)).mono ?_
    rintro e w2 ⟨rfl, hb2⟩
    have B2 := Lib.hid (B1.out.then hb2)
    clear hb2 B1 H1 H2
    go_wp2_with fail
    refine (blk_nil _).mono ?_
    rintro e w3 ⟨A3, c3, rfl, hb3⟩
    have B3 := Lib.hid (HB0.out.then (B2.out.then hb3))
    clear hb3 B2
    go_wp2_with fail
    go_ret
    exact ⟨rfl, B3.out⟩
end Go.Proofs.Ythmikefinibecaa
