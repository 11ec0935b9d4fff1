/-
  The walk of the law 'RunsCut'.
-/
import Derived.Test.YthmikefinibecaaLawRunsC
import Derived.WalkLawsBesides
import Derived.Deep.DeepCutAuto
namespace Go.Proofs.Ythmikefinibecaa
open Go Go.RowKit Go.Deep Go.ChangeShapes Go.WideShapes

theorem cut_filter {lo mid hi : Int} (h1 : lo ≤ mid) (h2 : mid ≤ hi) : ∀ (l : List Row), fineR l = true → l.filter (inR lo mid) ++ l.filter (inR mid hi) = l.filter (inR lo hi)
  | [], _ => rfl
  | x :: l, hf => by
    have hmono : ∀ y ∈ l, x.T ≤ y.T := fun y hy => by
      obtain ⟨j, hj, rfl⟩ := List.getElem_of_mem hy
      have := fine_mono hf (Nat.zero_le (j + 1)) (by simpa using hj)
      rw [rAt_get (show 0 < (x :: l).length by simp), rAt_get (show j + 1 < (x :: l).length by simpa using hj)] at this
      simpa using this
    have hfl : fineR l = true := fine_drop [x] l hf
    have ih := cut_filter h1 h2 l hfl
    rcases Int.lt_or_le x.T mid with hx | hx
    · have n2 : inR mid hi x = false := by unfold inR; rw [decide_eq_false (show ¬ mid ≤ x.T by omega)]; rfl
      have e : inR lo mid x = inR lo hi x := by unfold inR; rw [decide_eq_true hx, decide_eq_true (show x.T < hi by omega)]
      cases hc : inR lo hi x with
      | true => simp only [List.filter_cons, e, hc, n2, if_true]; rw [if_neg (by simp), List.cons_append, ih]
      | false => simp only [List.filter_cons, e, hc, n2]; rw [if_neg (by simp), if_neg (by simp), if_neg (by simp), ih]
    · have n1 : (x :: l).filter (inR lo mid) = [] := List.filter_eq_nil_iff.2 fun y hy => by
        have : mid ≤ y.T := by
          rcases List.mem_cons.1 hy with rfl | h
          · exact hx
          · have := hmono y h; omega
        unfold inR; simp; omega
      rw [n1, List.nil_append]
      refine List.filter_congr fun y hy => ?_
      have : mid ≤ y.T := by
        rcases List.mem_cons.1 hy with rfl | h
        · exact hx
        · have := hmono y h; omega
      unfold inR
      rw [decide_eq_true this, decide_eq_true (show lo ≤ y.T by omega)]

set_option linter.unusedSimpArgs false in
set_option maxRecDepth 100000 in
set_option maxHeartbeats 4000000 in
theorem runsCut_walk (w : World) (v0 : Value) (p q r : Int) (g0 : ∃ A c, ∃ xs : List Row, v0 = .slice A xs.length c ∧ Rd w 3 A xs.length (xs.flatMap rowCells) ∧ (∀ x ∈ xs, Row.ok x) ∧ xs.length ≤ c ∧ c ≤ maxLen)
    (_p0 : -9223372036854775808 ≤ p) (_p1 : p ≤ 9223372036854775807) (_q0 : -9223372036854775808 ≤ q) (_q1 : q ≤ 9223372036854775807) (_r0 : -9223372036854775808 ≤ r) (_r1 : r ≤ 9223372036854775807) :
    Calls Try.prog 9 #[v0, .int .i64 p, .int .i64 q, .int .i64 r] w fun e w' => e = .returned (.bool true) ∧ Below w.heap.size w w' := by
  obtain ⟨A, c, rows, rfl, hrd, hok, hc, hcm⟩ := g0
  by_cases hl : 200 < rows.length
  · have k1 : decide (200 < rows.length) = true := decide_eq_true hl
    have k2 : decide ((200 : Int) < (rows.length : Int)) = true := decide_eq_true (by omega)
    clear hl hrd hok
    go_enter Try.func9, Try.ntmps9
    go_wp2_with fail
    go_ret
    exact ⟨rfl, Below.refl _ _⟩
  have k1 : decide (200 < rows.length) = false := decide_eq_false hl
  have k2 : decide ((200 : Int) < (rows.length : Int)) = false := decide_eq_false (by omega)
  have C1 := fun w' (hb : Below w.heap.size w w') => enc_all A c rows w' (hrd.below hb) hok (by omega) hc hcm
  have C2 := fun w' (hb : Below w.heap.size w w') => renc_all A c rows w' (hrd.below hb) hok (by omega) hc hcm
  by_cases hg : goodR rows = true
  · simp only [encRV_good hg (show rows.length ≤ 5000 by omega)] at C1 C2
    obtain ⟨h1, h2⟩ := encR_len hg hok (by omega)
    have C3 : ∀ (x y : Int) w', Calls Try.prog 12 #[.string (S (encR rows)), .agg #[.int .i64 x, .int .i64 y]] w' fun e w'' => ∃ (A : Option Addr) (c : Nat), e = .returned (.tuple #[.slice A (rows.filter (inR x y)).length c, .int .i64 0]) ∧ Rd w'' 3 A (rows.filter (inR x y)).length ((rows.filter (inR x y)).flatMap rowCells) ∧ (rows.filter (inR x y)).length ≤ 6400 ∧ Below w'.heap.size w' w'' := fun x y w' => by
      have := between_u (S (encR rows)) x y w' (by rw [S_size]; exact h1)
      unfold BetU at this
      obtain ⟨e1, e2⟩ := betL_back hg hok (by omega) x y
      rwa [S_toList, e1, e2] at this
    have HF := Lib.hid (show ∀ lo mid hi : Int, lo ≤ mid → mid ≤ hi → rows.filter (inR lo mid) ++ rows.filter (inR mid hi) = rows.filter (inR lo hi) from fun lo mid hi a b => cut_filter a b rows (by unfold goodR at hg; rw [Bool.and_eq_true] at hg; exact hg.1))
    obtain ⟨T, hT⟩ : ∃ T, S (encR rows) = T := ⟨_, rfl⟩
    simp only [hT] at C1 C2 C3
    have H1 := Lib.hid C1
    have H2 := Lib.hid C2
    have H3 := Lib.hid C3
    clear C1 C2 C3 hT h1 h2 hg hok hrd hl _p0 _p1 _q0 _q1 _r0 _r1
    go_enter Try.func9, Try.ntmps9
    go_wp2_with fail
    refine (H1.out _ (Below.refl _ _)).mono ?_
    rintro e w1 ⟨rfl, hb1⟩
    have B1 := Lib.hid hb1
    clear hb1
    go_wp2_with fail
    refine (H2.out _ B1.out).mono ?_
    rintro e w2 ⟨rfl, hb2⟩
    have B2 := Lib.hid (B1.out.then hb2)
    clear hb2 B1 H1 H2
    go_wp2_with fail
    refine (blk_nil _).mono ?_
    rintro e w3 ⟨A3, c3, rfl, hb3⟩
    have B3 := Lib.hid (B2.out.then hb3)
    clear hb3 B2
    go_upto_region 10 with (fail)
    go_cut [15] (fun s15 wx => ∃ lo : Int, s15 = .int .i64 lo ∧ lo ≤ p ∧ lo ≤ q ∧ lo ≤ r ∧ wx = w3)
    case first =>
      go_wp2_with fail
      all_goals (go_meet; exact ⟨_, rfl, by omega, by omega, by omega, rfl⟩)
    obtain ⟨lo, rfl, l1, l2, l3, rfl⟩ := hcut
    go_upto_region 11 with (fail)
    go_cut [16] (fun s16 wy => ∃ hi : Int, s16 = .int .i64 hi ∧ p ≤ hi ∧ q ≤ hi ∧ r ≤ hi ∧ wy = wc)
    case first =>
      go_wp2_with fail
      all_goals (go_meet; exact ⟨_, rfl, by omega, by omega, by omega, rfl⟩)
    obtain ⟨hi, rfl, l4, l5, l6, rfl⟩ := hcut
    go_upto_region 12 with (fail)
    go_cut [17] (fun s17 wz => ∃ mid : Int, s17 = .int .i64 mid ∧ lo ≤ mid ∧ mid ≤ hi ∧ wz = wc)
    case first =>
      go_wp2_with fail
      all_goals (go_meet; exact ⟨_, rfl, by omega, by omega, rfl⟩)
    case rest =>
      obtain ⟨mid, rfl, o1, o2, rfl⟩ := hcut
      have hcut := HF.out lo mid hi o1 o2
      obtain ⟨P, hP⟩ : ∃ P, rows.filter (inR lo mid) = P := ⟨_, rfl⟩
      obtain ⟨Q, hQ⟩ : ∃ Q, rows.filter (inR mid hi) = Q := ⟨_, rfl⟩
      obtain ⟨U, hU⟩ : ∃ U, rows.filter (inR lo hi) = U := ⟨_, rfl⟩
      have D1 := H3.out lo mid
      have D2 := H3.out mid hi
      have D3 := H3.out lo hi
      simp only [hP] at D1
      simp only [hQ] at D2
      simp only [hU] at D3
      rw [hP, hQ, hU] at hcut
      have G1 := Lib.hid D1
      have G2 := Lib.hid D2
      have G3 := Lib.hid D3
      have Hcut := Lib.hid hcut
      clear D1 D2 D3 hcut hP hQ hU H3 HF o1 o2 l1 l2 l3 l4 l5 l6
      go_wp2_with fail
      refine (G1.out _).mono ?_
      rintro e w4 ⟨A4, c4, rfl, hr4, hn4, hb4⟩
      have B4 := Lib.hid (B3.out.then hb4)
      have R4 := Lib.hid hr4
      clear hb4 hr4 G1
      go_wp2_with fail
      refine (G2.out _).mono ?_
      rintro e w5 ⟨A5, c5, rfl, hr5, hn5, hb5⟩
      have B5 := Lib.hid (B4.out.then hb5)
      have R5 := Lib.hid hr5
      have R4b := Lib.hid (R4.out.below hb5)
      clear hb5 hr5 R4 B4 G2
      go_wp2_with fail
      refine (G3.out _).mono ?_
      rintro e w6 ⟨A6, c6, rfl, hr6, hn6, hb6⟩
      have B6 := Lib.hid (B5.out.then hb6)
      have R6 := Lib.hid hr6
      have R4c := Lib.hid (R4b.out.below hb6)
      have R5c := Lib.hid (R5.out.below hb6)
      clear hb6 hr6 R4b R5 B5 G3
      have HM := Lib.hid (Lie.made (fun k => k < w6.heap.size) w6 36 3 (fun k hk => hk))
      have HbM := Lib.hid (Below.one w6 (.cells #[] 36))
      have R4m := Lib.hid (R4c.out.below HbM.out)
      have hold : Old (fun k => k < w6.heap.size) (w6.alloc (.cells #[] 36)) := fun k hk => Nat.lt_of_lt_of_le hk HbM.out.size
      have hPz : (([] : List Row).flatMap rowCells) ++ P.flatMap rowCells = P.flatMap rowCells := rfl
      obtain ⟨np, hnp⟩ : ∃ np, P.length = np := ⟨_, rfl⟩
      obtain ⟨nq, hnq⟩ : ∃ nq, Q.length = nq := ⟨_, rfl⟩
      rw [hnp] at R4m hn4 ⊢
      rw [hnq] at R5c hn5 ⊢
      have Hnp := Lib.hid hnp
      have Hnq := Lib.hid hnq
      clear hnp hnq hPz R4c
      go_wp2_with (at_builtin; first | (refine wpList_append_rd_row rfl (.tmp 95) (.tmp 96) 28 (by rfl) 36 (.agg #[.int .i64 0, .int .i64 0, .int .i64 0]) 3 24 Try.underlying28 rowInf rfl (by decide) (fun k => k < w6.heap.size) 0 [] (.slice (some ⟨w6.heap.size, 0, none⟩) 0 0) (w6.alloc (.cells #[] 36)) HM.out (by rfl) hold A4 np c4 _ (by rfl) R4m.out (rowCells_one _) (by unfold maxLen; omega) (by omega) ?_; intro v8 w8 hown8 hst8 hgr8 hat8; have Hl8 := Lib.hid hown8; have Hb8 := Lib.hid (HbM.out.trans (hst8.below fun k hk => hk)); have R5n := Lib.hid (R5c.out.below Hb8.out); have hold8 : Old (fun k => k < w6.heap.size) w8 := (fun k hk => Nat.lt_of_lt_of_le hk Hb8.out.size); obtain ⟨A8, c8, rfl⟩ := hown8.form; clear hown8 hst8 hgr8 hat8) | (go_must (refine wpList_append_rd_row rfl (.tmp 98) (.tmp 99) 28 (by rfl) 36 (.agg #[.int .i64 0, .int .i64 0, .int .i64 0]) 3 24 Try.underlying28 rowInf rfl (by decide) (fun k => k < w6.heap.size) (0 + np) _ (.slice A8 (0 + np) c8) w8 Hl8.out (by simp only [Nat.zero_add]; rfl) hold8 A5 nq c5 _ (by rfl) R5n.out (rowCells_one _) (by unfold maxLen; omega) (by omega) ?_); intro v9 w9 hown9 hst9 hgr9 hat9; have Hl9 := Lib.hid hown9; have Hb9 := Lib.hid (Hb8.out.trans (hst9.below fun k hk => hk)); obtain ⟨A9, c9, rfl⟩ := hown9.form; clear hown9 hst9 hgr9 hat9))
      have hUl : U.length = np + nq := by rw [← Hcut.out, List.length_append, Hnp.out, Hnq.out]
      have hR9 : Rd w9 3 A9 U.length (U.flatMap rowCells) := by
        have := Hl9.out.rd
        rw [List.nil_append, Nat.zero_add, ← List.flatMap_append, Hcut.out, ← hUl] at this
        exact this
      have hE := equal_any A9 A6 c9 c6 U U w9 hR9 (R6.out.below Hb9.out) (by omega)
      rw [rowsEq_self] at hE
      rw [show np + nq = U.length from hUl.symm]
      have HE := Lib.hid hE
      have HB9 := Lib.hid (B6.out.then Hb9.out)
      clear hE hR9 hUl Hl9 Hl8 Hb9 Hb8 R5n hold8 hold HM HbM R4m R5c R6 B6
      refine HE.out.mono ?_
      rintro e w7 ⟨rfl, hb7⟩
      have B7 := Lib.hid (HB9.out.then hb7)
      clear hb7 HE HB9
      go_wp2_with fail
      go_ret
      exact ⟨rfl, B7.out⟩
  · have hV : encRV rows = ([], 30) := if_neg (fun h => hg h.1)
    simp only [hV, S_empty] at C1 C2
    have H1 := Lib.hid C1
    have H2 := Lib.hid C2
    clear C1 C2 hg hok hrd hV
    go_enter Try.func9, Try.ntmps9
    go_wp2_with fail
    refine (H1.out _ (Below.refl _ _)).mono ?_
    rintro e w1 ⟨rfl, hb1⟩
    have B1 := Lib.hid hb1
    clear hb1
    go_wp2_with fail
    refine (H2.out _ B1.out).mono ?_
    rintro e w2 ⟨rfl, hb2⟩
    have B2 := Lib.hid (B1.out.then hb2)
    clear hb2 B1 H1 H2
    go_wp2_with fail
    refine (blk_nil _).mono ?_
    rintro e w3 ⟨A3, c3, rfl, hb3⟩
    have B3 := Lib.hid (B2.out.then hb3)
    clear hb3 B2
    go_wp2_with fail
    go_ret
    exact ⟨rfl, B3.out⟩
end Go.Proofs.Ythmikefinibecaa
