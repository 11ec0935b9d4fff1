/-
  The walks of the laws 'RunsApart' and 'RunsIn'.
-/
import Derived.Test.YthmikefinibecaaLawRunsA
import Derived.Test.YthmikefinibecaaLawRunsBetween
namespace Go.Proofs.Ythmikefinibecaa
open Go Go.RowKit Go.Deep Go.ChangeShapes Go.WideShapes

theorem encR_inj {a b : List Row} (ha : goodR a = true) (hoa : ∀ x ∈ a, Row.ok x) (hla : a.length ≤ 5000) (hb : goodR b = true) (hob : ∀ x ∈ b, Row.ok x) (hlb : b.length ≤ 5000) (h : encR a = encR b) : a = b := by
  have h1 := decRV_back ha hoa hla
  rw [h, decRV_back hb hob hlb] at h1
  exact (Prod.mk.inj h1).1.symm
theorem S_inj2 {a b : List UInt8} (h : (S a).toList = (S b).toList) : a = b := by
  rw [Lib.toList_data, Lib.toList_data, S_toList, S_toList] at h
  exact h

set_option linter.unusedSimpArgs false in
set_option maxRecDepth 100000 in
set_option maxHeartbeats 4000000 in
theorem runsApart_walk (w : World) (v0 v1 : Value) (g0 : ∃ A c, ∃ xs : List Row, v0 = .slice A xs.length c ∧ Rd w 3 A xs.length (xs.flatMap rowCells) ∧ (∀ x ∈ xs, Row.ok x) ∧ xs.length ≤ c ∧ c ≤ maxLen)
    (g1 : ∃ A c, ∃ xs : List Row, v1 = .slice A xs.length c ∧ Rd w 3 A xs.length (xs.flatMap rowCells) ∧ (∀ x ∈ xs, Row.ok x) ∧ xs.length ≤ c ∧ c ≤ maxLen) :
    Calls Try.prog 5 #[v0, v1] w fun e w' => e = .returned (.bool true) ∧ Below w.heap.size w w' := by
  obtain ⟨A, c, a, rfl, hra, hoa, hca, hcma⟩ := g0
  obtain ⟨A', c', b, rfl, hrb, hob, hcb, hcmb⟩ := g1
  by_cases hla : 200 < a.length
  · have k1 : decide (200 < a.length) = true := decide_eq_true hla
    have k2 : decide ((200 : Int) < (a.length : Int)) = true := decide_eq_true (by omega)
    clear hla hra hrb hoa hob
    go_enter Try.func5, Try.ntmps5
    go_wp2_with fail
    go_ret
    exact ⟨rfl, Below.refl _ _⟩
  have k1 : decide (200 < a.length) = false := decide_eq_false hla
  have k2 : decide ((200 : Int) < (a.length : Int)) = false := decide_eq_false (by omega)
  by_cases hlb : 200 < b.length
  · have k3 : decide (200 < b.length) = true := decide_eq_true hlb
    have k4 : decide ((200 : Int) < (b.length : Int)) = true := decide_eq_true (by omega)
    clear hla hlb hra hrb hoa hob
    go_enter Try.func5, Try.ntmps5
    go_wp2_with fail
    go_ret
    exact ⟨rfl, Below.refl _ _⟩
  have k3 : decide (200 < b.length) = false := decide_eq_false hlb
  have k4 : decide ((200 : Int) < (b.length : Int)) = false := decide_eq_false (by omega)
  have C1 := enc_all A c a w hra hoa (by omega) hca hcma
  have C2 := fun w' (hb' : Below w.heap.size w w') => enc_all A' c' b w' (hrb.below hb') hob (by omega) hcb hcmb
  have C3 := fun w' (hb' : Below w.heap.size w w') => renc_all A c a w' (hra.below hb') hoa (by omega) hca hcma
  have Hra := Lib.hid hra
  have Hrb := Lib.hid hrb
  by_cases hga : goodR a = true
  · rw [encRV_good hga (by omega)] at C1
    simp only [encRV_good hga (show a.length ≤ 5000 by omega)] at C3
    by_cases hgb : goodR b = true
    · simp only [encRV_good hgb (show b.length ≤ 5000 by omega)] at C2
      have heq : (a = b ∧ S (encR a) = S (encR b)) ∨ (a ≠ b ∧ ((S (encR a)).toList == (S (encR b)).toList) = false) := by
        by_cases h : a = b
        · exact .inl ⟨h, by rw [h]⟩
        · refine .inr ⟨h, beq_eq_false_iff_ne.2 fun h2 => h (encR_inj hga hoa (by omega) hgb hob (by omega) (S_inj2 h2))⟩
      obtain ⟨P, hP⟩ : ∃ P, S (encR a) = P := ⟨_, rfl⟩
      obtain ⟨Q, hQ⟩ : ∃ Q, S (encR b) = Q := ⟨_, rfl⟩
      rw [hP, hQ] at heq
      simp only [hP] at C1 C3
      simp only [hQ] at C2
      have H1 := Lib.hid C1
      have H2 := Lib.hid C2
      have H3 := Lib.hid C3
      clear C1 C2 C3 hP hQ hga hgb hoa hob hra hrb
      have hE : ∃ d : Bool, (P.toList == Q.toList) = d ∧ rowsEq a b = d := by
        rcases heq with ⟨h1, h2⟩ | ⟨h1, h2⟩
        · exact ⟨true, by rw [h2]; exact beq_self_eq_true _, by rw [h1]; exact rowsEq_self b⟩
        · exact ⟨false, h2, rowsEq_ne h1⟩
      obtain ⟨d, hd1, hd2⟩ := hE
      have Hd2 := Lib.hid hd2
      have q1 : (d == d) = true := beq_self_eq_true _
      clear heq hd2
      go_enter Try.func5, Try.ntmps5
      go_wp2_with fail
      refine H1.out.mono ?_
      rintro e w1 ⟨rfl, hb1⟩
      have B1 := Lib.hid hb1
      clear hb1
      go_wp2_with fail
      refine (H2.out _ B1.out).mono ?_
      rintro e w2 ⟨rfl, hb2⟩
      have B2 := Lib.hid (B1.out.then hb2)
      clear hb2 B1 H1 H2
      go_wp2_with fail
      refine (H3.out _ B2.out).mono ?_
      rintro e w3 ⟨rfl, hb3⟩
      have B3 := Lib.hid (B2.out.then hb3)
      clear hb3 B2 H3
      go_wp2_with fail
      refine (blk_nil _).mono ?_
      rintro e w4 ⟨A4, c4, rfl, hb4⟩
      have B4 := Lib.hid (B3.out.then hb4)
      clear hb4 B3
      go_wp2_with fail
      refine (equal_any _ _ _ _ _ _ _ (Hra.out.below B4.out) (Hrb.out.below B4.out) (by omega)).mono ?_
      rintro e w5 ⟨rfl, hb5⟩
      have B5 := Lib.hid (B4.out.then hb5)
      rw [Hd2.out]
      clear hb5 B4
      cases d
      all_goals
        go_wp2_with fail
        go_ret
        exact ⟨rfl, B5.out⟩
    · have hV : encRV b = ([], 30) := if_neg (fun h => hgb h.1)
      simp only [hV] at C2
      have H1 := Lib.hid C1
      have H2 := Lib.hid C2
      have H3 := Lib.hid C3
      clear C1 C2 C3 hga hgb hoa hob hra hrb hV
      go_enter Try.func5, Try.ntmps5
      go_wp2_with fail
      refine H1.out.mono ?_
      rintro e w1 ⟨rfl, hb1⟩
      have B1 := Lib.hid hb1
      clear hb1
      go_wp2_with fail
      refine (H2.out _ B1.out).mono ?_
      rintro e w2 ⟨rfl, hb2⟩
      have B2 := Lib.hid (B1.out.then hb2)
      clear hb2 B1 H1 H2
      go_wp2_with fail
      refine (H3.out _ B2.out).mono ?_
      rintro e w3 ⟨rfl, hb3⟩
      have B3 := Lib.hid (B2.out.then hb3)
      clear hb3 B2 H3
      go_wp2_with fail
      refine (blk_nil _).mono ?_
      rintro e w4 ⟨A4, c4, rfl, hb4⟩
      have B4 := Lib.hid (B3.out.then hb4)
      clear hb4 B3
      go_wp2_with fail
      go_ret
      exact ⟨rfl, B4.out⟩
  · have hV : encRV a = ([], 30) := if_neg (fun h => hga h.1)
    rw [hV] at C1
    simp only [hV] at C3
    obtain ⟨V, hV2⟩ : ∃ V, encRV b = V := ⟨_, rfl⟩
    simp only [hV2] at C2
    obtain ⟨t, f⟩ := V
    have H1 := Lib.hid C1
    have H2 := Lib.hid C2
    have H3 := Lib.hid C3
    clear C1 C2 C3 hga hoa hob hra hrb hV hV2
    go_enter Try.func5, Try.ntmps5
    go_wp2_with fail
    refine H1.out.mono ?_
    rintro e w1 ⟨rfl, hb1⟩
    have B1 := Lib.hid hb1
    clear hb1
    go_wp2_with fail
    refine (H2.out _ B1.out).mono ?_
    rintro e w2 ⟨rfl, hb2⟩
    have B2 := Lib.hid (B1.out.then hb2)
    clear hb2 B1 H1 H2
    go_wp2_with fail
    refine (H3.out _ B2.out).mono ?_
    rintro e w3 ⟨rfl, hb3⟩
    have B3 := Lib.hid (B2.out.then hb3)
    clear hb3 B2 H3
    go_wp2_with fail
    refine (blk_nil _).mono ?_
    rintro e w4 ⟨A4, c4, rfl, hb4⟩
    have B4 := Lib.hid (B3.out.then hb4)
    clear hb4 B3
    go_wp2_with fail
    go_ret
    exact ⟨rfl, B4.out⟩
end Go.Proofs.Ythmikefinibecaa
