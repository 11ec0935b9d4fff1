/-
  The walks of the laws 'RunsEncodes' and 'RunsDecodes'.
-/
import Derived.Test.YthmikefinibecaaRunDec
namespace Go.Proofs.Ythmikefinibecaa
open Go Go.RowKit Go.Deep Go.ChangeShapes Go.WideShapes

theorem encR_len {rows : List Row} (hg : goodR rows = true) (hok : ∀ x ∈ rows, Row.ok x) (hl : rows.length ≤ 5000) : (encR rows).length ≤ 1000000 ∧ 0 < (encR rows).length := by
  obtain ⟨h1, h2⟩ := heads_len hg hok (List.range (chN rows.length)) fun i hi => List.mem_range.1 hi
  rw [List.length_range] at h1 h2
  have hcN : chN rows.length ≤ 313 := by unfold chN; omega
  have h3 := uint_len_ten (n := rows.length) (by omega)
  have h4 := uint_pos rows.length
  unfold encR
  simp only [List.length_append]
  omega
theorem all_in {rows : List Row} (hg : goodR rows = true) : rows.filter (inR 0 1099511627776) = rows := List.filter_eq_self.2 fun r hr => by
  obtain ⟨j, hj, rfl⟩ := List.getElem_of_mem hr
  have := rngB_iff.1 (rAt_get hj ▸ (good_at hg hj).1)
  unfold inR
  simp only [Bool.and_eq_true, decide_eq_true_eq]
  omega
theorem encRV_good {rows : List Row} (hg : goodR rows = true) (hl : rows.length ≤ 5000) : encRV rows = (encR rows, 0) := if_pos ⟨hg, hl⟩
theorem decRV_back {rows : List Row} (hg : goodR rows = true) (hok : ∀ x ∈ rows, Row.ok x) (hl : rows.length ≤ 5000) : decRV (encR rows) = (rows, 0) := by
  have h1 := betS_back hg hok hl 0 1099511627776
  rw [all_in hg] at h1
  have h2 : betL (encR rows) 0 1099511627776 = rows := by unfold betL; rw [h1]; rfl
  have h3 : betE (encR rows) 0 1099511627776 = 0 := by unfold betE; rw [h1]; rfl
  unfold decRV
  rw [h2, h3, encRV_good hg hl]
  rw [if_pos ⟨rfl, rfl, rfl⟩]
theorem decRV_nil : decRV [] = ([], 11) := by
  unfold decRV betE betS
  rw [fences_nil]
  rfl
theorem dec_nil (w : World) : Calls Try.prog 17 #[.string ⟨#[]⟩] w fun e w' => ∃ (A : Option Addr) (c : Nat), e = .returned (.tuple #[.slice A 0 c, .int .i64 11]) ∧ Below w.heap.size w w' :=
  (dec_all ⟨#[]⟩ w (by decide)).mono fun e w' h => by
    obtain ⟨A, c, rfl, -, -, -, -, hb⟩ := h
    refine ⟨A, c, ?_, hb⟩
    show Ending.returned (.tuple #[.slice A (decRV []).1.length c, .int .i64 (decRV []).2]) = _
    rw [decRV_nil]; rfl
theorem S_empty : S [] = ⟨#[]⟩ := rfl

set_option linter.unusedSimpArgs false in
set_option maxRecDepth 100000 in
set_option maxHeartbeats 4000000 in
theorem runsEncodes_walk (w : World) (v0 : Value) (g0 : ∃ A c, ∃ xs : List Row, v0 = .slice A xs.length c ∧ Rd w 3 A xs.length (xs.flatMap rowCells) ∧ (∀ x ∈ xs, Row.ok x) ∧ xs.length ≤ c ∧ c ≤ maxLen) :
    Calls Try.prog 6 #[v0] w fun e w' => e = .returned (.bool true) ∧ Below w.heap.size w w' := by
  obtain ⟨A, c, rows, rfl, hrd, hok, hc, hcm⟩ := g0
  by_cases hl : 300 < rows.length
  · have k1 : decide (300 < rows.length) = true := decide_eq_true hl
    have k2 : decide ((300 : Int) < (rows.length : Int)) = true := decide_eq_true (by omega)
    clear hl hrd hok
    go_enter Try.func6, Try.ntmps6
    go_wp2_with fail
    go_ret
    exact ⟨rfl, Below.refl _ _⟩
  · have k1 : decide (300 < rows.length) = false := decide_eq_false hl
    have k2 : decide ((300 : Int) < (rows.length : Int)) = false := decide_eq_false (by omega)
    have C1 := enc_all A c rows w hrd hok (by omega) hc hcm
    have C2 := fun w' (hb : Below w.heap.size w w') => renc_all A c rows w' (hrd.below hb) hok (by omega) hc hcm
    have Hrd := Lib.hid hrd
    by_cases hg : goodR rows = true
    · rw [encRV_good hg (by omega)] at C1 C2
      obtain ⟨h1, h2⟩ := encR_len hg hok (by omega)
      have C3 := fun w' => dec_all (S (encR rows)) w' (by rw [S_size]; exact h1)
      unfold DecU at C3
      rw [S_toList, decRV_back hg hok (by omega)] at C3
      obtain ⟨T, hT⟩ : ∃ T, S (encR rows) = T := ⟨_, rfl⟩
      have hTl : 0 < T.size := by rw [← hT, S_size]; exact h2
      simp only [hT] at C1 C2 C3
      have H1 := Lib.hid C1
      have H2 := Lib.hid C2
      have H3 := Lib.hid C3
      have q1 : (T.toList == T.toList) = true := beq_self_eq_true _
      have q2 : (T.toList != T.toList) = false := by rw [bne, q1]; rfl
      have k3 : decide (0 < T.size) = true := decide_eq_true hTl
      have k4 : decide ((0 : Int) < (T.size : Int)) = true := decide_eq_true (by omega)
      clear C1 C2 C3 hT h1 h2 hg hok hrd hTl
      go_enter Try.func6, Try.ntmps6
      go_wp2_with fail
      refine H1.out.mono ?_
      rintro e w1 ⟨rfl, hb1⟩
      have B1 := Lib.hid hb1
      clear hb1
      go_wp2_with fail
      refine (H2.out _ B1.out).mono ?_
      rintro e w2 ⟨rfl, hb2⟩
      have B2 := Lib.hid (B1.out.then hb2)
      clear hb2 B1 H1 H2
      go_wp2_with fail
      refine (H3.out _).mono ?_
      rintro e w3 ⟨A3, c3, rfl, hr3, h63, -, -, hb3⟩
      have B3 := Lib.hid (B2.out.then hb3)
      have R3 := Lib.hid hr3
      clear hb3 hr3 B2 H3
      go_wp2_with fail
      refine (equal_any _ _ _ _ _ _ _ R3.out (Hrd.out.below B3.out) (by omega)).mono ?_
      rintro e w4 ⟨rfl, hb4⟩
      have B4 := Lib.hid (B3.out.then hb4)
      rw [rowsEq_self]
      clear hb4 R3 B3
      go_wp2_with fail
      go_ret
      exact ⟨rfl, B4.out⟩
    · have hV : encRV rows = ([], 30) := if_neg (fun h => hg h.1)
      rw [hV, S_empty] at C1
      simp only [hV, S_empty] at C2
      have H1 := Lib.hid C1
      have H2 := Lib.hid C2
      clear C1 C2 hg hok hrd hV
      go_enter Try.func6, Try.ntmps6
      go_wp2_with fail
      refine H1.out.mono ?_
      rintro e w1 ⟨rfl, hb1⟩
      have B1 := Lib.hid hb1
      clear hb1
      go_wp2_with fail
      refine (H2.out _ B1.out).mono ?_
      rintro e w2 ⟨rfl, hb2⟩
      have B2 := Lib.hid (B1.out.then hb2)
      clear hb2 B1 H1 H2
      go_wp2_with fail
      refine (dec_nil _).mono ?_
      rintro e w3 ⟨A3, c3, rfl, hb3⟩
      have B3 := Lib.hid (B2.out.then hb3)
      clear hb3 B2
      go_wp2_with fail
      go_ret
      exact ⟨rfl, B3.out⟩

set_option linter.unusedSimpArgs false in
set_option maxRecDepth 100000 in
set_option maxHeartbeats 4000000 in
theorem runsDecodes_walk (s : ByteArray) (_hs : s.size ≤ maxLen) (w : World) :
    Calls Try.prog 7 #[.string s] w fun e w' => e = .returned (.bool true) ∧ Below w.heap.size w w' := by
  by_cases hl : 1024 < s.size
  · have k1 : decide (1024 < s.size) = true := decide_eq_true hl
    have k2 : decide ((1024 : Int) < (s.size : Int)) = true := decide_eq_true (by omega)
    clear hl
    go_enter Try.func7, Try.ntmps7
    go_wp2_with fail
    go_ret
    exact ⟨rfl, Below.refl _ _⟩
  · have hs : s.size ≤ 1000000 := by omega
    have k1 : decide (1024 < s.size) = false := decide_eq_false hl
    have k2 : decide ((1024 : Int) < (s.size : Int)) = false := decide_eq_false (by omega)
    have C1 := fun w => dec_all s w hs
    have C2 := fun w => rdec_all s w hs
    unfold DecU at C1 C2
    have hcase : (decRV s.data.toList).2 = 11 ∨ ((decRV s.data.toList).2 = 0 ∧ encRV (decRV s.data.toList).1 = (s.data.toList, 0)) := by
      unfold decRV
      split
      · rename_i h
        exact .inr ⟨rfl, by rw [← h.2.1]; exact Prod.ext h.2.2 rfl⟩
      · exact .inl rfl
    have hok : ∀ x ∈ (decRV s.data.toList).1, Row.ok x := by
      unfold decRV
      split
      · exact betL_ok _ _ _
      · intro x hx; cases hx
    obtain ⟨D, hD⟩ : ∃ D, decRV s.data.toList = D := ⟨_, rfl⟩
    rw [hD] at hcase hok
    simp only [hD] at C1 C2
    obtain ⟨rs, er⟩ := D
    simp only at C1 C2 hcase hok
    have H1 := Lib.hid C1
    have H2 := Lib.hid C2
    have Hok := Lib.hid hok
    clear hl C1 C2 hD hok
    rcases hcase with rfl | ⟨rfl, hV⟩
    · have hE := fun (A : Option Addr) (c : Nat) w' (h1 : Rd w' 3 A rs.length (rs.flatMap rowCells)) (h2 : rs.length ≤ 6400) (h3 : rs.length ≤ c) (h4 : c ≤ maxLen) => enc_all A c rs w' h1 Hok.out h2 h3 h4
      have HE := Lib.hid hE
      clear hE
      go_enter Try.func7, Try.ntmps7
      go_wp2_with fail
      refine (H1.out _).mono ?_
      rintro e w1 ⟨A1, c1, rfl, hr1, hn1, hc1, hm1, hb1⟩
      have B1 := Lib.hid hb1
      have R1 := Lib.hid hr1
      have M1 := Lib.hid (And.intro hc1 hm1)
      clear hb1 hr1 hc1 hm1
      go_wp2_with fail
      refine (H2.out _).mono ?_
      rintro e w2 ⟨A2, c2, rfl, hr2, -, -, -, hb2⟩
      have B2 := Lib.hid (B1.out.then hb2)
      have R2 := Lib.hid hr2
      have R1b := Lib.hid (R1.out.below hb2)
      clear hb2 hr2 R1 B1 H1 H2
      go_wp2_with fail
      refine (dec_nil _).mono ?_
      rintro e w3 ⟨A3, c3, rfl, hb3⟩
      have B3 := Lib.hid (B2.out.then hb3)
      have R1c := Lib.hid (R1b.out.below hb3)
      have R2c := Lib.hid (R2.out.below hb3)
      clear hb3 B2 R1b R2
      go_wp2_with fail
      refine (equal_any _ _ _ _ _ _ _ R1c.out R2c.out (by omega)).mono ?_
      rintro e w4 ⟨rfl, hb4⟩
      have B4 := Lib.hid (B3.out.then hb4)
      have R1d := Lib.hid (R1c.out.below hb4)
      rw [rowsEq_self]
      clear hb4 B3 R1c R2c
      go_wp2_with fail
      refine (HE.out _ _ _ R1d.out hn1 M1.out.1 M1.out.2).mono ?_
      rintro e w5 ⟨rfl, hb5⟩
      have B5 := Lib.hid (B4.out.then hb5)
      clear hb5 B4
      go_wp2_with fail
      go_ret
      exact ⟨rfl, B5.out⟩
    · have hE := fun (A : Option Addr) (c : Nat) w' (h1 : Rd w' 3 A rs.length (rs.flatMap rowCells)) (h2 : rs.length ≤ 6400) (h3 : rs.length ≤ c) (h4 : c ≤ maxLen) => enc_all A c rs w' h1 Hok.out h2 h3 h4
      simp only [hV] at hE
      have HE := Lib.hid hE
      have q1 : ((S s.data.toList).toList == s.toList) = true := eqS rfl
      clear hE hV
      go_enter Try.func7, Try.ntmps7
      go_wp2_with fail
      refine (H1.out _).mono ?_
      rintro e w1 ⟨A1, c1, rfl, hr1, hn1, hc1, hm1, hb1⟩
      have B1 := Lib.hid hb1
      have R1 := Lib.hid hr1
      have M1 := Lib.hid (And.intro hc1 hm1)
      clear hb1 hr1 hc1 hm1
      go_wp2_with fail
      refine (H2.out _).mono ?_
      rintro e w2 ⟨A2, c2, rfl, hr2, -, -, -, hb2⟩
      have B2 := Lib.hid (B1.out.then hb2)
      have R2 := Lib.hid hr2
      have R1b := Lib.hid (R1.out.below hb2)
      clear hb2 hr2 R1 B1 H1 H2
      go_wp2_with fail
      refine (dec_nil _).mono ?_
      rintro e w3 ⟨A3, c3, rfl, hb3⟩
      have B3 := Lib.hid (B2.out.then hb3)
      have R1c := Lib.hid (R1b.out.below hb3)
      have R2c := Lib.hid (R2.out.below hb3)
      clear hb3 B2 R1b R2
      go_wp2_with fail
      refine (equal_any _ _ _ _ _ _ _ R1c.out R2c.out (by omega)).mono ?_
      rintro e w4 ⟨rfl, hb4⟩
      have B4 := Lib.hid (B3.out.then hb4)
      have R1d := Lib.hid (R1c.out.below hb4)
      rw [rowsEq_self]
      clear hb4 B3 R1c R2c
      go_wp2_with fail
      refine (HE.out _ _ _ R1d.out hn1 M1.out.1 M1.out.2).mono ?_
      rintro e w5 ⟨rfl, hb5⟩
      have B5 := Lib.hid (B4.out.then hb5)
      clear hb5 B4
      go_wp2_with fail
      go_ret
      exact ⟨rfl, B5.out⟩
end Go.Proofs.Ythmikefinibecaa
