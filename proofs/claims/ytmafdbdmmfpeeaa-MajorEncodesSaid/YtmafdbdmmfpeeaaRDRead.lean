/-
  The document's read of samples.
-/
import Derived.Test.YtmafdbdmmfpeeaaDDec
import Derived.Test.YtmafdbdmmfpeeaaPackG
namespace Go.Proofs.Ytmafdbdmmfpeeaa
open Go Go.RowKit Go.Shelf

/-- what the document's read answers: nothing, or the samples -/
def RReadPost (R : Option (List Sample × Bool)) (w : World) (e : Ending) (w' : World) : Prop :=
  (R = none ∧ e = .returned (.tuple #[.slice none 0 0, .bool false]) ∧ Below w.heap.size w w') ∨
    ∃ r A c, R = some r ∧ e = .returned (.tuple #[.slice A r.1.length c, .bool true]) ∧ Rd w' 2 A r.1.length (r.1.flatMap sampleCells) ∧ Below w.heap.size w w'

/-- .. and where they lie -/
def RReadPostF (R : Option (List Sample × Bool)) (w : World) (e : Ending) (w' : World) : Prop :=
  (R = none ∧ e = .returned (.tuple #[.slice none 0 0, .bool false]) ∧ Below w.heap.size w w') ∨
    ∃ r A c, R = some r ∧ e = .returned (.tuple #[.slice A r.1.length c, .bool true]) ∧ Rd w' 2 A r.1.length (r.1.flatMap sampleCells) ∧ Below w.heap.size w w' ∧ Fresh w.heap.size A

/-- between two rounds -/
def RRestRel (B c n : Nat) (q : ByteArray) (a b : Int) (R : Option (List Sample × Nat)) (w : World) (sv dv : Value) (wr : World) : Prop :=
  ∃ (ys : List Sample) (p : Sample) (j m : Nat) (d : Int) (A : Option Addr) (cap : Nat), sv = .slice A (m + 1) cap ∧ dv = .int .i64 d ∧ ys.length = m ∧ m + 1 ≤ n ∧ 0 ≤ p.T ∧ p.T < 1099511627776 ∧ In64 p.V ∧ 0 ≤ d ∧ d ≤ 1099511627776 ∧ j ≤ 8 * q.size ∧
    Lie (fun k => k < B ∨ k = c) 60 2 (.slice A (m + 1) cap) (m + 1) ((ys ++ [p]).flatMap sampleCells) wr ∧ RdrOf 119 c q j wr ∧ Below B w wr ∧
    (restD (sbits q) a b (n - (m + 1)) j d p.T p.V).map (fun r => (ys ++ p :: r.1, r.2)) = R

set_option linter.unusedSimpArgs false in
set_option maxRecDepth 100000 in
set_option maxHeartbeats 8000000 in
theorem rdread_fresh (s : ByteArray) (w : World) (hs : s.size ≤ 1000000) : Calls Try.prog 36 #[.string s] w (RReadPostF (readP s.data.toList) w) := by
  have Hsl := Lib.hid (Lib.size_eq s)
  have G1 := fun w => rgetUint_any s 0 w (by omega)
  obtain ⟨g1, hg1⟩ : ∃ g, getAt s.data.toList 0 = g := ⟨_, rfl⟩
  have hn1 := getAt_next s.data.toList 0
  have hN := getAt_lt s.data.toList 0
  rw [hg1, ← Hsl.out] at hn1
  rw [hg1] at hN
  simp only [hg1] at G1
  obtain ⟨n, a1, e1⟩ := g1
  simp only at hn1 hN
  have HG1 := Lib.hid G1
  clear G1
  by_cases h1 : e1 ≠ 0 ∨ 5000 < n
  · have hd := Lib.hid (read_err1 (l := s.data.toList) (by rw [hg1]; exact h1))
    have hc : e1 ≠ 0 ∨ (e1 = 0 ∧ 5000 < n) := by omega
    clear hg1 h1
    rcases hc with h | ⟨h, h'⟩
    · obtain ⟨k1, k2⟩ := err_yes h
      clear h
      go_enter Try.func36, Try.ntmps36
      go_wp2_with fail
      refine (HG1.out _).mono ?_
      rintro e w1 ⟨rfl, hb1⟩
      have Hb1 := Lib.hid hb1
      clear hb1
      go_wp2_with fail
      go_ret2
      exact .inl ⟨hd.out, rfl, Hb1.out⟩
    · obtain ⟨k1, k2⟩ := err_no h
      have k3 : decide (5000 < n) = true := decide_eq_true h'
      have k4 : decide ((5000 : Int) < (n : Int)) = true := decide_eq_true (by omega)
      clear h
      go_enter Try.func36, Try.ntmps36
      go_wp2_with fail
      refine (HG1.out _).mono ?_
      rintro e w1 ⟨rfl, hb1⟩
      have Hb1 := Lib.hid hb1
      clear hb1
      go_wp2_with fail
      go_ret2
      exact .inl ⟨hd.out, rfl, Hb1.out⟩
  · obtain ⟨he, hn5⟩ : e1 = 0 ∧ n ≤ 5000 := by omega
    subst he
    have k1 : decide ((5000 : Int) < (n : Int)) = false := decide_eq_false (by omega)
    have k1' : decide (5000 < n) = false := decide_eq_false (by omega)
    clear h1
    by_cases h0 : n = 0
    · subst h0
      have hd := Lib.hid (read_zero hg1)
      clear hg1
      go_enter Try.func36, Try.ntmps36
      go_wp2_with fail
      refine (HG1.out _).mono ?_
      rintro e w1 ⟨rfl, hb1⟩
      have Hb1 := Lib.hid hb1
      clear hb1
      go_wp2_with fail
      go_ret2
      exact .inr ⟨([], _), _, 0, hd.out, rfl, ⟨rfl, fun h => absurd h (by simp)⟩, Hb1.out.alloc Hb1.out.size _, fun a e => by cases e; exact Hb1.out.size⟩
    · have k2 : ((n : Int) == 0) = false := beq_eq_false_iff_ne.2 (by omega)
      have G2 := fun w => rgetUint_any s a1 w (by omega)
      obtain ⟨g2, hg2⟩ : ∃ g, getAt s.data.toList a1 = g := ⟨_, rfl⟩
      have hn2 := getAt_next s.data.toList a1
      have hN2 := getAt_lt s.data.toList a1
      rw [hg2, ← Hsl.out] at hn2
      rw [hg2] at hN2
      simp only [hg2] at G2
      obtain ⟨t, a2, e2⟩ := g2
      simp only at hn2 hN2
      have HG2 := Lib.hid G2
      have G3 := fun w => rgetInt_any s a2 w (by omega)
      obtain ⟨g3, hg3⟩ : ∃ g, getAt s.data.toList a2 = g := ⟨_, rfl⟩
      have hn3 := getAt_next s.data.toList a2
      have hN3 := getAt_lt s.data.toList a2
      rw [hg3, ← Hsl.out] at hn3
      rw [hg3] at hN3
      obtain ⟨v, a3, e3⟩ := g3
      simp only at hn3 hN3
      simp only [int_at hg3] at G3
      have hvv := unfold_in hN3
      have HG3 := Lib.hid G3
      clear G2 G3
      by_cases h2 : e2 ≠ 0 ∨ e3 ≠ 0 ∨ 1099511627776 ≤ t
      · have hd : Hid (readP s.data.toList = none) := Lib.hid (by
          by_cases h : e2 ≠ 0 ∨ 1099511627776 ≤ t
          · exact read_t hg1 h0 hn5 (by rw [hg2]; exact h)
          · have he : e2 = 0 := by omega
            subst he
            exact read_v hg1 h0 hn5 hg2 (by omega) (by rw [hg3]; simp only; omega))
        have hc : e2 ≠ 0 ∨ (e2 = 0 ∧ e3 ≠ 0) ∨ (e2 = 0 ∧ e3 = 0 ∧ 1099511627776 ≤ t) := by omega
        clear hg1 hg2 hg3 h2 h0
        rcases hc with h | ⟨h, h'⟩ | ⟨h, h', h''⟩
        · obtain ⟨k3, k4⟩ := err_yes h
          clear h
          go_enter Try.func36, Try.ntmps36
          go_wp2_with fail
          refine (HG1.out _).mono ?_
          rintro e w1 ⟨rfl, hb1⟩
          have Hb1 := Lib.hid hb1
          clear hb1
          have hsz1 := Hb1.out.size
          have hM := Lie.made (fun k => k < w.heap.size) w1 60 2 (fun k hk => Nat.lt_of_lt_of_le hk hsz1)
          have HM := Lib.hid hM
          have HbM := Lib.hid (Hb1.out.alloc hsz1 (.cells #[] 60))
          clear hM
          go_wp2_with fail
          generalize w1.alloc (.cells #[] 60) = wm at *
          generalize w1.heap.size = gm at *
          refine (HG2.out _).mono ?_
          rintro e w2 ⟨rfl, hb2⟩
          have Hb2 := Lib.hid (HbM.out.trans (hb2.mono HbM.out.size))
          have HM2 := Lib.hid (Lie.below HM.out hb2)
          clear hb2
          go_wp2_with fail
          refine (HG3.out _).mono ?_
          rintro e w3 ⟨rfl, hb3⟩
          have Hb3 := Lib.hid (Hb2.out.trans (hb3.mono Hb2.out.size))
          have HM3 := Lib.hid (Lie.below HM2.out hb3)
          clear hb3
          go_wp2_with fail
          go_ret2
          exact .inl ⟨hd.out, rfl, Hb3.out⟩
        · obtain ⟨k3, k4⟩ := err_no h
          obtain ⟨k5, k6⟩ := err_yes h'
          clear h h'
          go_enter Try.func36, Try.ntmps36
          go_wp2_with fail
          refine (HG1.out _).mono ?_
          rintro e w1 ⟨rfl, hb1⟩
          have Hb1 := Lib.hid hb1
          clear hb1
          have hsz1 := Hb1.out.size
          have hM := Lie.made (fun k => k < w.heap.size) w1 60 2 (fun k hk => Nat.lt_of_lt_of_le hk hsz1)
          have HM := Lib.hid hM
          have HbM := Lib.hid (Hb1.out.alloc hsz1 (.cells #[] 60))
          clear hM
          go_wp2_with fail
          generalize w1.alloc (.cells #[] 60) = wm at *
          generalize w1.heap.size = gm at *
          refine (HG2.out _).mono ?_
          rintro e w2 ⟨rfl, hb2⟩
          have Hb2 := Lib.hid (HbM.out.trans (hb2.mono HbM.out.size))
          have HM2 := Lib.hid (Lie.below HM.out hb2)
          clear hb2
          go_wp2_with fail
          refine (HG3.out _).mono ?_
          rintro e w3 ⟨rfl, hb3⟩
          have Hb3 := Lib.hid (Hb2.out.trans (hb3.mono Hb2.out.size))
          have HM3 := Lib.hid (Lie.below HM2.out hb3)
          clear hb3
          go_wp2_with fail
          go_ret2
          exact .inl ⟨hd.out, rfl, Hb3.out⟩
        · obtain ⟨k3, k4⟩ := err_no h
          obtain ⟨k5, k6⟩ := err_no h'
          have k7 : decide ((1099511627776 : Int) ≤ (t : Int)) = true := decide_eq_true (by omega)
          clear h h' h''
          go_enter Try.func36, Try.ntmps36
          go_wp2_with fail
          refine (HG1.out _).mono ?_
          rintro e w1 ⟨rfl, hb1⟩
          have Hb1 := Lib.hid hb1
          clear hb1
          have hsz1 := Hb1.out.size
          have hM := Lie.made (fun k => k < w.heap.size) w1 60 2 (fun k hk => Nat.lt_of_lt_of_le hk hsz1)
          have HM := Lib.hid hM
          have HbM := Lib.hid (Hb1.out.alloc hsz1 (.cells #[] 60))
          clear hM
          go_wp2_with fail
          generalize w1.alloc (.cells #[] 60) = wm at *
          generalize w1.heap.size = gm at *
          refine (HG2.out _).mono ?_
          rintro e w2 ⟨rfl, hb2⟩
          have Hb2 := Lib.hid (HbM.out.trans (hb2.mono HbM.out.size))
          have HM2 := Lib.hid (Lie.below HM.out hb2)
          clear hb2
          go_wp2_with fail
          refine (HG3.out _).mono ?_
          rintro e w3 ⟨rfl, hb3⟩
          have Hb3 := Lib.hid (Hb2.out.trans (hb3.mono Hb2.out.size))
          have HM3 := Lib.hid (Lie.below HM2.out hb3)
          clear hb3
          go_wp2_with fail
          go_ret2
          exact .inl ⟨hd.out, rfl, Hb3.out⟩
      · obtain ⟨he2, he3, ht⟩ : e2 = 0 ∧ e3 = 0 ∧ t < 1099511627776 := by omega
        subst he2 he3
        clear h2
        have k3 : decide ((1099511627776 : Int) ≤ (t : Int)) = false := decide_eq_false (by omega)
        have htc : IntKind.i64.wrap (t : Int) = t := by rw [IntKind.wrap_i64]; omega
        obtain ⟨p, hp⟩ : ∃ p : Nat, a3 = (p : Int) := ⟨a3.toNat, by omega⟩
        subst hp
        by_cases hn1' : n = 1
        · subst hn1'
          have hd := Lib.hid (read_one hg1 hg2 ht hg3)
          have hcl : [(.int .i64 (t : Int) : Value), .int .i64 (unfoldN v)] = ([⟨(t : Int), unfoldN v⟩] : List Sample).flatMap sampleCells := rfl
          have Hcl := Lib.hid hcl
          clear hg1 hg2 hg3 h0 hcl
          generalize hvv' : unfoldN v = vv at *
          go_enter Try.func36, Try.ntmps36
          go_wp2_with fail
          refine (HG1.out _).mono ?_
          rintro e w1 ⟨rfl, hb1⟩
          have Hb1 := Lib.hid hb1
          clear hb1
          have hsz1 := Hb1.out.size
          have hM := Lie.made (fun k => k < w.heap.size) w1 60 2 (fun k hk => Nat.lt_of_lt_of_le hk hsz1)
          have HM := Lib.hid hM
          have HbM := Lib.hid (Hb1.out.alloc hsz1 (.cells #[] 60))
          clear hM
          go_wp2_with fail
          generalize w1.alloc (.cells #[] 60) = wm at *
          generalize w1.heap.size = gm at *
          refine (HG2.out _).mono ?_
          rintro e w2 ⟨rfl, hb2⟩
          have Hb2 := Lib.hid (HbM.out.trans (hb2.mono HbM.out.size))
          have HM2 := Lib.hid (Lie.below HM.out hb2)
          clear hb2
          go_wp2_with fail
          refine (HG3.out _).mono ?_
          rintro e w3 ⟨rfl, hb3⟩
          have Hb3 := Lib.hid (Hb2.out.trans (hb3.mono Hb2.out.size))
          have HM3 := Lib.hid (Lie.below HM2.out hb3)
          clear hb3
          have hsz3 := Hb3.out.size
          go_wp2_with (at_builtin; go_must (refine wpList_append_elem_row rfl _ _ 26 (by rfl) 60 (.agg #[.int .i64 0, .int .i64 0]) 2 16 Try.underlying26 sampleInf rfl (by decide) _ 0 [] _ w3 #[.int .i64 (t : Int), .int .i64 vv] rfl (by intro u hu; simp at hu; rcases hu with rfl | rfl <;> rfl) HM3.out (by rfl) (fun k hk => Nat.lt_of_lt_of_le hk hsz3) (by rfl) (by unfold maxLen; omega) (by omega) ?_); intro v4 w4 hown4 hst4 hgr4 hat4; obtain ⟨A4, c4, rfl⟩ := hown4.form)
          have HM4 := Lib.hid hown4
          have Hb4 := Lib.hid (Hb3.out.trans (hst4.below fun k hk => hk))
          clear hown4 hst4 hgr4 hat4
          go_wp2_with fail
          go_ret2
          exact .inr ⟨([⟨(t : Int), vv⟩], _), _, c4, hd.out, rfl, by have := HM4.out.rd; exact this, Hb4.out, fresh_lie HM4.out fun k hk => hk⟩
        · have hnm := read_many hg1 (by omega) hn5 hg2 ht hg3
          rw [← Hsl.out] at hnm
          have hd1 : ((n : Int) == 1) = false := beq_eq_false_iff_ne.2 (by omega)
          have hn2' : 2 ≤ n := by omega
          have hi64 : IntKind.i64.wrap (n : Int) = n := by rw [IntKind.wrap_i64]; omega
          have hp2 : IntKind.i64.wrap ((p : Int) + 2) = (p : Int) + 2 := by rw [IntKind.wrap_i64]; omega
          by_cases hq2 : s.size < p + 2
          · rw [if_pos hq2] at hnm
            have hd := Lib.hid hnm
            have k4 : decide ((s.size : Int) < (p : Int) + 2) = true := decide_eq_true (by omega)
            clear hnm hg1 hg2 hg3 h0 hn1'
            generalize hvv' : unfoldN v = vv at *
            go_enter Try.func36, Try.ntmps36
            go_wp2_with fail
            refine (HG1.out _).mono ?_
            rintro e w1 ⟨rfl, hb1⟩
            have Hb1 := Lib.hid hb1
            clear hb1
            have hsz1 := Hb1.out.size
            have hM := Lie.made (fun k => k < w.heap.size) w1 60 2 (fun k hk => Nat.lt_of_lt_of_le hk hsz1)
            have HM := Lib.hid hM
            have HbM := Lib.hid (Hb1.out.alloc hsz1 (.cells #[] 60))
            clear hM
            go_wp2_with fail
            generalize w1.alloc (.cells #[] 60) = wm at *
            generalize w1.heap.size = gm at *
            refine (HG2.out _).mono ?_
            rintro e w2 ⟨rfl, hb2⟩
            have Hb2 := Lib.hid (HbM.out.trans (hb2.mono HbM.out.size))
            have HM2 := Lib.hid (Lie.below HM.out hb2)
            clear hb2
            go_wp2_with fail
            refine (HG3.out _).mono ?_
            rintro e w3 ⟨rfl, hb3⟩
            have Hb3 := Lib.hid (Hb2.out.trans (hb3.mono Hb2.out.size))
            have HM3 := Lib.hid (Lie.below HM2.out hb3)
            clear hb3
            have hsz3 := Hb3.out.size
            go_wp2_with (at_builtin; go_must (refine wpList_append_elem_row rfl _ _ 26 (by rfl) 60 (.agg #[.int .i64 0, .int .i64 0]) 2 16 Try.underlying26 sampleInf rfl (by decide) _ 0 [] _ w3 #[.int .i64 (t : Int), .int .i64 vv] rfl (by intro u hu; simp at hu; rcases hu with rfl | rfl <;> rfl) HM3.out (by rfl) (fun k hk => Nat.lt_of_lt_of_le hk hsz3) (by rfl) (by unfold maxLen; omega) (by omega) ?_); intro v4 w4 hown4 hst4 hgr4 hat4; obtain ⟨A4, c4, rfl⟩ := hown4.form)
            have HM4 := Lib.hid hown4
            have Hb4 := Lib.hid (Hb3.out.trans (hst4.below fun k hk => hk))
            clear hown4 hst4 hgr4 hat4
            go_wp2_with fail
            go_ret2
            exact .inl ⟨hd.out, rfl, Hb4.out⟩
          · rw [if_neg hq2] at hnm
            obtain ⟨x0, hx0⟩ : ∃ x : Sample, x = ⟨(t : Int), unfoldN v⟩ := ⟨_, rfl⟩
            rw [← hx0] at hnm
            have hxT : x0.T = (t : Int) := by rw [hx0]
            have hxV : x0.V = unfoldN v := by rw [hx0]
            rw [← hxT, ← hxV] at hnm
            have hp0s : p < s.size := by omega
            have hp1s : p + 1 < s.size := by omega
            obtain ⟨a, ha⟩ : ∃ a, s[p].toNat = a := ⟨_, rfl⟩
            obtain ⟨b, hb⟩ : ∃ b, s[p + 1].toNat = b := ⟨_, rfl⟩
            rw [nth_byte (show p < s.size by omega), nth_byte (show p + 1 < s.size by omega), ha, hb] at hnm
            have ha2 : a ≤ 255 := by have := UInt8.toNat_lt s[p]; omega
            have hb2' : b ≤ 255 := by have := UInt8.toNat_lt s[p + 1]; omega
            have hqb : sbits (s.extract (p + 2) s.size) = bitsOf (s.data.toList.drop (p + 2)) := by
              unfold sbits
              rw [extract_list s (p + 2) (by omega)]
            have hqs : (s.extract (p + 2) s.size).size = s.size - (p + 2) := by rw [ByteArray.size_extract]; omega
            rw [← hqb] at hnm
            obtain ⟨R, hR⟩ : ∃ R, (restD (sbits (s.extract (p + 2) s.size)) (a : Int) (b : Int) (n - 1) 0 0 x0.T x0.V).map (fun r => (x0 :: r.1, r.2)) = R := ⟨_, rfl⟩
            rw [hR] at hnm
            have k4 : decide ((s.size : Int) < (p : Int) + 2) = false := decide_eq_false (by omega)
            have hpi : (p : Int) < (s.size : Int) := by omega
            have hpj : (p : Int) + 1 < (s.size : Int) := by omega
            have hpk : (p : Int) + 2 ≤ (s.size : Int) := by omega
            have hT0 : 0 ≤ x0.T := by omega
            have hT1 : x0.T < 1099511627776 := by omega
            have hV : In64 x0.V := by rw [hxV]; exact hvv
            have HR := Lib.hid hR
            have Hnm := Lib.hid hnm
            have Hcl := Lib.hid (show [(.int .i64 (t : Int) : Value), .int .i64 (unfoldN v)] = sampleCells x0 by rw [← hxT, ← hxV]; rfl)
            have hq : s.size ≤ 1000000 := hs
            clear hnm hR hqb hxT hxV hx0 hg1 hg2 hg3 h0 hn1' hq2
            generalize hvv' : unfoldN v = vv at *
            go_enter Try.func36, Try.ntmps36
            go_wp2_with fail
            refine (HG1.out _).mono ?_
            rintro e w1 ⟨rfl, hb1⟩
            have Hb1 := Lib.hid hb1
            clear hb1
            have hsz1 := Hb1.out.size
            have hM := Lie.made (fun k => k < w.heap.size) w1 60 2 (fun k hk => Nat.lt_of_lt_of_le hk hsz1)
            have HM := Lib.hid hM
            have HbM := Lib.hid (Hb1.out.alloc hsz1 (.cells #[] 60))
            clear hM
            go_wp2_with fail
            generalize w1.alloc (.cells #[] 60) = wm at *
            generalize w1.heap.size = gm at *
            refine (HG2.out _).mono ?_
            rintro e w2 ⟨rfl, hb2⟩
            have Hb2 := Lib.hid (HbM.out.trans (hb2.mono HbM.out.size))
            have HM2 := Lib.hid (Lie.below HM.out hb2)
            clear hb2
            go_wp2_with fail
            refine (HG3.out _).mono ?_
            rintro e w3 ⟨rfl, hb3⟩
            have Hb3 := Lib.hid (Hb2.out.trans (hb3.mono Hb2.out.size))
            have HM3 := Lib.hid (Lie.below HM2.out hb3)
            clear hb3
            have hsz3 := Hb3.out.size
            go_wp2_with (at_builtin; go_must (refine wpList_append_elem_row rfl _ _ 26 (by rfl) 60 (.agg #[.int .i64 0, .int .i64 0]) 2 16 Try.underlying26 sampleInf rfl (by decide) _ 0 [] _ w3 #[.int .i64 (t : Int), .int .i64 vv] rfl (by intro u hu; simp at hu; rcases hu with rfl | rfl <;> rfl) HM3.out (by rfl) (fun k hk => Nat.lt_of_lt_of_le hk hsz3) (by rfl) (by unfold maxLen; omega) (by omega) ?_); intro v4 w4 hown4 hst4 hgr4 hat4; obtain ⟨A4, c4, rfl⟩ := hown4.form)
            have HM4 := Lib.hid hown4
            have Hb4 := Lib.hid (Hb3.out.trans (hst4.below fun k hk => hk))
            clear hown4 hst4 hgr4 hat4
            go_wp2_with fail
            have hsz4 := Hb4.out.size
            generalize (s.extract (p + 2) s.size) = qe at *
            refine (rread_any _ _).mono ?_
            rintro e w5 ⟨rfl, hw5⟩
            have hr5 : RdrOf 119 w4.heap.size qe 0 w5 := by rw [hw5]; exact heap_alloc_new w4 _
            have hl5 : Lie (fun k => k < w.heap.size ∨ k = w4.heap.size) 60 2 (.slice A4 1 c4) 1 (sampleCells x0) w5 := by
              rw [hw5]
              have h4 : Lie (fun k => k < w.heap.size) 60 2 (.slice A4 1 c4) 1 (sampleCells x0) w4 := by have := HM4.out; rw [List.nil_append, Hcl.out] at this; exact this
              refine (h4.alloc _).shift fun g hg h => ?_
              have h1 := (h4.1.lt g hg).2
              rcases h with h | h
              · exact h4.2 g hg h
              · omega
            have hb5 : Below w.heap.size w w5 := by rw [hw5]; exact Hb4.out.alloc hsz4 _
            have Hr5 := Lib.hid hr5
            have Hl5 := Lib.hid hl5
            have Hb5 := Lib.hid hb5
            have hBc : w.heap.size ≤ w4.heap.size := hsz4
            have hn : 1 ≤ n := by omega
            clear hr5 hl5 hb5 hw5 hsz4 Hb1 Hb2 Hb3 HbM HM HM2 HM3 HM4 Hb4 hsz1 hsz3 hvv'
            generalize w4.heap.size = c at *
            go_wp2_with fail
            go_loopw [7, 15] (fun sv dv wr => RRestRel w.heap.size c n qe a b R w sv dv wr) (fun sv _ _ => n - lenOf sv)
            case atStart => exact ⟨[], x0, 0, 0, 0, A4, c4, rfl, rfl, rfl, by omega, hT0, hT1, hV, by omega, by omega, by omega, Hl5.out, Hr5.out, Hb5.out, HR.out⟩
            case round =>
              clear Hl5 Hr5 Hb5
              obtain ⟨ys, p, j, m, d, A, cap, rfl, rfl, hys, hm, hpT, hpT2, hpV, hd0, hd1, hj, hlie, hrdr, hbel, hrest⟩ := hrel
              by_cases hlt : m + 1 < n
              · obtain ⟨g, o, rfl, hgl, f0, f1⟩ := sample_at hlie.rd (show m < (ys ++ [p]).length by simp; omega)
                rw [← sAt_get, lastS hys] at f0 f1
                have hgc : g ≠ c := fun e => hlie.2 g rfl (.inr e)
                obtain ⟨m', hm'⟩ : ∃ m', n - (m + 1) = m' + 1 := ⟨n - (m + 1) - 1, by omega⟩
                rw [hm'] at hrest
                have hz1 := riceZ_le ((sbits qe).drop j) (a : Int)
                have hx := riceZ_lt ((sbits qe).drop j) (a : Int)
                have C1 := rreadRice_any c qe j (a : Int) wr hrdr (by omega) hj
                obtain ⟨g1, hg1⟩ : ∃ g1, riceZ ((sbits qe).drop j) (a : Int) = g1 := ⟨_, rfl⟩
                rw [hg1] at hz1 hx C1
                obtain ⟨x, tx, ex⟩ := g1
                simp only at hz1 hx
                rw [List.length_drop, sbits_size] at hz1
                have hz2 := riceZ_le ((sbits qe).drop (j + tx)) (b : Int)
                have hy := riceZ_lt ((sbits qe).drop (j + tx)) (b : Int)
                have C2 := fun w' h => rreadRice_any c qe (j + tx) (b : Int) w' h (by omega) (by omega)
                obtain ⟨g2, hg2⟩ : ∃ g2, riceZ ((sbits qe).drop (j + tx)) (b : Int) = g2 := ⟨_, rfl⟩
                rw [hg2] at hz2 hy C2
                obtain ⟨y, ty, ey⟩ := g2
                simp only at hz2 hy
                rw [List.length_drop, sbits_size] at hz2
                have hstep : stepD (sbits qe) a b j d p.T p.V = if ex = 0 ∧ ey = 0 ∧ unfoldN x ≤ 1099511627776 ∧ -1099511627776 ≤ unfoldN x ∧ 1 ≤ d + unfoldN x ∧ d + unfoldN x ≤ 1099511627776 ∧ p.T + (d + unfoldN x) < 1099511627776 then
                    some (j + tx + ty, d + unfoldN x, p.T + (d + unfoldN x), wrapV (p.V + unfoldN y)) else none := by
                  unfold stepD
                  rw [hg1]
                  simp only
                  rw [hg2]
                have UX := Lib.hid (fun w => runfold_any x w hx)
                have UY := Lib.hid (fun w => (runfold_any y w hy).mono fun e w' (h : e = _ ∧ w = w') => (⟨h.1, h.2.symm⟩ : e = _ ∧ w' = w))
                have hux := unfold_in hx
                have huy := unfold_in hy
                unfold In64 at hux huy hpV
                have HC1 := Lib.hid C1
                have HC2 := Lib.hid C2
                have Hlie := Lib.hid hlie
                have Hrdr := Lib.hid hrdr
                have Hbel := Lib.hid hbel
                have Hys := Lib.hid hys
                have Hrest := Lib.hid hrest
                have Hm' := Lib.hid hm'
                have Hgc := Lib.hid hgc
                have hwsz := Lib.hid (hlie.1.lt g rfl)
                clear C1 C2 hg1 hg2 hx hy hlie hrdr hbel hys hrest hm' hgc
                generalize unfoldN x = ux at *
                generalize unfoldN y = uy at *
                have hc : (ex ≠ 0 ∨ (ex = 0 ∧ ey ≠ 0) ∨ (ex = 0 ∧ ey = 0 ∧ 1099511627776 < ux) ∨ (ex = 0 ∧ ey = 0 ∧ ¬ 1099511627776 < ux ∧ ux < -1099511627776) ∨ (ex = 0 ∧ ey = 0 ∧ ¬ 1099511627776 < ux ∧ ¬ ux < -1099511627776 ∧ d + ux < 1) ∨
                    (ex = 0 ∧ ey = 0 ∧ ¬ 1099511627776 < ux ∧ ¬ ux < -1099511627776 ∧ ¬ d + ux < 1 ∧ 1099511627776 < d + ux) ∨ (ex = 0 ∧ ey = 0 ∧ ¬ 1099511627776 < ux ∧ ¬ ux < -1099511627776 ∧ ¬ d + ux < 1 ∧ ¬ 1099511627776 < d + ux ∧ 1099511627776 ≤ p.T + (d + ux))) ∨
                    (ex = 0 ∧ ey = 0 ∧ ux ≤ 1099511627776 ∧ -1099511627776 ≤ ux ∧ 1 ≤ d + ux ∧ d + ux ≤ 1099511627776 ∧ p.T + (d + ux) < 1099511627776) := by omega
                rcases hc with hc | hc
                · rw [if_neg (by omega)] at hstep
                  have HRn := Lib.hid (rest_stop Hrest.out hstep)
                  clear hstep Hrest
                  generalize p.T = pT at *
                  generalize p.V = pV at *
                  rcases hc with h1 | ⟨h1, h2⟩ | ⟨h1, h2, h3⟩ | ⟨h1, h2, h3, h4⟩ | ⟨h1, h2, h3, h4, h5⟩ | ⟨h1, h2, h3, h4, h5, h6⟩ | ⟨h1, h2, h3, h4, h5, h6, h7⟩
                  · obtain ⟨k1, k2⟩ := err_yes h1
                    clear h1
                    go_wp2_with fail
                    refine HC1.out.mono ?_
                    rintro e w3 ⟨rfl, hr3, hb3⟩
                    have Hr3 := Lib.hid hr3
                    have Hb3 := Lib.hid hb3
                    clear hr3 hb3
                    go_wp2_with fail
                    refine (HC2.out _ Hr3.out).mono ?_
                    rintro e w4 ⟨rfl, hr4, hb4⟩
                    have hw4 := (hb4.block g Hgc.out).trans (Hb3.out.block g Hgc.out)
                    have f0' := (World.cell?_of_block (a := ⟨g, o + m * 2, none⟩) hw4).trans f0
                    have f1' := (World.cell?_of_block (a := ⟨g, o + m * 2 + 1, none⟩) hw4).trans f1
                    have hcl : c < w4.heap.size := (Array.getElem?_eq_some_iff.1 hr4).1
                    have Hb4' := Lib.hid ((Hbel.out.trans (Hb3.out.below hBc)).trans (hb4.below hBc))
                    have Hb4 := Lib.hid (Hb4'.out.alloc (Nat.le_trans hBc (Nat.le_of_lt hcl)) (.cells #[.int .i64 pT, .int .i64 pV] 60))
                    clear hr4 hb4 hw4 hcl
                    go_wp2_with fail
                    go_ret2
                    exact .inl ⟨by rw [Hnm.out, HRn.out]; rfl, rfl, Hb4'.out⟩
                  · obtain ⟨k1, k2⟩ := err_no h1
                    obtain ⟨k3, k4⟩ := err_yes h2
                    clear h1 h2
                    go_wp2_with fail
                    refine HC1.out.mono ?_
                    rintro e w3 ⟨rfl, hr3, hb3⟩
                    have Hr3 := Lib.hid hr3
                    have Hb3 := Lib.hid hb3
                    clear hr3 hb3
                    go_wp2_with fail
                    refine (HC2.out _ Hr3.out).mono ?_
                    rintro e w4 ⟨rfl, hr4, hb4⟩
                    have hw4 := (hb4.block g Hgc.out).trans (Hb3.out.block g Hgc.out)
                    have f0' := (World.cell?_of_block (a := ⟨g, o + m * 2, none⟩) hw4).trans f0
                    have f1' := (World.cell?_of_block (a := ⟨g, o + m * 2 + 1, none⟩) hw4).trans f1
                    have hcl : c < w4.heap.size := (Array.getElem?_eq_some_iff.1 hr4).1
                    have Hb4' := Lib.hid ((Hbel.out.trans (Hb3.out.below hBc)).trans (hb4.below hBc))
                    have Hb4 := Lib.hid (Hb4'.out.alloc (Nat.le_trans hBc (Nat.le_of_lt hcl)) (.cells #[.int .i64 pT, .int .i64 pV] 60))
                    clear hr4 hb4 hw4 hcl
                    go_wp2_with fail
                    go_ret2
                    exact .inl ⟨by rw [Hnm.out, HRn.out]; rfl, rfl, Hb4'.out⟩
                  · obtain ⟨k1, k2⟩ := err_no h1
                    obtain ⟨k3, k4⟩ := err_no h2
                    have k5 : decide (1099511627776 < ux) = true := decide_eq_true h3
                    clear h1 h2
                    go_wp2_with fail
                    refine HC1.out.mono ?_
                    rintro e w3 ⟨rfl, hr3, hb3⟩
                    have Hr3 := Lib.hid hr3
                    have Hb3 := Lib.hid hb3
                    clear hr3 hb3
                    go_wp2_with fail
                    refine (HC2.out _ Hr3.out).mono ?_
                    rintro e w4 ⟨rfl, hr4, hb4⟩
                    have hw4 := (hb4.block g Hgc.out).trans (Hb3.out.block g Hgc.out)
                    have f0' := (World.cell?_of_block (a := ⟨g, o + m * 2, none⟩) hw4).trans f0
                    have f1' := (World.cell?_of_block (a := ⟨g, o + m * 2 + 1, none⟩) hw4).trans f1
                    have hcl : c < w4.heap.size := (Array.getElem?_eq_some_iff.1 hr4).1
                    have Hb4' := Lib.hid ((Hbel.out.trans (Hb3.out.below hBc)).trans (hb4.below hBc))
                    have Hb4 := Lib.hid (Hb4'.out.alloc (Nat.le_trans hBc (Nat.le_of_lt hcl)) (.cells #[.int .i64 pT, .int .i64 pV] 60))
                    clear hr4 hb4 hw4 hcl
                    go_wp2_with fail
                    refine (UX.out _).mono ?_
                    rintro e wz ⟨rfl, rfl⟩
                    go_wp2_with fail
                    go_ret2
                    exact .inl ⟨by rw [Hnm.out, HRn.out]; rfl, rfl, Hb4.out⟩
                  · obtain ⟨k1, k2⟩ := err_no h1
                    obtain ⟨k3, k4⟩ := err_no h2
                    have k5 : decide (1099511627776 < ux) = false := decide_eq_false h3
                    have k6 : decide (ux < -1099511627776) = true := decide_eq_true h4
                    clear h1 h2 h3
                    go_wp2_with fail
                    refine HC1.out.mono ?_
                    rintro e w3 ⟨rfl, hr3, hb3⟩
                    have Hr3 := Lib.hid hr3
                    have Hb3 := Lib.hid hb3
                    clear hr3 hb3
                    go_wp2_with fail
                    refine (HC2.out _ Hr3.out).mono ?_
                    rintro e w4 ⟨rfl, hr4, hb4⟩
                    have hw4 := (hb4.block g Hgc.out).trans (Hb3.out.block g Hgc.out)
                    have f0' := (World.cell?_of_block (a := ⟨g, o + m * 2, none⟩) hw4).trans f0
                    have f1' := (World.cell?_of_block (a := ⟨g, o + m * 2 + 1, none⟩) hw4).trans f1
                    have hcl : c < w4.heap.size := (Array.getElem?_eq_some_iff.1 hr4).1
                    have Hb4' := Lib.hid ((Hbel.out.trans (Hb3.out.below hBc)).trans (hb4.below hBc))
                    have Hb4 := Lib.hid (Hb4'.out.alloc (Nat.le_trans hBc (Nat.le_of_lt hcl)) (.cells #[.int .i64 pT, .int .i64 pV] 60))
                    clear hr4 hb4 hw4 hcl
                    go_wp2_with fail
                    refine (UX.out _).mono ?_
                    rintro e wz ⟨rfl, rfl⟩
                    go_wp2_with fail
                    go_ret2
                    exact .inl ⟨by rw [Hnm.out, HRn.out]; rfl, rfl, Hb4.out⟩
                  · obtain ⟨k1, k2⟩ := err_no h1
                    obtain ⟨k3, k4⟩ := err_no h2
                    have k5 : decide (1099511627776 < ux) = false := decide_eq_false h3
                    have k6 : decide (ux < -1099511627776) = false := decide_eq_false h4
                    have k7 : decide (d + ux < 1) = true := decide_eq_true h5
                    have j3 : ux ≤ 1099511627776 := by omega
                    have j4 : -1099511627776 ≤ ux := by omega
                    clear h1 h2 h3 h4
                    go_wp2_with fail
                    refine HC1.out.mono ?_
                    rintro e w3 ⟨rfl, hr3, hb3⟩
                    have Hr3 := Lib.hid hr3
                    have Hb3 := Lib.hid hb3
                    clear hr3 hb3
                    go_wp2_with fail
                    refine (HC2.out _ Hr3.out).mono ?_
                    rintro e w4 ⟨rfl, hr4, hb4⟩
                    have hw4 := (hb4.block g Hgc.out).trans (Hb3.out.block g Hgc.out)
                    have f0' := (World.cell?_of_block (a := ⟨g, o + m * 2, none⟩) hw4).trans f0
                    have f1' := (World.cell?_of_block (a := ⟨g, o + m * 2 + 1, none⟩) hw4).trans f1
                    have hcl : c < w4.heap.size := (Array.getElem?_eq_some_iff.1 hr4).1
                    have Hb4' := Lib.hid ((Hbel.out.trans (Hb3.out.below hBc)).trans (hb4.below hBc))
                    have Hb4 := Lib.hid (Hb4'.out.alloc (Nat.le_trans hBc (Nat.le_of_lt hcl)) (.cells #[.int .i64 pT, .int .i64 pV] 60))
                    clear hr4 hb4 hw4 hcl
                    go_wp2_with fail
                    refine (UX.out _).mono ?_
                    rintro e wz ⟨rfl, rfl⟩
                    go_wp2_with fail
                    go_ret2
                    exact .inl ⟨by rw [Hnm.out, HRn.out]; rfl, rfl, Hb4.out⟩
                  · obtain ⟨k1, k2⟩ := err_no h1
                    obtain ⟨k3, k4⟩ := err_no h2
                    have k5 : decide (1099511627776 < ux) = false := decide_eq_false h3
                    have k6 : decide (ux < -1099511627776) = false := decide_eq_false h4
                    have k7 : decide (d + ux < 1) = false := decide_eq_false h5
                    have k8 : decide (1099511627776 < d + ux) = true := decide_eq_true h6
                    have j3 : ux ≤ 1099511627776 := by omega
                    have j4 : -1099511627776 ≤ ux := by omega
                    clear h1 h2 h3 h4 h5
                    go_wp2_with fail
                    refine HC1.out.mono ?_
                    rintro e w3 ⟨rfl, hr3, hb3⟩
                    have Hr3 := Lib.hid hr3
                    have Hb3 := Lib.hid hb3
                    clear hr3 hb3
                    go_wp2_with fail
                    refine (HC2.out _ Hr3.out).mono ?_
                    rintro e w4 ⟨rfl, hr4, hb4⟩
                    have hw4 := (hb4.block g Hgc.out).trans (Hb3.out.block g Hgc.out)
                    have f0' := (World.cell?_of_block (a := ⟨g, o + m * 2, none⟩) hw4).trans f0
                    have f1' := (World.cell?_of_block (a := ⟨g, o + m * 2 + 1, none⟩) hw4).trans f1
                    have hcl : c < w4.heap.size := (Array.getElem?_eq_some_iff.1 hr4).1
                    have Hb4' := Lib.hid ((Hbel.out.trans (Hb3.out.below hBc)).trans (hb4.below hBc))
                    have Hb4 := Lib.hid (Hb4'.out.alloc (Nat.le_trans hBc (Nat.le_of_lt hcl)) (.cells #[.int .i64 pT, .int .i64 pV] 60))
                    clear hr4 hb4 hw4 hcl
                    go_wp2_with fail
                    refine (UX.out _).mono ?_
                    rintro e wz ⟨rfl, rfl⟩
                    go_wp2_with fail
                    go_ret2
                    exact .inl ⟨by rw [Hnm.out, HRn.out]; rfl, rfl, Hb4.out⟩
                  · obtain ⟨k1, k2⟩ := err_no h1
                    obtain ⟨k3, k4⟩ := err_no h2
                    have k5 : decide (1099511627776 < ux) = false := decide_eq_false h3
                    have k6 : decide (ux < -1099511627776) = false := decide_eq_false h4
                    have j3 : ux ≤ 1099511627776 := by omega
                    have j4 : -1099511627776 ≤ ux := by omega
                    have j5 : 1 ≤ d + ux := by omega
                    have j6 : d + ux ≤ 1099511627776 := by omega
                    clear h3 h4 h5 h6
                    obtain ⟨d', hd'⟩ : ∃ d', d + ux = d' := ⟨_, rfl⟩
                    rw [hd'] at h7 j5 j6
                    have k7 : decide (d' < 1) = false := decide_eq_false (by omega)
                    have k8 : decide (1099511627776 < d') = false := decide_eq_false (by omega)
                    have k9 : decide (1099511627776 ≤ pT + d') = true := decide_eq_true h7
                    have k9' : decide (pT + d' ≥ 1099511627776) = true := decide_eq_true h7
                    clear h1 h2
                    go_wp2_with fail
                    refine HC1.out.mono ?_
                    rintro e w3 ⟨rfl, hr3, hb3⟩
                    have Hr3 := Lib.hid hr3
                    have Hb3 := Lib.hid hb3
                    clear hr3 hb3
                    go_wp2_with fail
                    refine (HC2.out _ Hr3.out).mono ?_
                    rintro e w4 ⟨rfl, hr4, hb4⟩
                    have hw4 := (hb4.block g Hgc.out).trans (Hb3.out.block g Hgc.out)
                    have f0' := (World.cell?_of_block (a := ⟨g, o + m * 2, none⟩) hw4).trans f0
                    have f1' := (World.cell?_of_block (a := ⟨g, o + m * 2 + 1, none⟩) hw4).trans f1
                    have hcl : c < w4.heap.size := (Array.getElem?_eq_some_iff.1 hr4).1
                    have Hb4' := Lib.hid ((Hbel.out.trans (Hb3.out.below hBc)).trans (hb4.below hBc))
                    have Hb4 := Lib.hid (Hb4'.out.alloc (Nat.le_trans hBc (Nat.le_of_lt hcl)) (.cells #[.int .i64 pT, .int .i64 pV] 60))
                    clear hr4 hb4 hw4 hcl
                    go_wp2_with fail
                    refine (UX.out _).mono ?_
                    rintro e wz ⟨rfl, rfl⟩
                    go_wp2_with fail
                    go_ret2
                    exact .inl ⟨by rw [Hnm.out, HRn.out]; rfl, rfl, Hb4.out⟩
                · rw [if_pos hc] at hstep
                  obtain ⟨h1, h2, h3, h4, h5, h6, h7⟩ := hc
                  obtain ⟨k1, k2⟩ := err_no h1
                  obtain ⟨k3, k4⟩ := err_no h2
                  clear h1 h2
                  have HRn := Lib.hid (rest_next Hrest.out hstep)
                  have hV' := wrapV_in (p.V + uy)
                  obtain ⟨d', hd'⟩ : ∃ d', d + ux = d' := ⟨_, rfl⟩
                  rw [hd'] at h5 h6 h7 HRn
                  obtain ⟨t', ht'⟩ : ∃ t', p.T + d' = t' := ⟨_, rfl⟩
                  rw [ht'] at h7 HRn
                  have hw1 : IntKind.i64.wrap (p.V + uy) = wrapV (p.V + uy) := rfl
                  obtain ⟨v', hv'⟩ : ∃ v', wrapV (p.V + uy) = v' := ⟨_, rfl⟩
                  rw [hv'] at HRn hV' hw1
                  have hwt : IntKind.i64.wrap t' = t' := by rw [IntKind.wrap_i64]; omega
                  have hwt2 : IntKind.i64.wrap (p.T + d') = t' := by rw [ht', hwt]
                  have ht0 : 0 ≤ t' := by omega
                  have Hzs := Lib.hid (cells_snoc (ys ++ [p]) ⟨t', v'⟩)
                  have hzl : ((ys ++ [p]).flatMap sampleCells).length = (m + 1) * 2 := by rw [flatMap_length sampleCells_length, List.length_append, Hys.out]; rfl
                  clear hstep Hrest hv'
                  generalize hzs : (ys ++ [p]).flatMap sampleCells = zs at Hlie Hzs hzl
                  clear hzs
                  have k5 : decide (1099511627776 < ux) = false := decide_eq_false (by omega)
                  have k6 : decide (ux < -1099511627776) = false := decide_eq_false (by omega)
                  have k7 : decide (d' < 1) = false := decide_eq_false (by omega)
                  have k8 : decide (1099511627776 < d') = false := decide_eq_false (by omega)
                  have k9 : decide (1099511627776 ≤ t') = false := decide_eq_false (by omega)
                  have k9' : decide (t' ≥ 1099511627776) = false := decide_eq_false (by omega)
                  generalize hpTe : p.T = pT at *
                  generalize hpVe : p.V = pV at *
                  clear hpTe hpVe
                  go_wp2_with fail
                  refine HC1.out.mono ?_
                  rintro e w3 ⟨rfl, hr3, hb3⟩
                  have Hr3 := Lib.hid hr3
                  have Hb3 := Lib.hid hb3
                  clear hr3 hb3
                  go_wp2_with fail
                  refine (HC2.out _ Hr3.out).mono ?_
                  rintro e w4 ⟨rfl, hr4, hb4⟩
                  have hw4 := (hb4.block g Hgc.out).trans (Hb3.out.block g Hgc.out)
                  have f0' := (World.cell?_of_block (a := ⟨g, o + m * 2, none⟩) hw4).trans f0
                  have f1' := (World.cell?_of_block (a := ⟨g, o + m * 2 + 1, none⟩) hw4).trans f1
                  have hb5 := (Hbel.out.trans (Hb3.out.below hBc)).trans (hb4.below hBc)
                  have hl4 := but_lie (but_lie Hlie.out Hb3.out (.inr rfl)) hb4 (.inr rfl)
                  have hcl : c < w4.heap.size := (Array.getElem?_eq_some_iff.1 hr4).1
                  obtain ⟨w5, hw5⟩ : ∃ w5, w4.alloc (.cells #[.int .i64 pT, .int .i64 pV] 60) = w5 := ⟨_, rfl⟩
                  obtain ⟨c0, c1⟩ := box_two hw5
                  have hr5 : RdrOf 119 c qe (j + tx + ty) w5 := by rw [← hw5]; exact (heap_alloc_old w4 _ hcl).trans hr4
                  have hl5 : Lie (fun k => k < w.heap.size ∨ k = c ∨ k = w4.heap.size) 60 2 (.slice (some ⟨g, o, none⟩) (m + 1) cap) (m + 1) zs w5 := by
                    rw [← hw5]
                    refine (hl4.alloc _).shift fun k hk h => ?_
                    rcases h with h | h | h
                    · exact hl4.2 k hk (.inl h)
                    · exact hl4.2 k hk (.inr h)
                    · exact Nat.lt_irrefl _ (h ▸ (hl4.1.lt k hk).2)
                  have hB5 : Below w.heap.size w w5 := by rw [← hw5]; exact hb5.alloc (Nat.le_trans hBc (Nat.le_of_lt hcl)) _
                  have ho5 : Old (fun k => k < w.heap.size ∨ k = c ∨ k = w4.heap.size) w5 := by
                    intro k hk
                    have : w5.heap.size = w4.heap.size + 1 := by rw [← hw5]; simp
                    rcases hk with h | h | h <;> omega
                  have Hr5 := Lib.hid hr5
                  have Hl5 := Lib.hid hl5
                  have HB5 := Lib.hid hB5
                  have Ho5 := Lib.hid ho5
                  clear hr4 hb4 hw4 hb5 hl4 hcl hr5 hl5 hB5 ho5
                  go_wp2_with fail
                  generalize w4.heap.size = pb at *
                  refine (UX.out _).mono ?_
                  rintro e wz ⟨rfl, rfl⟩
                  clear hw5
                  go_wp2_with fail
                  have HL3a := Lib.hid (Hl5.out.drew.alloc (.cells #[.int .i64 t', .int .i64 v'] 60))
                  have HO3a : Hid (Old (fun k => k < w.heap.size ∨ k = c ∨ k = pb) (w5.drew.alloc (.cells #[.int .i64 t', .int .i64 v'] 60))) := Lib.hid (Ho5.out.mono (by simp))
                  have HRb := Lib.hid (rd_built2 w5.drew (.int .i64 t') (.int .i64 v') 60)
                  refine wp_region_held_drew (S := fun w' => w'.cell? ⟨pb, 0, none⟩ = some (.int .i64 pT) ∧ w'.cell? ⟨pb, 1, none⟩ = some (.int .i64 pV)) (by kernel_rfl) ?_ (fun hHeld => ?_)
                  · go_keep
                  refine wpAnyH_take (i := 0) (oi := _) (v := ?_) (by simp only [List.getElem?_toArray, List.getElem?_cons_succ, List.getElem?_cons_zero]; rfl) (by kernel_rfl) (by kernel_rfl) (by kernel_rfl) (by exact fun _ _ _ h => h) (Or.inl ⟨by rfl, ?_⟩) (by assumption) ?_
                  rotate_left
                  · (intro w hSw; (try dsimp only at hSw); go_simp) <;> with_reducible rfl
                  try simp only [Act.put, List.setIfInBounds_toArray, List.set_cons_zero, List.set_cons_succ]
                  refine wpAnyH_take (i := 1) (oi := _) (v := ?_) (by simp only [List.getElem?_toArray, List.getElem?_cons_succ, List.getElem?_cons_zero]; rfl) (by kernel_rfl) (by kernel_rfl) (by kernel_rfl) (by exact fun _ _ _ h => h) (Or.inl ⟨by rfl, ?_⟩) (by assumption) ?_
                  rotate_left
                  · (intro w hSw; (try dsimp only at hSw); go_simp) <;> with_reducible rfl
                  try simp only [Act.put, List.setIfInBounds_toArray, List.set_cons_zero, List.set_cons_succ]
                  refine wpAnyH_take (i := 2) (oi := _) (v := ?_) (by simp only [List.getElem?_toArray, List.getElem?_cons_succ, List.getElem?_cons_zero]; rfl) (by kernel_rfl) (by kernel_rfl) (by kernel_rfl) (by exact fun _ _ _ h => h) (Or.inl ⟨by rfl, ?_⟩) (by assumption) ?_
                  rotate_left
                  · (intro w hSw; (try dsimp only at hSw); go_simp) <;> with_reducible rfl
                  try simp only [Act.put, List.setIfInBounds_toArray, List.set_cons_zero, List.set_cons_succ]
                  refine wpAnyH_take (i := 3) (oi := _) (v := ?_) (by simp only [List.getElem?_toArray, List.getElem?_cons_succ, List.getElem?_cons_zero]; rfl) (by kernel_rfl) (by kernel_rfl) (by kernel_rfl) (by exact fun _ _ _ h => h) (Or.inl ⟨by rfl, ?_⟩) (by assumption) ?_
                  rotate_left
                  · (intro w hSw; (try dsimp only at hSw); go_simp) <;> with_reducible rfl
                  try simp only [Act.put, List.setIfInBounds_toArray, List.set_cons_zero, List.set_cons_succ]
                  refine wpAnyH_take (i := 4) (oi := _) (v := ?_) (by simp only [List.getElem?_toArray, List.getElem?_cons_succ, List.getElem?_cons_zero]; rfl) (by kernel_rfl) (by kernel_rfl) (by kernel_rfl) (by exact fun _ _ _ h => h) (Or.inl ⟨by rfl, ?_⟩) (by assumption) ?_
                  rotate_left
                  · (intro w hSw; (try dsimp only at hSw); go_simp) <;> with_reducible rfl
                  try simp only [Act.put, List.setIfInBounds_toArray, List.set_cons_zero, List.set_cons_succ]
                  refine wpAnyH_take (i := 5) (oi := _) (v := ?_) (by simp only [List.getElem?_toArray, List.getElem?_cons_succ, List.getElem?_cons_zero]; rfl) (by kernel_rfl) (by kernel_rfl) (by kernel_rfl) (by exact fun _ _ _ h => h) (Or.inl ⟨by rfl, ?_⟩) (by assumption) ?_
                  rotate_left
                  · (intro w hSw; (try dsimp only at hSw); go_simp) <;> with_reducible rfl
                  try simp only [Act.put, List.setIfInBounds_toArray, List.set_cons_zero, List.set_cons_succ]
                  refine wpAnyH_take (i := 6) (oi := _) (v := ?_) (by simp only [List.getElem?_toArray, List.getElem?_cons_succ, List.getElem?_cons_zero]; rfl) (by kernel_rfl) (by kernel_rfl) (by kernel_rfl) (by exact fun _ _ _ h => h) (Or.inl ⟨by rfl, ?_⟩) (by assumption) ?_
                  rotate_left
                  · (intro w hSw; (try dsimp only at hSw); go_simp) <;> with_reducible rfl
                  try simp only [Act.put, List.setIfInBounds_toArray, List.set_cons_zero, List.set_cons_succ]
                  refine wpAnyH_take (i := 7) (oi := _) (v := ?_) (by simp only [List.getElem?_toArray, List.getElem?_cons_succ, List.getElem?_cons_zero]; rfl) (by kernel_rfl) (by kernel_rfl) (by kernel_rfl) (by exact fun _ _ _ h => h) (Or.inl ⟨by rfl, ?_⟩) (by assumption) ?_
                  rotate_left
                  · (intro w hSw; (try dsimp only at hSw); go_simp) <;> with_reducible rfl
                  try simp only [Act.put, List.setIfInBounds_toArray, List.set_cons_zero, List.set_cons_succ]
                  refine wpAnyH_ready (rs := [8]) (by kernel_rfl) (by simp) ?_
                  refine AllReadyH.cons (o := _) (by simp only [List.getElem?_toArray, List.getElem?_cons_succ, List.getElem?_cons_zero]; rfl) (fun K hK => ?_) AllReadyH.nil
                  go_simp
                  refine (UY.out _).mono ?_
                  rintro e wz ⟨rfl, rfl⟩
                  go_wp2_with fail
                  refine hK.out _ _ ?_ (fun hHeld => ?_)
                  · exact hHeld
                  clear hK K
                  try simp only [Act.put, List.setIfInBounds_toArray, List.set_cons_zero, List.set_cons_succ]
                  refine wpAnyH_take (i := 9) (oi := _) (v := ?_) (by simp only [List.getElem?_toArray, List.getElem?_cons_succ, List.getElem?_cons_zero]; rfl) (by kernel_rfl) (by kernel_rfl) (by kernel_rfl) (by exact fun _ _ _ h => h) (Or.inl ⟨by rfl, ?_⟩) (by assumption) ?_
                  rotate_left
                  · (intro w hSw; (try dsimp only at hSw); go_simp) <;> with_reducible rfl
                  try simp only [Act.put, List.setIfInBounds_toArray, List.set_cons_zero, List.set_cons_succ]
                  refine wpAnyH_take (i := 10) (oi := _) (v := ?_) (by simp only [List.getElem?_toArray, List.getElem?_cons_succ, List.getElem?_cons_zero]; rfl) (by kernel_rfl) (by kernel_rfl) (by kernel_rfl) (by exact fun _ _ _ h => h) (Or.inl ⟨by rfl, ?_⟩) (by assumption) ?_
                  rotate_left
                  · (intro w hSw; (try dsimp only at hSw); go_simp) <;> with_reducible rfl
                  try simp only [Act.put, List.setIfInBounds_toArray, List.set_cons_zero, List.set_cons_succ]
                  refine wpAnyH_ready (rs := [11]) (by kernel_rfl) (by simp) ?_
                  refine AllReadyH.cons (o := _) (by simp only [List.getElem?_toArray, List.getElem?_cons_succ, List.getElem?_cons_zero]; rfl) (fun K hK => ?_) AllReadyH.nil
                  go_simp
                  refine hK.out _ _ ?_ (fun hHeld => ?_)
                  · exact ⟨Lib.cell?_alloc_some _ hHeld.1, Lib.cell?_alloc_some _ hHeld.2⟩
                  clear hK K
                  try simp only [Act.put, List.setIfInBounds_toArray, List.set_cons_zero, List.set_cons_succ]
                  refine wpAnyH_ready (rs := [12]) (by kernel_rfl) (by simp) ?_
                  refine AllReadyH.cons (o := _) (by simp only [List.getElem?_toArray, List.getElem?_cons_succ, List.getElem?_cons_zero]; rfl) (fun K hK => ?_) AllReadyH.nil
                  refine step_append_rd_row rfl (.tmp 142) (.tmp 153) 26 rfl 60 (.agg #[.int .i64 0, .int .i64 0]) 2 16 Try.underlying26 sampleInf rfl (by decide) (fun k => k < w.heap.size ∨ k = c ∨ k = pb) (m + 1) zs (.slice (some ⟨g, o, none⟩) (m + 1) cap) _ HL3a.out rfl HO3a.out _ 1 _ [.int .i64 t', .int .i64 v'] rfl HRb.out (by intro u hu; simp at hu; rcases hu with rfl | rfl <;> rfl) (by unfold maxLen; omega) (by omega) ?_
                  intro sv' w6 hl6 hst hgr6 hat6
                  obtain ⟨A', cap', rfl⟩ := hl6.form
                  refine hK.out _ _ ?_ (fun hHeld => ?_)
                  · exact ⟨(World.cell?_of_block (a := ⟨pb, 0, none⟩) (hst.block pb (.inr (.inr rfl)))).trans hHeld.1, (World.cell?_of_block (a := ⟨pb, 1, none⟩) (hst.block pb (.inr (.inr rfl)))).trans hHeld.2⟩
                  clear hK K
                  try simp only [Act.put, List.setIfInBounds_toArray, List.set_cons_zero, List.set_cons_succ]
                  refine wpAnyH_take (i := 13) (oi := _) (v := ?_) (by simp only [List.getElem?_toArray, List.getElem?_cons_succ, List.getElem?_cons_zero]; rfl) (by kernel_rfl) (by kernel_rfl) (by kernel_rfl) (by exact fun _ _ _ h => h) (Or.inl ⟨by rfl, ?_⟩) (by assumption) ?_
                  rotate_left
                  · (intro w hSw; (try dsimp only at hSw); go_simp) <;> with_reducible rfl
                  try simp only [Act.put, List.setIfInBounds_toArray, List.set_cons_zero, List.set_cons_succ]
                  refine wpAnyH_done (by kernel_rfl) ?_ _
                  have hr6 : RdrOf 119 c qe (j + tx + ty) w6 := (hst.block c (.inr (.inl rfl))).trans ((heap_alloc_old w5.drew _ (Array.getElem?_eq_some_iff.1 Hr5.out).1).trans Hr5.out)
                  have hb6 : Below w.heap.size w w6 := (HB5.out.drew.alloc (Nat.le_trans hBc (Nat.le_of_lt (Array.getElem?_eq_some_iff.1 Hr5.out).1)) _).trans (hst.below fun k hk => .inl hk)
                  have Hr6 := Lib.hid hr6
                  have Hb6 := Lib.hid hb6
                  have Hl6 := Lib.hid (Lie.shift hl6 (fun g' hg' h => hl6.2 g' hg' (h.elim .inl (fun h => .inr (.inl h)))) : Lie (fun k => k < w.heap.size ∨ k = c) 60 2 (.slice A' (m + 1 + 1) cap') (m + 1 + 1) _ w6)
                  clear hr6 hb6 hl6 hst hgr6 hat6
                  go_wp2_with fail
                  go_roundw
                  case rel =>
                    exact ⟨ys ++ [p], ⟨t', v'⟩, j + tx + ty, m + 1, d', A', cap', rfl, rfl, by rw [List.length_append, Hys.out]; rfl, by omega, ht0, h7, hV', by omega, h6, by omega, by rw [Hzs.out]; exact Hl6.out, Hr6.out, Hb6.out, by
                      have : n - (m + 1 + 1) = m' := by have := Hm'.out; omega
                      rw [this]; exact HRn.out⟩
                  case measure => simp [lenOf]; omega
              · obtain rfl : n = m + 1 := by omega
                have hrest' : R = some (ys ++ [p], j) := rest_done (by rw [Nat.sub_self] at hrest; exact hrest)
                have Hd := Lib.hid (show readP s.data.toList = some (ys ++ [p], decide (endE ((sbits qe).drop j) = 0)) by rw [Hnm.out, hrest']; rfl)
                have Hlen := Lib.hid (show (ys ++ [p]).length = m + 1 by rw [List.length_append, hys]; rfl)
                have Hlie := Lib.hid hlie
                have Hbel := Lib.hid hbel
                clear hrest hrest' hlie hrdr hbel hlt hys
                go_wp2_with fail
                go_ret2
                refine .inr ⟨(ys ++ [p], _), _, cap, Hd.out, by simp only [Hlen.out]; rfl, by simp only [Hlen.out]; exact Hlie.out.rd, Hbel.out, fresh_lie Hlie.out fun k hk => .inl hk⟩
theorem rdread_any (s : ByteArray) (w : World) (hs : s.size ≤ 1000000) : Calls Try.prog 36 #[.string s] w (RReadPost (readP s.data.toList) w) := by
  refine (rdread_fresh s w hs).mono ?_
  rintro e w' (⟨hR, he, hb⟩ | ⟨r, A, c, hR, he, hrd, hb, -⟩)
  · exact .inl ⟨hR, he, hb⟩
  · exact .inr ⟨r, A, c, hR, he, hrd, hb⟩
end Go.Proofs.Ytmafdbdmmfpeeaa
