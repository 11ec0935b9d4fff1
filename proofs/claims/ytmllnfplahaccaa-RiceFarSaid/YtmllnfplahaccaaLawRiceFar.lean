/-
  The walk of the law 'RiceFar'.
-/
import Derived.Test.YtmllnfplahaccaaWLaw
namespace Go.Proofs.Ytmllnfplahaccaa
open Go Go.RowKit

/-- the three numbers, and what is read of their bytes -/
theorem far_plain {n m : Nat} (hn : n < 18446744073709551616) (hm : m ≤ 40) :
    ∃ s : WSt, s = ((WSt.none.rice n m).rice (24 * 2 ^ m) m).rice (24 * 2 ^ m - 1) m ∧ s.ok ∧ s.L.length ≤ 60 ∧ 8 * s.L.length + s.m = costOne n m + 88 + (24 + m) ∧
      riceR (bitsOf s.out) m = (n, costOne n m, 0) ∧ riceR ((bitsOf s.out).drop (costOne n m)) m = (24 * 2 ^ m, 88, 0) ∧
      riceR ((bitsOf s.out).drop (costOne n m + 88)) m = (24 * 2 ^ m - 1, 24 + m, 0) ∧ endE ((bitsOf s.out).drop (costOne n m + 88 + (24 + m))) = 0 := by
  have hp := Nat.two_pow_pos m
  have hpm : (2 : Nat) ^ m ≤ 1099511627776 := Nat.pow_le_pow_right (n := 2) (by decide) hm
  obtain ⟨o1, l1⟩ := rice_ok (n := n) (k := m) none_ok hm
  obtain ⟨o2, l2⟩ := rice_ok (n := 24 * 2 ^ m) (k := m) o1 hm
  obtain ⟨o3, l3⟩ := rice_ok (n := 24 * 2 ^ m - 1) (k := m) o2 hm
  have hl0 : WSt.none.L.length = 0 := rfl
  have hb : (((WSt.none.rice n m).rice (24 * 2 ^ m) m).rice (24 * 2 ^ m - 1) m).bits = codeL n m ++ (codeL (24 * 2 ^ m) m ++ codeL (24 * 2 ^ m - 1) m) := by
    rw [rice_is, rice_is, rice_is, none_bits, List.nil_append, List.append_assoc]
  have c2 : costOne (24 * 2 ^ m) m = 88 := costOne_big (by rw [Nat.mul_div_cancel _ hp]; omega)
  have c3 : costOne (24 * 2 ^ m - 1) m = 24 + m := by
    have e : (24 * 2 ^ m - 1) / 2 ^ m = 23 := by
      apply Nat.div_eq_of_lt_le <;> omega
    rw [costOne_small (by omega), e]
  have n2 : 24 * 2 ^ m < 18446744073709551616 := by omega
  refine ⟨_, rfl, o3, by omega, ?_, ?_, ?_, ?_, ?_⟩
  · rw [← bits_len, hb, List.length_append, List.length_append, codeL_length, codeL_length, codeL_length, c2, c3]; omega
  · rw [out_bits o3.1, hb, List.append_assoc]
    exact rice_back hn _
  · rw [out_bits o3.1, hb, List.append_assoc, List.drop_left' (codeL_length n m), List.append_assoc, rice_back n2, c2]
  · rw [out_bits o3.1, hb, ← List.drop_drop, List.append_assoc, List.drop_left' (codeL_length n m), List.append_assoc, List.drop_left' (by rw [codeL_length, c2]), rice_back (by omega), c3]
  · obtain ⟨x3, hx3⟩ : ∃ x3, x3 = 24 + m := ⟨_, rfl⟩
    rw [← hx3] at c3 ⊢
    rw [out_bits o3.1, hb, ← List.drop_drop, ← List.drop_drop, List.append_assoc, List.drop_left' (codeL_length n m), List.append_assoc, List.drop_left' (by rw [codeL_length, c2]), List.drop_left' (by rw [codeL_length, c3])]
    exact end_pad _ o3.1

set_option maxRecDepth 100000 in
set_option maxHeartbeats 2000000 in
theorem riceFar_walk (n k : Nat) (hn : n < 18446744073709551616) (hk : k < 256) (w : World) :
    Calls Try.prog 8 #[.int .u64 n, .int .u8 k] w fun e w' => e = .returned (.bool true) ∧ Below w.heap.size w w' := by
  obtain ⟨m, hm⟩ : ∃ m, m = k % 41 := ⟨_, rfl⟩
  have hmi : (k : Int) % 41 = (m : Int) := by omega
  have hm40 : m ≤ 40 := by omega
  have hki : (k : Int) < 256 := by omega
  obtain ⟨s, hs, hok, hsl, hlen, h1, h2, h3, h4⟩ := far_plain hn hm40
  have hl0 : WSt.none.L.length = 0 := rfl
  obtain ⟨o1, l1⟩ := rice_ok (n := n) (k := m) none_ok hm40
  obtain ⟨o2, l2⟩ := rice_ok (n := 24 * 2 ^ m) (k := m) o1 hm40
  have hpm : (2 : Nat) ^ m ≤ 1099511627776 := Nat.pow_le_pow_right (n := 2) (by decide) hm40
  have hp := Nat.two_pow_pos m
  obtain ⟨s1, hs1⟩ : ∃ s1, s1 = WSt.none.rice n m := ⟨_, rfl⟩
  obtain ⟨s2, hs2⟩ : ∃ s2, s2 = s1.rice (24 * 2 ^ m) m := ⟨_, rfl⟩
  rw [← hs1] at hs o1 l1 o2 l2
  rw [← hs2] at hs o2 l2
  have R1 := Lib.hid (fun w' (h : WrF w.heap.size WSt.none (fun k => k = w.heap.size) w') => riceF0 w.heap.size WSt.none _ n m w' h none_ok hn hm40 (by omega))
  have R2 := Lib.hid (fun F w' (h : WrF w.heap.size s1 F w') => riceF0 w.heap.size s1 F (24 * 2 ^ m) m w' h o1 (by omega) hm40 (by omega))
  have R3 := Lib.hid (fun F w' (h : WrF w.heap.size s2 F w') => riceF0 w.heap.size s2 F (24 * 2 ^ m - 1) m w' h o2 (by omega) hm40 (by omega))
  have e1 : IntKind.u64.wrap (24 * (2 : Int) ^ m) = ((24 * 2 ^ m : Nat) : Int) := by
    have : 24 * (2 : Int) ^ m = ((24 * 2 ^ m : Nat) : Int) := by norm_cast
    rw [this]; exact IntWalk.u64_in _ (by omega)
  have e2 : IntKind.u64.wrap (((24 * 2 ^ m : Nat) : Int) - 1) = ((24 * 2 ^ m - 1 : Nat) : Int) := by rw [IntWalk.u64_in _ (by omega)]; omega
  rw [← hs1] at R1
  rw [← hs2] at R2
  rw [← hs] at R3
  generalize 24 * 2 ^ m - 1 = n2 at *
  generalize 24 * 2 ^ m = n1 at *
  have e3 : IntKind.u64.wrap (m : Int) = (m : Int) := IntWalk.u64_in _ (by omega)
  have e4 : min m 64 = m := by omega
  have hm40i : (m : Int) ≤ 40 := by omega
  have hsh := shr_nat n m
  have hob : (S s.out).size ≤ 100 := by rw [S_size]; have := out_len s; omega
  have hbb := sbits_S s.out
  have hblen : 8 * (S s.out).size = (bitsOf s.out).length := by rw [← hbb, sbits_size]
  have hol : costOne n m + 88 + (24 + m) ≤ (bitsOf s.out).length := by
    rw [out_bits hok.1, List.length_append, bits_len]; omega
  have hcq : (decide ((24 : Int) ≤ ((n / 2 ^ m : Nat) : Int)) = true ∧ costOne n m = 88) ∨ (decide ((24 : Int) ≤ ((n / 2 ^ m : Nat) : Int)) = false ∧ costOne n m = n / 2 ^ m + 1 + m ∧ n / 2 ^ m < 24) := by
    by_cases h : 24 ≤ n / 2 ^ m
    · exact .inl ⟨decide_eq_true (by omega), costOne_big (by omega)⟩
    · exact .inr ⟨decide_eq_false (by omega), costOne_small (by omega), by omega⟩
  have X1 := Lib.hid (fun c w' (h : RdrOf 61 c (S s.out) 0 w') => readRice_any c (S s.out) 0 m w' h (by omega) (by omega))
  have X2 := Lib.hid (fun c w' (h : RdrOf 61 c (S s.out) (costOne n m) w') => readRice_any c (S s.out) (costOne n m) m w' h (by omega) (by omega))
  have X3 := Lib.hid (fun c w' (h : RdrOf 61 c (S s.out) (costOne n m + 88) w') => readRice_any c (S s.out) (costOne n m + 88) m w' h (by omega) (by omega))
  have X4 := Lib.hid (fun c w' (h : RdrOf 61 c (S s.out) (costOne n m + 88 + (24 + m)) w') => end_any c (S s.out) (costOne n m + 88 + (24 + m)) w' h (by omega) (by omega))
  have z : ∀ l, riceZ l (m : Int) = riceR l m := fun l => by unfold riceZ; rw [if_pos ⟨by omega, by omega⟩]; rfl
  simp only [z, hbb, List.drop_zero, h1, h2, h3, h4] at X1 X2 X3 X4
  have BY := Lib.hid (fun F w' (h : WrF w.heap.size s F w') => bytesF w.heap.size s F w' h hok (by omega))
  have LN := Lib.hid (fun w' (h : WBlk w.heap.size s.L.length s.a s.m w') => wlen_any w.heap.size s.L.length s.a s.m w' h hok.1 (by omega))
  rw [hlen] at LN
  clear hs hs1 hs2 hok hsl hlen h1 h2 h3 h4 o1 l1 o2 l2 hpm hp hob hbb hblen hol z hn hm hk hl0
  generalize n / 2 ^ m = q at *
  generalize costOne n m = c at *
  generalize S s.out = t at *
  generalize hB : w.heap.size = B at *
  have HB := Lib.hid hB
  have N1 := newW w
  rw [hB] at N1
  have NB := Below.one w (.cells #[.pointer none, .slice none 0 0, .int .u64 0, .int .i64 0] 58)
  rw [hB] at NB
  generalize hw1 : w.alloc (.cells #[.pointer none, .slice none 0 0, .int .u64 0, .int .i64 0] 58) = wn at *
  have HN1 := Lib.hid N1
  have HNB := Lib.hid NB
  have Hw1 := Lib.hid hw1
  clear N1 NB hw1 hB
  rcases hcq with ⟨hq, hc⟩ | ⟨hq, hc, hq24⟩
  · subst hc
    have hL : (((88 + 88 + (24 + m) : Nat) : Int) == 200 + (m : Int)) = true := by rw [beq_iff_eq]; omega
    go_enter Try.func8, Try.ntmps8
    go_wp2_with fail
    refine (new_any _).mono ?_
    rintro e w1 ⟨rfl, hww⟩
    rw [Hw1.out] at hww
    subst hww
    rw [HB.out]
    go_wp2_with fail
    refine (R1.out _ HN1.out).mono ?_
    rintro e w2 ⟨rfl, F2, hW2, hf2⟩
    have HW2 := Lib.hid hW2
    have Hf2 := Lib.hid hf2
    clear hW2 hf2
    go_wp2_with fail
    refine (R2.out _ _ HW2.out).mono ?_
    rintro e w3 ⟨rfl, F3, hW3, hf3⟩
    have HW3 := Lib.hid hW3
    have Hf3 := Lib.hid (Hf2.out.trans hf3)
    clear hW3 hf3 HW2 Hf2
    go_wp2_with fail
    refine (R3.out _ _ HW3.out).mono ?_
    rintro e w4 ⟨rfl, F4, hW4, hf4⟩
    have HW4 := Lib.hid hW4
    have Hf4 := Lib.hid (Hf3.out.trans hf4)
    clear hW4 hf4 HW3 Hf3
    go_wp2_with fail
    refine (BY.out _ _ HW4.out).mono ?_
    rintro e w5 ⟨rfl, hs5⟩
    have hbF : PrF F4 B w4 B := ⟨HW4.out.lt B HW4.out.at_, .inr rfl⟩
    have HK5 := Lib.hid ((WrF.blk HW4.out).later (hs5.block B hbF))
    have HB5 := Lib.hid (show Below B w w5 from (HNB.out.trans (Hf4.out.below (by have := HNB.out.size; have := HB.out; omega) (fun k hk => Nat.le_of_eq hk.symm))).trans (hs5.below fun k hk => ⟨by have := HW4.out.lt B HW4.out.at_; omega, .inl fun e => by
      have h1 := Hf4.out.new k e
      have h2 := HNB.out.size
      have h3 := HB.out
      omega⟩))
    have hlt5 := Lib.hid (show B < w5.heap.size by have := HW4.out.lt B HW4.out.at_; have := hs5.size; omega)
    clear hs5 hbF HW4 Hf4
    go_wp2_with fail
    refine (read_any _ _).mono ?_
    rintro e w6 ⟨rfl, rfl⟩
    obtain ⟨c6, hc6⟩ : ∃ c6, c6 = w5.heap.size := ⟨_, rfl⟩
    have hr6 : RdrOf 61 c6 t 0 (w5.alloc (.cells #[.string t, .int .i64 0] 61)) := by rw [hc6]; exact heap_alloc_new w5 _
    have HK6 := Lib.hid (HK5.out.later (w' := w5.alloc (.cells #[.string t, .int .i64 0] 61)) (Lib.alloc_old w5 _ B hlt5.out))
    have HB6 := Lib.hid (show Below B w (w5.alloc (.cells #[.string t, .int .i64 0] 61)) from HB5.out.trans ((Below.one w5 _).mono (Nat.le_of_lt hlt5.out)))
    have hne := Lib.hid (show B ≠ c6 by have := hlt5.out; omega)
    have hBc := Lib.hid (show B ≤ c6 by have := hlt5.out; omega)
    rw [← hc6]
    generalize w5.alloc (.cells #[.string t, .int .i64 0] 61) = w6 at *
    have HR6 := Lib.hid hr6
    clear hr6 hc6 HK5 HB5 hlt5
    go_wp2_with fail
    refine (X1.out _ _ HR6.out).mono ?_
    rintro e w7 ⟨rfl, hr7, hb7⟩
    have HR7 := Lib.hid hr7
    have HK7 := Lib.hid (HK6.out.later (hb7.block B hne.out))
    have HB7 := Lib.hid (HB6.out.trans (hb7.below hBc.out))
    clear hr7 hb7 HR6 HK6 HB6
    rw [Nat.zero_add] at HR7
    go_wp2_with fail
    refine (X2.out _ _ HR7.out).mono ?_
    rintro e w8 ⟨rfl, hr8, hb8⟩
    have HR8 := Lib.hid hr8
    have HK8 := Lib.hid (HK7.out.later (hb8.block B hne.out))
    have HB8 := Lib.hid (HB7.out.trans (hb8.below hBc.out))
    clear hr8 hb8 HR7 HK7 HB7
    go_wp2_with fail
    refine (X3.out _ _ HR8.out).mono ?_
    rintro e w9 ⟨rfl, hr9, hb9⟩
    have HR9 := Lib.hid hr9
    have HK9 := Lib.hid (HK8.out.later (hb9.block B hne.out))
    have HB9 := Lib.hid (HB8.out.trans (hb9.below hBc.out))
    clear hr9 hb9 HR8 HK8 HB8
    go_wp2_with fail
    refine (LN.out _ HK9.out).mono ?_
    rintro e w10 ⟨rfl, hs10⟩
    have HR10 := Lib.hid (rdr_stays hs10 trivial HR9.out)
    have HB10 := Lib.hid (HB9.out.trans (hs10.below (B := B) fun _ _ => trivial))
    clear hs10 HR9 HK9 HB9
    go_wp2_with fail
    refine (X4.out _ _ HR10.out).mono ?_
    rintro e w11 ⟨rfl, hst⟩
    have HB11 := Lib.hid (HB10.out.trans (hst.but c6 |>.below hBc.out))
    clear hst HR10 HB10
    go_wp2_with fail
    go_ret
    exact ⟨rfl, HB11.out⟩
  · subst hc
    have hq24i : (q : Int) < 24 := by omega
    have hL : (((q + 1 + m + 88 + (24 + m) : Nat) : Int) == (q : Int) + 1 + (m : Int) + 88 + 24 + (m : Int)) = true := by rw [beq_iff_eq]; omega
    go_enter Try.func8, Try.ntmps8
    go_wp2_with fail
    refine (new_any _).mono ?_
    rintro e w1 ⟨rfl, hww⟩
    rw [Hw1.out] at hww
    subst hww
    rw [HB.out]
    go_wp2_with fail
    refine (R1.out _ HN1.out).mono ?_
    rintro e w2 ⟨rfl, F2, hW2, hf2⟩
    have HW2 := Lib.hid hW2
    have Hf2 := Lib.hid hf2
    clear hW2 hf2
    go_wp2_with fail
    refine (R2.out _ _ HW2.out).mono ?_
    rintro e w3 ⟨rfl, F3, hW3, hf3⟩
    have HW3 := Lib.hid hW3
    have Hf3 := Lib.hid (Hf2.out.trans hf3)
    clear hW3 hf3 HW2 Hf2
    go_wp2_with fail
    refine (R3.out _ _ HW3.out).mono ?_
    rintro e w4 ⟨rfl, F4, hW4, hf4⟩
    have HW4 := Lib.hid hW4
    have Hf4 := Lib.hid (Hf3.out.trans hf4)
    clear hW4 hf4 HW3 Hf3
    go_wp2_with fail
    refine (BY.out _ _ HW4.out).mono ?_
    rintro e w5 ⟨rfl, hs5⟩
    have hbF : PrF F4 B w4 B := ⟨HW4.out.lt B HW4.out.at_, .inr rfl⟩
    have HK5 := Lib.hid ((WrF.blk HW4.out).later (hs5.block B hbF))
    have HB5 := Lib.hid (show Below B w w5 from (HNB.out.trans (Hf4.out.below (by have := HNB.out.size; have := HB.out; omega) (fun k hk => Nat.le_of_eq hk.symm))).trans (hs5.below fun k hk => ⟨by have := HW4.out.lt B HW4.out.at_; omega, .inl fun e => by
      have h1 := Hf4.out.new k e
      have h2 := HNB.out.size
      have h3 := HB.out
      omega⟩))
    have hlt5 := Lib.hid (show B < w5.heap.size by have := HW4.out.lt B HW4.out.at_; have := hs5.size; omega)
    clear hs5 hbF HW4 Hf4
    go_wp2_with fail
    refine (read_any _ _).mono ?_
    rintro e w6 ⟨rfl, rfl⟩
    obtain ⟨c6, hc6⟩ : ∃ c6, c6 = w5.heap.size := ⟨_, rfl⟩
    have hr6 : RdrOf 61 c6 t 0 (w5.alloc (.cells #[.string t, .int .i64 0] 61)) := by rw [hc6]; exact heap_alloc_new w5 _
    have HK6 := Lib.hid (HK5.out.later (w' := w5.alloc (.cells #[.string t, .int .i64 0] 61)) (Lib.alloc_old w5 _ B hlt5.out))
    have HB6 := Lib.hid (show Below B w (w5.alloc (.cells #[.string t, .int .i64 0] 61)) from HB5.out.trans ((Below.one w5 _).mono (Nat.le_of_lt hlt5.out)))
    have hne := Lib.hid (show B ≠ c6 by have := hlt5.out; omega)
    have hBc := Lib.hid (show B ≤ c6 by have := hlt5.out; omega)
    rw [← hc6]
    generalize w5.alloc (.cells #[.string t, .int .i64 0] 61) = w6 at *
    have HR6 := Lib.hid hr6
    clear hr6 hc6 HK5 HB5 hlt5
    go_wp2_with fail
    refine (X1.out _ _ HR6.out).mono ?_
    rintro e w7 ⟨rfl, hr7, hb7⟩
    have HR7 := Lib.hid hr7
    have HK7 := Lib.hid (HK6.out.later (hb7.block B hne.out))
    have HB7 := Lib.hid (HB6.out.trans (hb7.below hBc.out))
    clear hr7 hb7 HR6 HK6 HB6
    rw [Nat.zero_add] at HR7
    go_wp2_with fail
    refine (X2.out _ _ HR7.out).mono ?_
    rintro e w8 ⟨rfl, hr8, hb8⟩
    have HR8 := Lib.hid hr8
    have HK8 := Lib.hid (HK7.out.later (hb8.block B hne.out))
    have HB8 := Lib.hid (HB7.out.trans (hb8.below hBc.out))
    clear hr8 hb8 HR7 HK7 HB7
    go_wp2_with fail
    refine (X3.out _ _ HR8.out).mono ?_
    rintro e w9 ⟨rfl, hr9, hb9⟩
    have HR9 := Lib.hid hr9
    have HK9 := Lib.hid (HK8.out.later (hb9.block B hne.out))
    have HB9 := Lib.hid (HB8.out.trans (hb9.below hBc.out))
    clear hr9 hb9 HR8 HK8 HB8
    go_wp2_with fail
    refine (LN.out _ HK9.out).mono ?_
    rintro e w10 ⟨rfl, hs10⟩
    have HR10 := Lib.hid (rdr_stays hs10 trivial HR9.out)
    have HB10 := Lib.hid (HB9.out.trans (hs10.below (B := B) fun _ _ => trivial))
    clear hs10 HR9 HK9 HB9
    go_wp2_with fail
    refine (X4.out _ _ HR10.out).mono ?_
    rintro e w11 ⟨rfl, hst⟩
    have HB11 := Lib.hid (HB10.out.trans (hst.but c6 |>.below hBc.out))
    clear hst HR10 HB10
    go_wp2_with fail
    go_ret
    exact ⟨rfl, HB11.out⟩
end Go.Proofs.Ytmllnfplahaccaa
