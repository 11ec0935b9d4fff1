/-
  The walks of rice.Reader: Rice, End, Read.
-/
import Derived.Test.YtjendmojkdkipaaReader
import Derived.Test.YtjendmojkdkipaaLen64
namespace Go.Proofs.Ytjendmojkdkipaa
open Go Go.RowKit

theorem read_any (s : ByteArray) (w : World) :
    Calls Try.prog 42 #[.string s] w fun e w' => e = .returned (.pointer (some ⟨w.heap.size, 0, none⟩)) ∧ w' = w.alloc (.cells #[.string s, .int .i64 0] 87) := by
  go_enter Try.func42, Try.ntmps42
  go_wp2_with fail
  go_ret
  exact ⟨rfl, rfl⟩

/-- what End answers -/
def endE (l : List Bool) : Nat := if 8 ≤ l.length ∨ numB l ≠ 0 then 11 else 0

set_option maxRecDepth 100000 in
set_option maxHeartbeats 1000000 in
theorem end_any (b : Nat) (s : ByteArray) (j : Nat) (w : World) (h : RdrOf 87 b s j w) (hs : s.size < 1099511627776) (hj : j ≤ 8 * s.size) :
    Calls Try.prog 44 #[.pointer (some ⟨b, 0, none⟩)] w fun e w' => e = .returned (.int .i64 (endE ((sbits s).drop j) : Nat)) ∧ Still w w' := by
  have L := Lib.hid (left_any b s j w h hs hj)
  have HH := Lib.hid h
  have hl : ((sbits s).drop j).length = 8 * s.size - j := by rw [List.length_drop, sbits_size]
  by_cases hc : 8 ≤ 8 * s.size - j
  · have e : endE ((sbits s).drop j) = 11 := by unfold endE; rw [if_pos (.inl (by omega))]
    rw [e]
    have hd : decide ((8 : Int) ≤ ((8 * s.size - j : Nat) : Int)) = true := decide_eq_true (by omega)
    clear e hl h hj hc
    generalize 8 * s.size - j = x at *
    go_enter Try.func44, Try.ntmps44
    go_wp2_with fail
    refine L.out.mono ?_
    rintro e w1 ⟨rfl, hb1⟩
    go_wp2_with fail
    go_ret
    exact ⟨rfl, hb1⟩
  · have hd : decide ((8 : Int) ≤ ((8 * s.size - j : Nat) : Int)) = false := decide_eq_false (by omega)
    have P := Lib.hid (fun w1 h0 => peek_any b s j (8 * s.size - j) w1 h0 hs (by omega) (by omega))
    have ht : ((sbits s).drop j).take (8 * s.size - j) = (sbits s).drop j := List.take_of_length_le (by omega)
    rw [ht] at P
    have he : endE ((sbits s).drop j) = if numB ((sbits s).drop j) = 0 then 0 else 11 := by
      unfold endE
      by_cases h0 : numB ((sbits s).drop j) = 0
      · rw [if_neg (by rw [hl]; omega), if_pos h0]
      · rw [if_pos (.inr h0), if_neg h0]
    rw [he]
    clear he ht hl h hj hc
    generalize 8 * s.size - j = x at *
    generalize numB ((sbits s).drop j) = n at *
    have hcase : (((n : Int) == 0) = true ∧ (if n = 0 then (0 : Nat) else 11) = 0) ∨ (((n : Int) == 0) = false ∧ (if n = 0 then (0 : Nat) else 11) = 11) := by
      by_cases hn : n = 0
      · exact .inl ⟨by rw [hn]; rfl, if_pos hn⟩
      · exact .inr ⟨beq_eq_false_iff_ne.2 (by omega), if_neg hn⟩
    rcases hcase with ⟨hn0, hr⟩ | ⟨hn0, hr⟩
    all_goals
      rw [hr]
      clear hr
      go_enter Try.func44, Try.ntmps44
      go_wp2_with fail
      refine L.out.mono ?_
      rintro e w1 ⟨rfl, hb1⟩
      have hr1 := hb1.rdr HH.out
      obtain ⟨c0, c1, f1⟩ := RdrOf.cells hr1
      have HR1 := Lib.hid hr1
      have HB1 := Lib.hid hb1
      clear hr1 hb1
      go_wp2_with fail
      refine (P.out _ c0).mono ?_
      rintro e w2 ⟨rfl, rfl⟩
      go_wp2_with fail
      go_ret
      exact ⟨rfl, HB1.out⟩

/-- what the program reckons of the bits ahead: their number's complement, and how many bits 1 are at its head -/
theorem head_facts {l : List Bool} {hd q : Nat} (hl : (l.take hd).length = hd) (h24 : hd ≤ 24) (hq : ((l.take hd).takeWhile id).length = q) :
    ∃ Y Z sh : Nat, sh = 64 - hd ∧ Y = numB (l.take hd) * 2 ^ sh ∧ Y + Z = 18446744073709551615 ∧ Lib.bitLen Z = 64 - q ∧ q ≤ hd := by
  have hlz := lz_lead (l.take hd) (by omega)
  rw [hl, hq] at hlz
  have hn := numB_lt (l.take hd)
  rw [hl] at hn
  have hY : numB (l.take hd) * 2 ^ (64 - hd) < 18446744073709551616 := by
    have := Nat.mul_lt_mul_of_pos_right hn (Nat.two_pow_pos (64 - hd))
    rwa [← Nat.pow_add, show hd + (64 - hd) = 64 by omega] at this
  refine ⟨_, 18446744073709551615 - numB (l.take hd) * 2 ^ (64 - hd), 64 - hd, rfl, rfl, by omega, hlz, ?_⟩
  have := (List.takeWhile_prefix (p := id) (l := l.take hd)).length_le
  omega

theorem not_nat {Y Z : Nat} (h : Y + Z = 18446744073709551615) : bits .xor .u64 IntKind.u64.max (Y : Int) = (Z : Int) := by
  show bits .xor .u64 18446744073709551615 (Y : Int) = (Z : Int)
  have e := u64_xor_nat 18446744073709551615 Y (by omega) (by omega)
  have e2 : 18446744073709551615 ^^^ Y = Z := by
    obtain rfl : Z = 2 ^ 64 - (Y + 1) := by omega
    apply Nat.eq_of_testBit_eq
    intro i
    have h64 : (18446744073709551615 : Nat) = 2 ^ 64 - 1 := by decide
    rw [Nat.testBit_xor, Nat.testBit_two_pow_sub_succ (by omega), h64, Nat.testBit_two_pow_sub_one]
    by_cases hi : i < 64
    · simp [hi]
    · have : Y.testBit i = false := Nat.testBit_lt_two_pow (Nat.lt_of_lt_of_le (by omega : Y < 2 ^ 64) (Nat.pow_le_pow_right (by decide) (by omega)))
      simp [hi, this]
  rw [← e2]; exact e

theorem lz_any (Z q : Nat) (w : World) (hZ : Z ≤ 18446744073709551615) (hq : Lib.bitLen Z = 64 - q) (hq24 : q ≤ 24) :
    Calls Try.prog 53 #[.int .u64 Z] w fun e w' => e = .returned (.int .i64 q) ∧ w = w' := by
  refine (lz64_any (Z : Int) w (by omega) (by omega) (by rw [Int.toNat_natCast, hq]; omega)).mono ?_
  rintro e w' ⟨rfl, rfl⟩
  rw [Int.toNat_natCast, hq]
  exact ⟨by congr 2; omega, rfl⟩

set_option maxRecDepth 100000 in
set_option maxHeartbeats 2000000 in
theorem rice_small (b : Nat) (s : ByteArray) (j k : Nat) (w : World) (h : RdrOf 87 b s j w) (hs : s.size ≤ 1000000) (hj : j < 8 * s.size) (hk : k ≤ 40) (hq : lead ((sbits s).drop j) 24 < 24) :
    Calls Try.prog 43 #[.pointer (some ⟨b, 0, none⟩), .int .i64 k] w (Got 87 b s j (riceR ((sbits s).drop j) k) w) := by
  have hk1 : decide ((k : Int) < 0) = false := decide_eq_false (by omega)
  have hk2 : decide ((40 : Int) < (k : Int)) = false := decide_eq_false (by omega)
  have L := Lib.hid (left_any b s j w h (by omega) (by omega))
  have HH := Lib.hid h
  have hl : ((sbits s).drop j).length = 8 * s.size - j := by rw [List.length_drop, sbits_size]
  obtain ⟨x, hx⟩ : ∃ x, x = 8 * s.size - j := ⟨_, rfl⟩
  rw [← hx] at L
  obtain ⟨hd, hhd⟩ : ∃ hd, hd = min 24 x := ⟨_, rfl⟩
  have hif : (if (x : Int) < 24 then (x : Int) else 24) = (hd : Int) := by split <;> omega
  have hif' : min (24 : Int) (x : Int) = (hd : Int) := by omega
  obtain ⟨q, hqd⟩ : ∃ q, q = lead ((sbits s).drop j) 24 := ⟨_, rfl⟩
  have P := Lib.hid (fun w1 h0 => peek_any b s j hd w1 h0 (by omega) (by omega) (by omega))
  have hlt : (((sbits s).drop j).take hd).length = hd := by rw [List.length_take, hl]; omega
  have hqt : ((((sbits s).drop j).take hd).takeWhile id).length = q := by
    rw [hqd, ← lead_cut, hl, ← hx, ← hhd]; rfl
  obtain ⟨Y, Z, sh, hsh, hY, hYZ, hbl, hqh⟩ := head_facts hlt (by omega) hqt
  have LZ := Lib.hid (fun w => lz_any Z q w (by omega) hbl (by omega))
  have e1 : 64 - (hd : Int) = (sh : Int) := by omega
  have e2 : IntKind.u64.wrap (sh : Int) = (sh : Int) := IntWalk.u64_in _ (by omega)
  have e3 : min sh 64 = sh := by omega
  have e4 : IntKind.u64.wrap ((numB (((sbits s).drop j).take hd) : Int) * 2 ^ sh) = (Y : Int) := by
    have : (numB (((sbits s).drop j).take hd) : Int) * 2 ^ sh = ((numB (((sbits s).drop j).take hd) * 2 ^ sh : Nat) : Int) := by norm_cast
    rw [this, ← hY]; exact IntWalk.u64_in _ (by omega)
  have hd0 : ((hd : Int) == 0) = false := beq_eq_false_iff_ne.2 (by omega)
  have e5 : (if (hd : Int) < (q : Int) then (hd : Int) else (q : Int)) = (q : Int) := by split <;> omega
  have e5' : min (q : Int) (hd : Int) = (q : Int) := by omega
  have q24 : ((q : Int) == 24) = false := beq_eq_false_iff_ne.2 (by omega)
  have q24' : decide ((q : Int) < 24) = true := decide_eq_true (by omega)
  obtain ⟨a, ha⟩ : ∃ a, a = j + q + 1 := ⟨_, rfl⟩
  have e6 : (j : Int) + (q : Int) + 1 = (a : Int) := by omega
  have hj64 : (j : Int) ≤ 8000000 := by omega
  have hqi : (q : Int) ≤ 24 := by omega
  have hsz : (s.size : Int) ≤ 1000000 := by omega
  generalize hX : numB (((sbits s).drop j).take hd) = X at *
  have hxor := not_nat hYZ
  by_cases hsh' : x < q + 1 + k
  · have hr : riceR ((sbits s).drop j) k = (0, 0, 10) := by unfold riceR; rw [if_pos hq, if_pos (by rw [hl, ← hqd]; omega)]
    rw [hr]
    have hd3 : decide (8 * (s.size : Int) - (a : Int) < (k : Int)) = true := decide_eq_true (by omega)
    clear hx hhd hqd hlt hqt hsh hY hYZ hbl ha hX hj hq h hs hl hr hsh'
    go_enter Try.func43, Try.ntmps43
    go_wp2_with fail
    refine L.out.mono ?_
    rintro e w1 ⟨rfl, hb1⟩
    have hr1 := hb1.rdr HH.out
    obtain ⟨c0, c1, f1⟩ := RdrOf.cells hr1
    have HR1 := Lib.hid hr1
    have HB1 := Lib.hid hb1
    clear hr1 hb1
    go_wp2_with fail
    refine (P.out _ c0).mono ?_
    rintro e w2 ⟨rfl, rfl⟩
    go_wp2_with fail
    refine (LZ.out _).mono ?_
    rintro e w3 ⟨rfl, rfl⟩
    go_wp2_with fail
    go_ret2
    exact ⟨rfl, HR1.out, HB1.out.but b⟩
  · obtain ⟨n, hn⟩ : ∃ n, n = numB (((sbits s).drop a).take k) := ⟨_, rfl⟩
    have hr : riceR ((sbits s).drop j) k = (q * 2 ^ k + n, q + 1 + k, 0) := by
      unfold riceR; rw [if_pos hq, if_neg (by rw [hl, ← hqd]; omega), ← hqd, List.drop_drop, hn, ha]; simp only [Nat.add_assoc]
    rw [hr]
    have hnk : n < 2 ^ k := by rw [hn]; exact take_num_lt _ _ _
    have hd3 : decide (8 * (s.size : Int) - (a : Int) < (k : Int)) = false := decide_eq_false (by omega)
    have P2 := Lib.hid (fun w1 h0 => peek_any b s a k w1 h0 (by omega) (by omega) (by omega))
    rw [← hn] at P2
    have hpk : (2 : Nat) ^ k ≤ 1099511627776 := Nat.pow_le_pow_right (n := 2) (by decide) hk
    have hqk : q * 2 ^ k ≤ 24 * 1099511627776 := Nat.mul_le_mul (by omega) hpk
    have g1 : IntKind.u64.wrap (q : Int) = (q : Int) := IntWalk.u64_in _ (by omega)
    have g2 : IntKind.u64.wrap (k : Int) = (k : Int) := IntWalk.u64_in _ (by omega)
    have g3 : min k 64 = k := by omega
    have g4 : IntKind.u64.wrap ((q : Int) * 2 ^ k) = (q : Int) * 2 ^ k := IntWalk.u64_in _ (by
      have : (q : Int) * 2 ^ k = ((q * 2 ^ k : Nat) : Int) := by norm_cast
      omega)
    have g5 : Go.bits .or .u64 (n : Int) ((q : Int) * 2 ^ k) = ((q * 2 ^ k + n : Nat) : Int) := by
      have e : (q : Int) * 2 ^ k = ((q * 2 ^ k : Nat) : Int) := by norm_cast
      rw [e, u64_or_nat _ _ (by omega) (by omega), Nat.or_comm]
      congr 1
      rw [Nat.mul_comm, Nat.two_pow_add_eq_or_of_lt hnk]
    have hai : (a : Int) ≤ 8000100 := by omega
    have hki : (k : Int) ≤ 40 := by omega
    have Ha := Lib.hid ha
    clear hx hhd hqd hlt hqt hsh hY hYZ hbl ha hX hj hq h hs hl hr hsh' hn hnk hpk hqk
    generalize q * 2 ^ k + n = z at *
    go_enter Try.func43, Try.ntmps43
    go_wp2_with fail
    refine L.out.mono ?_
    rintro e w1 ⟨rfl, hb1⟩
    have hr1 := hb1.rdr HH.out
    obtain ⟨c0, c1, f1⟩ := RdrOf.cells hr1
    have HR1 := Lib.hid hr1
    have HB1 := Lib.hid hb1
    clear hr1 hb1
    go_wp2_with fail
    refine (P.out _ c0).mono ?_
    rintro e w2 ⟨rfl, rfl⟩
    go_wp2_with fail
    refine (LZ.out _).mono ?_
    rintro e w3 ⟨rfl, rfl⟩
    go_wp2_with fail
    refine (P2.out _ c0).mono ?_
    rintro e w4 ⟨rfl, rfl⟩
    go_wp2_with fail
    go_ret2
    refine ⟨rfl, ?_, (HB1.out.but b).trans (but_set _ _ _ _)⟩
    have e9 : j + (q + 1 + k) = a + k := by have := Ha.out; omega
    simp only [e9]
    exact RdrOf.set2 HR1.out

set_option maxRecDepth 100000 in
set_option maxHeartbeats 2000000 in
theorem rice_far (b : Nat) (s : ByteArray) (j k : Nat) (w : World) (h : RdrOf 87 b s j w) (hs : s.size ≤ 1000000) (hj : j ≤ 8 * s.size) (hk : k ≤ 40) (hq : ¬ lead ((sbits s).drop j) 24 < 24) :
    Calls Try.prog 43 #[.pointer (some ⟨b, 0, none⟩), .int .i64 k] w (Got 87 b s j (riceR ((sbits s).drop j) k) w) := by
  have hk1 : decide ((k : Int) < 0) = false := decide_eq_false (by omega)
  have hk2 : decide ((40 : Int) < (k : Int)) = false := decide_eq_false (by omega)
  have L := Lib.hid (left_any b s j w h (by omega) (by omega))
  have HH := Lib.hid h
  have hl : ((sbits s).drop j).length = 8 * s.size - j := by rw [List.length_drop, sbits_size]
  obtain ⟨x, hx⟩ : ∃ x, x = 8 * s.size - j := ⟨_, rfl⟩
  rw [← hx] at L
  have hle := lead_le ((sbits s).drop j) 24
  have hx24 : 24 ≤ x := by omega
  have hif : (if (x : Int) < 24 then (x : Int) else 24) = 24 := by split <;> omega
  have hif' : min (24 : Int) (x : Int) = 24 := by omega
  have P := Lib.hid (fun w1 h0 => peek_any b s j 24 w1 h0 (by omega) (by omega) (by omega))
  have hlt : (((sbits s).drop j).take 24).length = 24 := by rw [List.length_take, hl]; omega
  have hqt : ((((sbits s).drop j).take 24).takeWhile id).length = 24 := by
    have : ((((sbits s).drop j).take 24).takeWhile id).length = lead ((sbits s).drop j) 24 := rfl
    omega
  obtain ⟨Y, Z, sh, hsh, hY, hYZ, hbl, hqh⟩ := head_facts hlt (by omega) hqt
  have LZ : ∀ w, Calls Try.prog 53 #[.int .u64 Z] w fun e w' => e = .returned (.int .i64 24) ∧ w = w' := fun w => lz_any Z 24 w (by omega) hbl (by omega)
  have HLZ := Lib.hid LZ
  have hs40 : sh = 40 := by omega
  subst hs40
  have e4 : IntKind.u64.wrap ((numB (((sbits s).drop j).take 24) : Int) * 1099511627776) = (Y : Int) := by
    rw [hY]
    rw [IntWalk.u64_in _ (by omega)]; omega
  obtain ⟨a, ha⟩ : ∃ a, a = j + 24 := ⟨_, rfl⟩
  have e6 : (j : Int) + 24 = (a : Int) := by omega
  have hj64 : (j : Int) ≤ 8000000 := by omega
  have hsz : (s.size : Int) ≤ 1000000 := by omega
  generalize hX : numB (((sbits s).drop j).take 24) = X at *
  have hxor := not_nat hYZ
  by_cases hsh' : x < 88
  · have hr : riceR ((sbits s).drop j) k = (0, 0, 10) := by unfold riceR; rw [if_neg hq, if_pos (by rw [hl]; omega)]
    rw [hr]
    have hd3 : decide (8 * (s.size : Int) - (a : Int) < 64) = true := decide_eq_true (by omega)
    clear hx hlt hqt hY hYZ hbl ha hX hj hq h hs hl hr hsh' hle hx24 LZ hsh
    go_enter Try.func43, Try.ntmps43
    go_wp2_with fail
    refine L.out.mono ?_
    rintro e w1 ⟨rfl, hb1⟩
    have hr1 := hb1.rdr HH.out
    obtain ⟨c0, c1, f1⟩ := RdrOf.cells hr1
    have HR1 := Lib.hid hr1
    have HB1 := Lib.hid hb1
    clear hr1 hb1
    go_wp2_with fail
    refine (P.out _ c0).mono ?_
    rintro e w2 ⟨rfl, rfl⟩
    go_wp2_with fail
    refine (HLZ.out _).mono ?_
    rintro e w3 ⟨rfl, rfl⟩
    go_wp2_with fail
    go_ret2
    exact ⟨rfl, HR1.out, HB1.out.but b⟩
  · obtain ⟨n, hn⟩ : ∃ n, n = numB (((sbits s).drop a).take 64) := ⟨_, rfl⟩
    have hr : riceR ((sbits s).drop j) k = if n / 2 ^ k < 24 then (0, 0, 11) else (n, 88, 0) := by
      unfold riceR; rw [if_neg hq, if_neg (by rw [hl]; omega), List.drop_drop, ← ha, ← hn]
    have hd3 : decide (8 * (s.size : Int) - (a : Int) < 64) = false := decide_eq_false (by omega)
    have P2 := Lib.hid (fun w1 h0 => peek_any b s a 64 w1 h0 (by omega) (by omega) (by omega))
    rw [← hn] at P2
    have g2 : IntKind.u64.wrap (k : Int) = (k : Int) := IntWalk.u64_in _ (by omega)
    have g3 : min k 64 = k := by omega
    have hshr := shr_nat n k
    have hcase : (decide (((n / 2 ^ k : Nat) : Int) < 24) = true ∧ riceR ((sbits s).drop j) k = (0, 0, 11)) ∨ (decide (((n / 2 ^ k : Nat) : Int) < 24) = false ∧ riceR ((sbits s).drop j) k = (n, 88, 0)) := by
      by_cases hc : n / 2 ^ k < 24
      · exact .inl ⟨decide_eq_true (by omega), by rw [hr, if_pos hc]⟩
      · exact .inr ⟨decide_eq_false (by omega), by rw [hr, if_neg hc]⟩
    have hai : (a : Int) ≤ 8000100 := by omega
    have hki : (k : Int) ≤ 40 := by omega
    have Ha := Lib.hid ha
    clear hx hlt hqt hY hYZ hbl ha hX hj hq h hs hl hr hsh' hle hx24 LZ hsh hn
    generalize n / 2 ^ k = z at *
    rcases hcase with ⟨hd4, hr⟩ | ⟨hd4, hr⟩
    all_goals
      rw [hr]
      clear hr
      go_enter Try.func43, Try.ntmps43
      go_wp2_with fail
      refine L.out.mono ?_
      rintro e w1 ⟨rfl, hb1⟩
      have hr1 := hb1.rdr HH.out
      obtain ⟨c0, c1, f1⟩ := RdrOf.cells hr1
      have HR1 := Lib.hid hr1
      have HB1 := Lib.hid hb1
      clear hr1 hb1
      go_wp2_with fail
      refine (P.out _ c0).mono ?_
      rintro e w2 ⟨rfl, rfl⟩
      go_wp2_with fail
      refine (HLZ.out _).mono ?_
      rintro e w3 ⟨rfl, rfl⟩
      go_wp2_with fail
      refine (P2.out _ c0).mono ?_
      rintro e w4 ⟨rfl, rfl⟩
      go_wp2_with fail
      go_ret2
    · exact ⟨rfl, HR1.out, HB1.out.but b⟩
    · refine ⟨rfl, ?_, (HB1.out.but b).trans (but_set _ _ _ _)⟩
      have e9 : j + 88 = a + 64 := by have := Ha.out; omega
      simp only [e9]
      exact RdrOf.set2 (t := 64) HR1.out

set_option maxRecDepth 100000 in
set_option maxHeartbeats 2000000 in
theorem rice_none (b : Nat) (s : ByteArray) (j k : Nat) (w : World) (h : RdrOf 87 b s j w) (hs : s.size ≤ 1000000) (hj : j = 8 * s.size) (hk : k ≤ 40) :
    Calls Try.prog 43 #[.pointer (some ⟨b, 0, none⟩), .int .i64 k] w (Got 87 b s j (riceR ((sbits s).drop j) k) w) := by
  have hl : (sbits s).drop j = [] := List.eq_nil_of_length_eq_zero (by rw [List.length_drop, sbits_size]; omega)
  have hr : riceR ((sbits s).drop j) k = (0, 0, 10) := by rw [hl]; unfold riceR lead; simp
  rw [hr]
  have hk1 : decide ((k : Int) < 0) = false := decide_eq_false (by omega)
  have hk2 : decide ((40 : Int) < (k : Int)) = false := decide_eq_false (by omega)
  have L := Lib.hid (left_any b s j w h (by omega) (by omega))
  rw [show 8 * s.size - j = 0 by omega] at L
  have HH := Lib.hid h
  have P := Lib.hid (fun w1 h0 => peek_any b s j 0 w1 h0 (by omega) (by omega) (by omega))
  rw [List.take_zero, numB_nil] at P
  obtain ⟨Z, hZ⟩ : ∃ Z, 0 + Z = 18446744073709551615 := ⟨_, Nat.zero_add _⟩
  have hxor : Go.bits .xor .u64 IntKind.u64.max 0 = (Z : Int) := not_nat hZ
  have hm0 : min (24 : Int) 0 = 0 := by decide
  have hbl : Lib.bitLen Z = 64 - 0 := by
    obtain rfl : Z = 18446744073709551615 := by omega
    decide +kernel
  have LZ : ∀ w, Calls Try.prog 53 #[.int .u64 Z] w fun e w' => e = .returned (.int .i64 0) ∧ w = w' := fun w => lz_any Z 0 w (by omega) hbl (by omega)
  have HLZ := Lib.hid LZ
  have hj64 : (j : Int) ≤ 8000000 := by omega
  have hsz : (s.size : Int) ≤ 1000000 := by omega
  have hd3 : decide (8 * (s.size : Int) - ((j : Int) + 1) < (k : Int)) = true := decide_eq_true (by omega)
  clear hl hr hZ hbl LZ hj hs h
  go_enter Try.func43, Try.ntmps43
  go_wp2_with fail
  refine L.out.mono ?_
  rintro e w1 ⟨rfl, hb1⟩
  have hr1 := hb1.rdr HH.out
  obtain ⟨c0, c1, f1⟩ := RdrOf.cells hr1
  have HR1 := Lib.hid hr1
  have HB1 := Lib.hid hb1
  clear hr1 hb1
  go_wp2_with fail
  refine (P.out _ c0).mono ?_
  rintro e w2 ⟨rfl, rfl⟩
  go_wp2_with fail
  refine (HLZ.out _).mono ?_
  rintro e w3 ⟨rfl, rfl⟩
  go_wp2_with fail
  go_ret2
  exact ⟨rfl, HR1.out, HB1.out.but b⟩

set_option maxRecDepth 100000 in
theorem rice_bad (b : Nat) (s : ByteArray) (j : Nat) (k : Int) (w : World) (h : RdrOf 87 b s j w) (hk : k < 0 ∨ 40 < k) :
    Calls Try.prog 43 #[.pointer (some ⟨b, 0, none⟩), .int .i64 k] w (Got 87 b s j (0, 0, 1) w) := by
  have hc : decide (k < 0) = true ∨ (decide (k < 0) = false ∧ decide (40 < k) = true) := by
    simp only [decide_eq_true_eq, decide_eq_false_iff_not]; omega
  have HH := Lib.hid h
  clear hk h
  rcases hc with h1 | ⟨h1, h2⟩
  all_goals
    go_enter Try.func43, Try.ntmps43
    go_wp2_with fail
    go_ret2
    exact ⟨rfl, HH.out, But.refl _ _⟩

theorem readRice_any (b : Nat) (s : ByteArray) (j : Nat) (k : Int) (w : World) (h : RdrOf 87 b s j w) (hs : s.size ≤ 1000000) (hj : j ≤ 8 * s.size) :
    Calls Try.prog 43 #[.pointer (some ⟨b, 0, none⟩), .int .i64 k] w (Got 87 b s j (riceZ ((sbits s).drop j) k) w) := by
  unfold riceZ
  by_cases hk : 0 ≤ k ∧ k ≤ 40
  · rw [if_pos hk]
    obtain ⟨t, rfl⟩ := Int.eq_ofNat_of_zero_le hk.1
    have ht : t ≤ 40 := by omega
    show Calls _ _ #[_, .int .i64 ((t : Nat) : Int)] w (Got _ b s j (riceR ((sbits s).drop j) t) w)
    by_cases hq : lead ((sbits s).drop j) 24 < 24
    · by_cases he : j = 8 * s.size
      · exact rice_none b s j t w h hs he ht
      · exact rice_small b s j t w h hs (by omega) ht hq
    · exact rice_far b s j t w h hs hj ht hq
  · rw [if_neg hk]
    exact rice_bad b s j k w h (by omega)

theorem riceZ_le (l : List Bool) (k : Int) : (riceZ l k).2.1 ≤ l.length := by
  have hl := lead_le l 24
  unfold riceZ riceR
  split
  · split
    · split
      · exact Nat.zero_le _
      · rename_i h1 h2; exact Nat.le_of_not_lt h2
    · split
      · exact Nat.zero_le _
      · split
        · exact Nat.zero_le _
        · rename_i h1 h2 h3; exact Nat.le_of_not_lt h2
  · exact Nat.zero_le _
theorem getZ_le (l : List Bool) (k : Int) : (getZ l k).2.1 ≤ l.length := by
  unfold getZ getR
  split
  · split
    · exact Nat.zero_le _
    · rename_i h1 h2; exact Nat.le_of_not_lt h2
  · exact Nat.zero_le _
end Go.Proofs.Ytjendmojkdkipaa
