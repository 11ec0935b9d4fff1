/-
  The walks of the document's Reader.
-/
import Derived.Test.YtmllnfplahaccaaReader
import Derived.Test.YtmllnfplahaccaaReader2
namespace Go.Proofs.Ytmllnfplahaccaa
open Go Go.RowKit

theorem rread_any (s : ByteArray) (w : World) :
    Calls Try.prog 18 #[.string s] w fun e w' => e = .returned (.pointer (some ⟨w.heap.size, 0, none⟩)) ∧ w' = w.alloc (.cells #[.string s, .int .i64 0] 63) := by
  go_enter Try.func18, Try.ntmps18
  go_wp2_with fail
  go_ret
  exact ⟨rfl, rfl⟩

theorem rleft_any (b : Nat) (s : ByteArray) (j : Nat) (w : World) (h : RdrOf 63 b s j w) (hs : s.size < 1099511627776) (hj : j ≤ 8 * s.size + 1) :
    Calls Try.prog 26 #[.pointer (some ⟨b, 0, none⟩)] w fun e w' => e = .returned (.int .i64 (8 * (s.size : Int) - (j : Int))) ∧ Still w w' := by
  obtain ⟨c0, c1, -⟩ := h.cells
  have e2 : IntKind.i64.wrap (8 * (s.size : Int)) = 8 * (s.size : Int) := IntWalk.i64_in _ (by omega)
  have e3 : IntKind.i64.wrap (8 * (s.size : Int) - (j : Int)) = 8 * (s.size : Int) - (j : Int) := IntWalk.i64_in _ (by omega)
  clear hj
  go_enter Try.func26, Try.ntmps26
  go_wp2_with fail
  go_quiet (fail)
  go_wp2_with fail
  go_ret
  exact ⟨rfl, rfl, rfl, rfl, rfl⟩

/-- a bit, as a number -/
def bitN (s : ByteArray) (p : Nat) : Nat := numB (((sbits s).drop p).take 1)
theorem ret_u64 {a b : Int} (h : a = b) : Ending.returned (.int .u64 a) = .returned (.int .u64 b) := by rw [h]
theorem bitN_le (s : ByteArray) (p : Nat) : bitN s p ≤ 1 := by have := take_num_lt (sbits s) p 1; unfold bitN; omega
theorem bitN_of {s : ByteArray} {p : Nat} (h : p < 8 * s.size) : ∃ hp : p < (sbits s).length, bitN s p = (sbits s)[p].toNat := by
  have hp : p < (sbits s).length := by rw [sbits_size]; exact h
  refine ⟨hp, ?_⟩
  unfold bitN
  rw [List.drop_eq_getElem_cons hp, List.take_succ_cons, List.take_zero, numB_cons]
  simp [numB]

set_option maxRecDepth 100000 in
theorem bit_any (b : Nat) (s : ByteArray) (p : Nat) (w : World) (h0 : w.cell? ⟨b, 0, none⟩ = some (.string s)) (hs : s.size ≤ 1000000) (hp : p < 8 * s.size) :
    Calls Try.prog 39 #[.pointer (some ⟨b, 0, none⟩), .int .i64 p] w fun e w' => e = .returned (.int .u64 (bitN s p)) ∧ w = w' := by
  obtain ⟨i, hi⟩ : ∃ i, i = p / 8 := ⟨_, rfl⟩
  obtain ⟨o, ho⟩ : ∃ o, o = p % 8 := ⟨_, rfl⟩
  obtain ⟨r, hr⟩ : ∃ r, r = 7 - o := ⟨_, rfl⟩
  have his : i < s.size := by omega
  have hb : bitN s p = s[i].toNat / 2 ^ r % 2 := by
    unfold bitN
    have := part_at (s := s) (i := i) (o := o) (t := 1) his (by omega)
    rw [show 8 * i + o = p by omega, show 8 - o - 1 = r by omega] at this
    exact this
  rw [hb]
  have hqi : (p : Int) / 8 = (i : Int) := by omega
  have hqo : (p : Int) % 8 = (o : Int) := by omega
  have hri : 7 - (o : Int) = (r : Int) := by omega
  have hsh := shr_nat s[i].toNat r
  obtain ⟨hdv, hcl⟩ := byte_shr s[i] r
  have hps : (p : Int) ≤ 8000000 := by omega
  have ho8 : (o : Int) < 8 := by omega
  have hr8 : (r : Int) < 8 := by omega
  have w4 : IntKind.u64.wrap (r : Int) = (r : Int) := IntWalk.u64_in _ (by omega)
  have hm8 : min r 8 = r := by omega
  have hm64 : min r 64 = r := by omega
  have hy : ((s[i].toNat / 2 ^ r : Nat) : Int) ≤ 255 := by omega
  clear hi ho hr hb hp hs
  have hy2 : ((s[i].toNat / 2 ^ r % 2 : Nat) : Int) = ((s[i].toNat / 2 ^ r : Nat) : Int) % 2 := by omega
  have HY2 := Lib.hid hy2
  clear hy2 hdv hcl
  generalize s[i].toNat / 2 ^ r = y at *
  have w5 : IntKind.u64.wrap (y : Int) = (y : Int) := IntWalk.u64_in _ (by omega)
  go_enter Try.func39, Try.ntmps39
  go_wp2_with fail
  go_ret
  exact ⟨ret_u64 HY2.out.symm, rfl⟩

theorem num_step {s : ByteArray} {j i : Nat} (h : j + i < 8 * s.size) (hi : i < 64) :
    numB (((sbits s).drop j).take (i + 1)) = 2 * numB (((sbits s).drop j).take i) + bitN s (j + i) ∧ 2 * numB (((sbits s).drop j).take i) + bitN s (j + i) < 18446744073709551616 := by
  have h1 := take_add_num ((sbits s).drop j) i 1 (by rw [List.length_drop, sbits_size]; omega)
  rw [List.drop_drop] at h1
  have e : numB (((sbits s).drop j).take (i + 1)) = 2 * numB (((sbits s).drop j).take i) + bitN s (j + i) := by
    rw [h1]; unfold bitN; omega
  refine ⟨e, ?_⟩
  rw [← e]
  exact Nat.lt_of_lt_of_le (take_num_lt _ _ _) (Nat.pow_le_pow_right (n := 2) (by decide) (by omega : i + 1 ≤ 64))

set_option maxRecDepth 100000 in
set_option maxHeartbeats 1000000 in
theorem rget_any (b : Nat) (s : ByteArray) (j : Nat) (k : Int) (w : World) (h : RdrOf 63 b s j w) (hs : s.size ≤ 1000000) (hj : j ≤ 8 * s.size) :
    Calls Try.prog 20 #[.pointer (some ⟨b, 0, none⟩), .int .i64 k] w (Got 63 b s j (getZ ((sbits s).drop j) k) w) := by
  have hc : (decide (k < 0) = true ∧ ¬ (0 ≤ k ∧ k ≤ 64)) ∨ (decide (k < 0) = false ∧ decide (64 < k) = true ∧ ¬ (0 ≤ k ∧ k ≤ 64)) ∨ (decide (k < 0) = false ∧ decide (64 < k) = false ∧ ∃ t : Nat, k = (t : Int) ∧ t ≤ 64) := by
    simp only [decide_eq_true_eq, decide_eq_false_iff_not]
    by_cases h1 : k < 0
    · exact .inl ⟨h1, by omega⟩
    · by_cases h2 : 64 < k
      · exact .inr (.inl ⟨h1, h2, by omega⟩)
      · exact .inr (.inr ⟨h1, h2, k.toNat, by omega, by omega⟩)
  have HH := Lib.hid h
  rcases hc with ⟨h1, h2⟩ | ⟨h1, h2, h3⟩ | ⟨h1, h2, t, rfl, h3⟩
  · have e : getZ ((sbits s).drop j) k = (0, 0, 1) := by unfold getZ; rw [if_neg h2]
    rw [e]
    clear e h2 h
    go_enter Try.func20, Try.ntmps20
    go_wp2_with fail
    go_ret2
    exact ⟨rfl, HH.out, But.refl _ _⟩
  · have e : getZ ((sbits s).drop j) k = (0, 0, 1) := by unfold getZ; rw [if_neg h3]
    rw [e]
    clear e h3 h
    go_enter Try.func20, Try.ntmps20
    go_wp2_with fail
    go_ret2
    exact ⟨rfl, HH.out, But.refl _ _⟩
  · have L := Lib.hid (rleft_any b s j w h (by omega) (by omega))
    have hl : ((sbits s).drop j).length = 8 * s.size - j := by rw [List.length_drop, sbits_size]
    by_cases hc : 8 * s.size - j < t
    · have e : getZ ((sbits s).drop j) (t : Int) = (0, 0, 10) := by unfold getZ getR; rw [if_pos ⟨by omega, by omega⟩, if_pos (by rw [hl]; omega)]
      rw [e]
      have hd : decide (8 * (s.size : Int) - (j : Int) < (t : Int)) = true := decide_eq_true (by omega)
      clear e hl h hj hc hs
      go_enter Try.func20, Try.ntmps20
      go_wp2_with fail
      refine L.out.mono ?_
      rintro e w1 ⟨rfl, hb1⟩
      go_wp2_with fail
      go_ret2
      exact ⟨rfl, hb1.rdr HH.out, hb1.but b⟩
    · have e : getZ ((sbits s).drop j) (t : Int) = (numB (((sbits s).drop j).take t), t, 0) := by unfold getZ getR; rw [if_pos ⟨by omega, by omega⟩, if_neg (by rw [hl]; omega)]; rfl
      rw [e]
      have hd : decide (8 * (s.size : Int) - (j : Int) < (t : Int)) = false := decide_eq_false (by omega)
      have hjs : (j : Int) ≤ 8000000 := by omega
      have ht64 : (t : Int) ≤ 64 := by omega
      have Hjt := Lib.hid (show j + t ≤ 8 * s.size by omega)
      have Hs := Lib.hid hs
      clear e hl h hj hc hs
      go_enter Try.func20, Try.ntmps20
      go_wp2_with fail
      refine L.out.mono ?_
      rintro e w1 ⟨rfl, hb1⟩
      have hr1 := hb1.rdr HH.out
      obtain ⟨c0, c1, f1⟩ := RdrOf.cells hr1
      have HR1 := Lib.hid hr1
      have HB1 := Lib.hid hb1
      clear hr1 hb1
      go_wp2_with fail
      go_loop [6, 7] (fun n ix => ∃ i : Nat, ix = .int .i64 i ∧ i ≤ t ∧ n = .int .u64 (numB (((sbits s).drop j).take i) : Nat)) (fun _ ix => t - (intOf ix).toNat)
      case atStart => exact ⟨0, rfl, by omega, rfl⟩
      case round =>
        obtain ⟨i, rfl, hi, rfl⟩ := hrel
        by_cases hlt : i < t
        · obtain ⟨n1, n2⟩ := num_step (s := s) (j := j) (i := i) (by have := Hjt.out; omega) (by omega)
          have B := Lib.hid (fun w h0 => bit_any b s (j + i) w h0 Hs.out (by have := Hjt.out; omega))
          have hji : (j : Int) + (i : Int) = ((j + i : Nat) : Int) := by omega
          have N1 := Lib.hid n1
          generalize bitN s (j + i) = y at *
          generalize numB (((sbits s).drop j).take i) = n at *
          have m1 : IntKind.u64.wrap (2 * (n : Int)) = 2 * (n : Int) := IntWalk.u64_in _ (by omega)
          have m2 : IntKind.u64.wrap (2 * (n : Int) + (y : Int)) = ((2 * n + y : Nat) : Int) := by rw [IntWalk.u64_in _ (by omega)]; omega
          clear n1 n2
          generalize j + i = p at *
          go_wp2_with fail
          refine (B.out _ c0).mono ?_
          rintro e w2 ⟨rfl, rfl⟩
          go_wp2_with fail
          go_round
          case rel => exact ⟨i + 1, by go_num, by omega, by congr 1; rw [N1.out]; omega⟩
          case measure => simp [intOf]; omega
        · obtain rfl : i = t := by omega
          go_wp2_with fail
          go_ret2
          exact ⟨rfl, RdrOf.set2 HR1.out, (HB1.out.but b).trans (but_set _ _ _ _)⟩

theorem bitN_zero {s : ByteArray} {j : Nat} (h : ∀ i, j ≤ i → i < 8 * s.size → bitN s i = 0) : numB ((sbits s).drop j) = 0 := by
  rw [numB_zero]
  intro b hb
  obtain ⟨i, hi, rfl⟩ := List.getElem_of_mem hb
  rw [List.length_drop, sbits_size] at hi
  obtain ⟨hp, e⟩ := bitN_of (s := s) (p := j + i) (by omega)
  have h0 := h (j + i) (by omega) (by omega)
  rw [List.getElem_drop]
  rw [h0] at e
  cases hx : (sbits s)[j + i]
  · rfl
  · rw [hx] at e; simp at e
theorem bitN_one {s : ByteArray} {j i : Nat} (hj : j ≤ i) (hi : i < 8 * s.size) (h : bitN s i = 1) : numB ((sbits s).drop j) ≠ 0 := by
  intro h0
  rw [numB_zero] at h0
  obtain ⟨hp, e⟩ := bitN_of (s := s) (p := i) hi
  have hm : (sbits s)[i] ∈ (sbits s).drop j := by
    rw [List.mem_iff_getElem]
    refine ⟨i - j, by rw [List.length_drop]; omega, ?_⟩
    rw [List.getElem_drop]; congr 1; omega
  rw [h0 _ hm, h] at e
  simp at e

set_option maxRecDepth 100000 in
set_option maxHeartbeats 1000000 in
theorem rend_any (b : Nat) (s : ByteArray) (j : Nat) (w : World) (h : RdrOf 63 b s j w) (hs : s.size ≤ 1000000) (hj : j ≤ 8 * s.size) :
    Calls Try.prog 24 #[.pointer (some ⟨b, 0, none⟩)] w fun e w' => e = .returned (.int .i64 (endE ((sbits s).drop j) : Nat)) ∧ Still w w' := by
  have L := Lib.hid (rleft_any b s j w h (by omega) (by omega))
  have HH := Lib.hid h
  have hl : ((sbits s).drop j).length = 8 * s.size - j := by rw [List.length_drop, sbits_size]
  by_cases hc : 8 ≤ 8 * s.size - j
  · have e : endE ((sbits s).drop j) = 11 := by unfold endE; rw [if_pos (.inl (by omega))]
    rw [e]
    have hd : decide ((8 : Int) ≤ 8 * (s.size : Int) - (j : Int)) = true := decide_eq_true (by omega)
    clear e hl h hj hc hs
    go_enter Try.func24, Try.ntmps24
    go_wp2_with fail
    refine L.out.mono ?_
    rintro e w1 ⟨rfl, hb1⟩
    go_wp2_with fail
    go_ret
    exact ⟨rfl, hb1⟩
  · have hd : decide ((8 : Int) ≤ 8 * (s.size : Int) - (j : Int)) = false := decide_eq_false (by omega)
    have H0 := Lib.hid (fun h0 => show endE ((sbits s).drop j) = 0 by unfold endE; rw [if_neg]; rw [hl]; intro h; rcases h with h | h; exact hc h; exact h h0)
    have H1 := Lib.hid (fun h0 => show endE ((sbits s).drop j) = 11 by unfold endE; rw [if_pos (.inr h0)])
    have e8 : IntKind.i64.wrap (8 * (s.size : Int)) = 8 * (s.size : Int) := IntWalk.i64_in _ (by omega)
    have Hs := Lib.hid hs
    have Hj := Lib.hid hj
    have hsz : (s.size : Int) ≤ 1000000 := by omega
    clear hl h hj hc hs
    go_enter Try.func24, Try.ntmps24
    go_wp2_with fail
    refine L.out.mono ?_
    rintro e w1 ⟨rfl, hb1⟩
    have hr1 := hb1.rdr HH.out
    obtain ⟨c0, c1, f1⟩ := RdrOf.cells hr1
    have HR1 := Lib.hid hr1
    have HB1 := Lib.hid hb1
    clear hr1 hb1
    go_wp2_with fail
    go_loop [3] (fun ix => ∃ i : Nat, ix = .int .i64 i ∧ j ≤ i ∧ i ≤ 8 * s.size ∧ ∀ t, j ≤ t → t < i → bitN s t = 0) (fun ix => 8 * s.size - (intOf ix).toNat)
    case atStart => exact ⟨j, rfl, by omega, Hj.out, by intro t h1 h2; omega⟩
    case round =>
      obtain ⟨i, rfl, hi, hi2, hall⟩ := hrel
      have Hall := Lib.hid hall
      clear hall
      have hii : (i : Int) ≤ 8000000 := by omega
      by_cases hlt : i < 8 * s.size
      · have hd4 : decide ((i : Int) < 8 * (s.size : Int)) = true := decide_eq_true (by omega)
        have B := Lib.hid (fun w h0 => bit_any b s i w h0 Hs.out hlt)
        have hy := bitN_le s i
        have Hone := Lib.hid (fun h1 => bitN_one (s := s) hi hlt h1)
        obtain ⟨y, hyd⟩ : ∃ y, y = bitN s i := ⟨_, rfl⟩
        rw [← hyd] at B hy
        have Hy := Lib.hid hyd
        clear hyd
        have hcs : ((y : Int) == 1) = true ∧ y = 1 ∨ ((y : Int) == 1) = false ∧ y = 0 := by
          by_cases h1 : y = 1
          · exact .inl ⟨by rw [h1]; rfl, h1⟩
          · exact .inr ⟨beq_eq_false_iff_ne.2 (by omega), by omega⟩
        rcases hcs with ⟨q1, q2⟩ | ⟨q1, q2⟩
        · have Q2 := Lib.hid q2
          clear q2 hy
          go_wp2_with fail
          refine (B.out _ c0).mono ?_
          rintro e w2 ⟨rfl, rfl⟩
          go_wp2_with fail
          go_ret
          refine ⟨?_, HB1.out⟩
          rw [H1.out (Hone.out (by rw [← Hy.out]; exact Q2.out))]
          rfl
        · have Q2 := Lib.hid q2
          clear q2 hy
          go_wp2_with fail
          refine (B.out _ c0).mono ?_
          rintro e w2 ⟨rfl, rfl⟩
          go_wp2_with fail
          go_round
          case rel => exact ⟨i + 1, by go_num, by omega, by omega, fun t h1 h2 => by
            by_cases ht : t = i
            · rw [ht, ← Hy.out]; exact Q2.out
            · exact Hall.out t h1 (by omega)⟩
          case measure => simp [intOf]; omega
      · have hd4 : decide ((i : Int) < 8 * (s.size : Int)) = false := decide_eq_false (by omega)
        have H00 := Lib.hid (H0.out (bitN_zero fun t h1 h2 => Hall.out t h1 (by omega)))
        go_wp2_with fail
        go_ret
        refine ⟨?_, HB1.out⟩
        rw [H00.out]; rfl
end Go.Proofs.Ytmllnfplahaccaa
