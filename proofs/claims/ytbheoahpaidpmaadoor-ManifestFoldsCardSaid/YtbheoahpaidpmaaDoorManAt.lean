/-
  manifest.at: the place of a day, by slices.BinarySearchFunc.
-/
import Derived.Test.YtbheoahpaidpmaaDoorManLib
namespace Go.Proofs.YtbheoahpaidpmaaDoor
open Go Go.RowKit

set_option linter.unusedSimpArgs false in
theorem compare_any (x y : Int) (w : World) : Calls Tryd.prog 54 #[.int .i64 x, .int .i64 y] w fun e w' => e = .returned (.int .i64 (if x < y then -1 else if y < x then 1 else 0)) ∧ w = w' := by
  have e1 : ((x : Int) != x) = false := by simp
  have e2 : ((y : Int) != y) = false := by simp
  by_cases h : x < y
  · rw [if_pos h]
    have k1 : decide (x < y) = true := decide_eq_true h
    clear h
    go_enter Tryd.func54, Tryd.ntmps54
    go_wp2
    go_ret
    exact ⟨rfl, rfl⟩
  · rw [if_neg h]
    have k1 : decide (x < y) = false := decide_eq_false h
    clear h
    by_cases h : y < x
    · rw [if_pos h]
      have k2 : decide (y < x) = true := decide_eq_true h
      clear h
      go_enter Tryd.func54, Tryd.ntmps54
      go_wp2
      go_ret
      exact ⟨rfl, rfl⟩
    · rw [if_neg h]
      have k2 : decide (y < x) = false := decide_eq_false h
      clear h
      go_enter Tryd.func54, Tryd.ntmps54
      go_wp2
      go_ret
      exact ⟨rfl, rfl⟩
def cmpI (x y : Int) : Int := if x < y then -1 else if y < x then 1 else 0
theorem cmpI_lt (x y : Int) : cmpI x y < 0 ↔ x < y := by unfold cmpI; (repeat' split) <;> omega
theorem cmpI_eq (x y : Int) : cmpI x y = 0 ↔ x = y := by unfold cmpI; (repeat' split) <;> omega

set_option linter.unusedSimpArgs false in
set_option maxRecDepth 100000 in
theorem cmpday_any (d : Int) (r : PartV) (w : World) : Calls Tryd.prog 53 #[partVal r, .int .i64 d] w fun e w' => e = .returned (.int .i64 (cmpI r.Day d)) ∧ Below w.heap.size w w' := by
  unfold partVal
  obtain ⟨T, I, V⟩ := r
  simp only
  have HC := Lib.hid (fun w => compare_any T d w)
  have HC2 := Lib.hid (show (if T < d then (-1 : Int) else if d < T then 1 else 0) = cmpI T d from rfl)
  go_enter Tryd.func53, Tryd.ntmps53
  go_wp2_with fail
  refine (HC.out _).mono ?_
  rintro e w1 ⟨rfl, rfl⟩
  rw [HC2.out]
  obtain ⟨k, hk⟩ : ∃ k, cmpI T d = k := ⟨_, rfl⟩
  have Hk := Lib.hid hk
  rw [hk]
  clear hk
  go_wp2_with fail
  go_ret
  exact ⟨by rw [Hk.out]; rfl, (Below.refl _ w).alloc (Nat.le_refl _) _⟩
def thereB (d : Int) (l : List PartV) : Bool := if h : cntP d l < l.length then l[cntP d l].Day == d else false

set_option linter.unusedSimpArgs false in
set_option maxRecDepth 100000 in
set_option maxHeartbeats 1000000 in
theorem at_any (d : Int) (A : Option Addr) (c n : Nat) (xs : List PartV) (w : World) (hr : Rd w 3 A n (xs.flatMap partCells)) (hn : xs.length = n) (hl : n ≤ 1000000) (ha : asc xs) :
    Calls Tryd.prog 31 #[.slice A n c, .int .i64 d] w fun e w' => e = .returned (.tuple #[.int .i64 (cntP d xs), .bool (thereB d xs)]) ∧ Below w.heap.size w w' := by
  have HR := Lib.hid hr
  have HN := Lib.hid hn
  have HA := Lib.hid (fun i (h : i < xs.length) => cntP_at (d := d) ha i h)
  have hcn : cntP d xs ≤ n := by rw [← hn]; exact cntP_le d xs
  obtain ⟨m, hm⟩ : ∃ m, cntP d xs = m := ⟨_, rfl⟩
  rw [hm] at HA hcn ⊢
  have Hm := Lib.hid hm
  clear hr hn ha hm
  go_enter Tryd.func31, Tryd.ntmps31
  go_wp2_with (go_in)
  go_loopw [9, 10] (fun iv jv wr => ∃ i j : Nat, iv = .int .i64 i ∧ jv = .int .i64 j ∧ i ≤ m ∧ m ≤ j ∧ j ≤ n ∧ Below w.heap.size w wr) (fun iv jv _ => (intOf jv).toNat - (intOf iv).toNat)
  case atStart => exact ⟨0, n, rfl, rfl, by omega, hcn, by omega, Below.refl _ _⟩
  case round =>
    obtain ⟨i, j, rfl, rfl, hi, hmj, hj, hbel⟩ := hrel
    have Hbel := Lib.hid hbel
    clear hbel
    by_cases hlt : i < j
    · have hk1 : (i : Int) < j := by omega
      have m1 : IntKind.i64.wrap ((i : Int) + (j : Int)) = (i : Int) + (j : Int) := by rw [IntKind.wrap_i64]; omega
      have m2 : IntKind.u64.wrap ((i : Int) + (j : Int)) = (i : Int) + (j : Int) := by rw [IntKind.wrap_u64]; omega
      obtain ⟨h, hh⟩ : ∃ h, (i + j) / 2 = h := ⟨_, rfl⟩
      have m3 : ((i : Int) + (j : Int)) / 2 = (h : Int) := by omega
      have hih : i ≤ h := by omega
      have hhj : h < j := by omega
      have hhn : (h : Int) < n := by omega
      have hlt' : h < xs.length := by have := HN.out; omega
      obtain ⟨gb, off, rfl, hgb, s0, s1, s2⟩ := part_at (HR.out.below Hbel.out) hlt'
      have HC := Lib.hid (cmpday_any d xs[h] wr)
      have hiff := HA.out h hlt'
      obtain ⟨r, hr⟩ : ∃ r, xs[h] = r := ⟨_, rfl⟩
      rw [hr] at s0 s1 s2 HC hiff
      clear hr hlt' hh
      obtain ⟨T, I, V⟩ := r
      unfold partVal at HC
      simp only at s0 s1 s2 HC hiff
      have hm3 : IntKind.i64.wrap ((h : Int) + 1) = (h : Int) + 1 := by rw [IntKind.wrap_i64]; omega
      obtain ⟨k, hk⟩ : ∃ k, cmpI T d = k := ⟨_, rfl⟩
      have hk0 := cmpI_lt T d
      rw [hk] at HC hk0
      by_cases hlt2 : T < d
      · have k1 : decide (k < 0) = true := decide_eq_true (hk0.2 hlt2)
        have hhm : h < m := hiff.1 hlt2
        clear hk hk0 hlt2 hiff
        go_wp2_with fail
        refine HC.out.mono ?_
        rintro e w1 ⟨rfl, hb1⟩
        have Hb1 := Lib.hid (Hbel.out.trans (hb1.mono Hbel.out.size))
        clear hb1
        go_wp2_with fail
        go_roundw
        case rel => exact ⟨h + 1, j, by go_num, rfl, by omega, by omega, by omega, Hb1.out⟩
        case measure => simp [intOf]; omega
      · have k1 : decide (k < 0) = false := decide_eq_false (mt hk0.1 hlt2)
        have hhm : m ≤ h := Nat.not_lt.1 (mt hiff.2 hlt2)
        clear hk hk0 hlt2 hiff
        go_wp2_with fail
        refine HC.out.mono ?_
        rintro e w1 ⟨rfl, hb1⟩
        have Hb1 := Lib.hid (Hbel.out.trans (hb1.mono Hbel.out.size))
        clear hb1
        go_wp2_with fail
        go_roundw
        case rel => exact ⟨i, h, rfl, rfl, by omega, by omega, by omega, Hb1.out⟩
        case measure => simp [intOf]; omega
    · obtain rfl : i = m := by omega
      obtain rfl : j = i := by omega
      by_cases hin : j < n
      · have hlt' : j < xs.length := by have := HN.out; omega
        have Hth := Lib.hid (show thereB d xs = (xs[j].Day == d) by unfold thereB; rw [dif_pos (by rw [Hm.out]; exact hlt')]; simp only [Hm.out])
        obtain ⟨gb, off, rfl, hgb, s0, s1, s2⟩ := part_at (HR.out.below Hbel.out) hlt'
        have HC := Lib.hid (cmpday_any d xs[j] wr)
        obtain ⟨r, hr⟩ : ∃ r, xs[j] = r := ⟨_, rfl⟩
        rw [hr] at s0 s1 s2 HC Hth
        clear hr hlt'
        obtain ⟨T, I, V⟩ := r
        unfold partVal at HC
        simp only at s0 s1 s2 HC Hth
        have hhn : (j : Int) < n := by omega
        obtain ⟨k, hk⟩ : ∃ k, cmpI T d = k := ⟨_, rfl⟩
        have hk0 := cmpI_eq T d
        rw [hk] at HC hk0
        have hq : (k == 0) = (T == d) := by
          by_cases h : T = d
          · rw [beq_iff_eq.2 h, beq_iff_eq.2 (hk0.2 h)]
          · rw [beq_eq_false_iff_ne.2 h, beq_eq_false_iff_ne.2 (mt hk0.1 h)]
        obtain ⟨q, hqe⟩ : ∃ q, (T == d) = q := ⟨_, rfl⟩
        rw [hqe] at hq Hth
        clear hk hk0 hqe
        go_wp2_with fail
        refine HC.out.mono ?_
        rintro e w1 ⟨rfl, hb1⟩
        have Hb1 := Lib.hid (Hbel.out.trans (hb1.mono Hbel.out.size))
        clear hb1
        go_wp2_with fail
        go_ret2
        exact ⟨by rw [Hth.out]; rfl, Hb1.out⟩
      · have Hth := Lib.hid (show thereB d xs = false by unfold thereB; rw [dif_neg (by rw [Hm.out, HN.out]; exact hin)])
        have hnn : ¬ (j : Int) < n := by omega
        have k1 : decide ((j : Int) < (n : Int)) = false := decide_eq_false hnn
        go_wp2_with fail
        go_ret2
        exact ⟨by rw [Hth.out]; rfl, Hbel.out⟩
end Go.Proofs.YtbheoahpaidpmaaDoor
