/-
  The walk of the document's GetUint.
-/
import Derived.Test.YtfhgjangeicbjaaDoorZigGet
import Derived.Test.YtfhgjangeicbjaaDoorZigWrite
import Derived.Test.YtfhgjangeicbjaaDoorZigRefPlain
namespace Go.Proofs.YtfhgjangeicbjaaDoor
open Go Go.RowKit

theorem drop_get {s : ByteArray} {k j : Nat} (h : k + j < s.size) : (s.data.toList.drop k)[j]? = some s[k + j] := by
  have hl : k + j < s.data.toList.length := by rw [← Lib.size_eq]; exact h
  rw [List.getElem?_drop, List.getElem?_eq_getElem hl]; rfl
theorem drop_get_lt {s : ByteArray} {k j : Nat} {x : UInt8} (h : (s.data.toList.drop k)[j]? = some x) : k + j < s.size := by
  rw [List.getElem?_drop] at h
  have := (List.getElem?_eq_some_iff.1 h).1
  rwa [← Lib.size_eq] at this

set_option maxRecDepth 100000 in
set_option maxHeartbeats 2000000 in
theorem rgetUint_in (s : ByteArray) (k : Nat) (w : World) (hs : s.size < 1099511627776) (hk : k ≤ s.size) :
    Calls Tryd.prog 31 #[.string s, .int .i64 k] w fun e w' => e = .returned (.tuple #[.int .u64 (getAt s.data.toList k).1, .int .i64 (getAt s.data.toList k).2.1, .int .i64 (getAt s.data.toList k).2.2]) ∧ Below w.heap.size w w' := by
  have hl : k ≤ s.data.toList.length := by rw [← Lib.size_eq]; exact hk
  have Hl := Lib.hid hl
  clear hl
  have hd1 : decide (s.size < k) = false := by simp; omega
  have hd2 : decide ((k : Int) < 0) = false := by simp
  go_enter Tryd.func31, Tryd.ntmps31
  go_wp2
  go_loop [7] (fun i => ∃ j : Nat, i = .int .i64 j ∧ j ≤ 10 ∧ k + j ≤ s.size ∧ ∀ t x, t < j → (s.data.toList.drop k)[t]? = some x → 128 ≤ x.toNat) (fun i => 10 - (intOf i).toNat)
  case atStart => exact ⟨0, rfl, by omega, by omega, by intro t x h; omega⟩
  case round =>
    obtain ⟨j, rfl, hj, hkj, hall⟩ := hrel
    have Hall := Lib.hid hall
    clear hall
    by_cases h10 : j < 10
    · by_cases hend : k + j < s.size
      · have hcl := (s[k + j]).toNat_lt
        by_cases hc : 128 ≤ s[k + j].toNat
        · go_wp2_with fail
          go_round
          case rel => exact ⟨j + 1, by go_num, by omega, by omega, fun t x ht hx => by
            by_cases e : t = j
            · subst e; rw [drop_get hend] at hx; cases hx; exact hc
            · exact Hall.out t x (by omega) hx⟩
          case measure => simp [intOf]; omega
        · have hq1 : ((j : Int) == 10) = false := beq_eq_false_iff_ne.2 (by omega)
          have hq2 : ((k : Int) + (j : Int) == (s.size : Int)) = false := beq_eq_false_iff_ne.2 (by omega)
          have hq3 : decide ((127 : Int) < (s[k + j].toNat : Int)) = false := by simp; omega
          have hq4 : decide ((j : Int) < 10) = true := by simp; omega
          have hq5 : decide ((k : Int) + (j : Int) < (s.size : Int)) = true := by simp; omega
          go_wp2_with fail
          go_loopw [8, 9] (fun v i wr => ∃ (m : Nat) (t : Int), v = .int .u64 m ∧ i = .int .i64 t ∧ -1 ≤ t ∧ t ≤ j ∧ m < 18446744073709551616 ∧ m = val (((s.data.toList.drop k).take (j + 1)).drop (t + 1).toNat) ∧ w = wr) (fun _ i _ => (intOf i + 1).toNat)
          case atStart => exact ⟨0, j, rfl, rfl, by omega, by omega, by omega, by rw [List.drop_eq_nil_of_le (by simp; omega)]; rfl, rfl⟩
          case round =>
            obtain ⟨m, t, rfl, rfl, ht0, ht1, hm, hv, rfl⟩ := hrel
            have Hv := Lib.hid hv
            clear hv
            have hcj : (s.data.toList.drop k)[j]? = some s[k + j] := drop_get hend
            have Hcj := Lib.hid hcj
            clear hcj
            by_cases ht : 0 ≤ t
            · obtain ⟨i, rfl⟩ := Int.eq_ofNat_of_zero_le ht
              have hki : k + i < s.size := by omega
              by_cases hbig : 144115188075855871 < m
              · have Hr := Lib.hid (getAt_of_err (get0_much (i := i) Hcj.out (by omega) Hall.out (by have := Hv.out; rw [show ((i : Int) + 1).toNat = i + 1 by omega] at this; omega)) (by decide) Hl.out)
                go_wp2_with fail
                go_ret3
                exact ⟨by rw [Hr.out]; rfl, Below.refl _ _⟩
              · have hci := (s[k + i]).toNat_lt
                have hstep : val (((s.data.toList.drop k).take (j + 1)).drop i) = s[k + i].toNat % 128 + 128 * m := by
                  have hg : ((s.data.toList.drop k).take (j + 1))[i]? = some s[k + i] := by rw [List.getElem?_take, if_pos (by omega), drop_get hki]
                  obtain ⟨hlt, hg'⟩ := List.getElem?_eq_some_iff.1 hg
                  rw [List.drop_eq_getElem_cons hlt, hg', Hv.out]; rfl
                have Hstep := Lib.hid hstep
                clear hstep
                go_wp2_with fail
                go_roundw
                case rel => exact ⟨s[k + i].toNat % 128 + 128 * m, (i : Int) - 1, by congr 1; omega, rfl, by omega, by omega, by omega, by rw [show ((i : Int) - 1 + 1).toNat = i by omega, Hstep.out], trivial⟩
                case measure => simp [intOf]
            · obtain rfl : t = -1 := by omega
              have hv0 : m = val ((s.data.toList.drop k).take (j + 1)) := Hv.out
              have hex : (s.extract k (k + j + 1)).data.toList = (s.data.toList.drop k).take (j + 1) := by rw [Lib.extract_data]; congr 1; omega
              by_cases he : uint m = (s.data.toList.drop k).take (j + 1)
              · have Hr := Lib.hid (getAt_of (get0_eq hm (by rw [List.length_drop, ← Lib.size_eq]; omega) he) Hl.out)
                have hcmp : ((S (uint m)).toList == (s.extract k (k + j + 1)).toList) = true := by rw [Lib.toList_data, Lib.toList_data, S_toList, hex, he]; simp
                clear hv0 hex he
                go_wp2_with fail
                have g1 : IntKind.i64.wrap ((k : Int) + (j : Int)) = (k : Int) + (j : Int) := IntWalk.i64_in _ (by omega)
                have g2 : IntKind.i64.wrap ((k : Int) + (j : Int) + 1) = (k : Int) + (j : Int) + 1 := IntWalk.i64_in _ (by omega)
                have g3 : ∀ W, (Instr.slice 9 (.string s) (some (.int .i64 (k : Int))) (some (.int .i64 ((k : Int) + (j : Int) + 1))) none).run Tryd.prog W = .ok (.string (s.extract k (k + j + 1))) W := fun W => by
                  have := run_slice_string (P := Tryd.prog) W 9 s .i64 .i64 (k : Int) ((k : Int) + (j : Int) + 1) Tryd.underlying9 (by omega) (by omega) (by omega)
                  rwa [show ((k : Int) + (j : Int) + 1).toNat = k + j + 1 by omega, show ((k : Int)).toNat = k by omega] at this
                go_region_with (go_at_call 23; refine (ruint_any m _ hm).mono ?_; rintro e w1 ⟨rfl, hb1⟩)
                clear g1 g2 g3
                go_wp2_with fail
                go_ret3
                exact ⟨by rw [Hr.out]; exact ret_three rfl (by simp; omega) rfl, hb1.drewl⟩
              · have Hr := Lib.hid (getAt_of_err (get0_ne Hcj.out (by omega) Hall.out (by rw [← hv0]; exact he)) (by decide) Hl.out)
                have hcmp : ((S (uint m)).toList == (s.extract k (k + j + 1)).toList) = false := by rw [Lib.toList_data, Lib.toList_data, S_toList, hex]; exact beq_eq_false_iff_ne.2 he
                clear hv0 hex he
                go_wp2_with fail
                have g1 : IntKind.i64.wrap ((k : Int) + (j : Int)) = (k : Int) + (j : Int) := IntWalk.i64_in _ (by omega)
                have g2 : IntKind.i64.wrap ((k : Int) + (j : Int) + 1) = (k : Int) + (j : Int) + 1 := IntWalk.i64_in _ (by omega)
                have g3 : ∀ W, (Instr.slice 9 (.string s) (some (.int .i64 (k : Int))) (some (.int .i64 ((k : Int) + (j : Int) + 1))) none).run Tryd.prog W = .ok (.string (s.extract k (k + j + 1))) W := fun W => by
                  have := run_slice_string (P := Tryd.prog) W 9 s .i64 .i64 (k : Int) ((k : Int) + (j : Int) + 1) Tryd.underlying9 (by omega) (by omega) (by omega)
                  rwa [show ((k : Int) + (j : Int) + 1).toNat = k + j + 1 by omega, show ((k : Int)).toNat = k by omega] at this
                go_region_with (go_at_call 23; refine (ruint_any m _ hm).mono ?_; rintro e w1 ⟨rfl, hb1⟩)
                clear g1 g2 g3
                go_wp2_with fail
                go_ret3
                exact ⟨by rw [Hr.out]; rfl, hb1.drewl⟩
      · have Hr := Lib.hid (getAt_of_err (get0_none (l := s.data.toList.drop k) (by rw [List.length_drop, ← Lib.size_eq]; omega) fun i x hx => Hall.out i x (by have := drop_get_lt hx; omega) hx) (by decide) Hl.out)
        go_wp2_with fail
        go_ret3
        exact ⟨by rw [Hr.out]; rfl, Below.refl _ _⟩
    · have Hr := Lib.hid (getAt_of_err (get0_far (l := s.data.toList.drop k) (by rw [List.length_drop, ← Lib.size_eq]; omega) fun i x hi hx => Hall.out i x (by omega) hx) (by decide) Hl.out)
      go_wp2_with fail
      go_ret3
      exact ⟨by rw [Hr.out]; rfl, Below.refl _ _⟩
end Go.Proofs.YtfhgjangeicbjaaDoor
