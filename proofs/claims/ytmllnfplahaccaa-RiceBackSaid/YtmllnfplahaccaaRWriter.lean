/-
  The document's Writer: a slice of bits in a block.
-/
import Derived.Test.YtmllnfplahaccaaBitPlain
import Derived.Test.YtmllnfplahaccaaRiceCode
import Derived.Test.YtmllnfplahaccaaKeep
import Derived.Lib.Builder
import Derived.Deep.AppendLies
import Derived.Deep.RegionLaw
import Derived.Deep.DrawnRows
namespace Go.Proofs.Ytmllnfplahaccaa
open Go Go.RowKit
attribute [local go_sem ↓] Go.wp_at_zero Go.wp_at_succ

/-- the document's writer lies at c and has the bits l, in a row of no block that Pr names -/
def RefOf (Pr : Nat → Prop) (c : Nat) (l : List Bool) (w : World) : Prop :=
  Pr c ∧ ∃ v, w.heap[c]? = some (.cells #[v] 68 (0, 0)) ∧ Lie Pr 4 1 v l.length (boolCells l) w

theorem rnew_any (w : World) :
    Calls Try.prog 27 #[] w fun e w' => e = .returned (.pointer (some ⟨w.heap.size, 0, none⟩)) ∧ w' = w.alloc (.cells #[.slice none 0 0] 68) := by
  go_enter Try.func27, Try.ntmps27
  go_wp2_with fail
  go_ret
  exact ⟨rfl, rfl⟩
theorem new_ref {R : Nat → Prop} {c : Nat} {w : World} (hh : w.heap[c]? = some (.cells #[.slice none 0 0] 68 (0, 0))) (hb : R c) : RefOf R c [] w :=
  ⟨hb, _, hh, Lie.nil _ _ _ _⟩

theorem rlen_any (R : Nat → Prop) (c : Nat) (l : List Bool) (w : World) (h : RefOf R c l w) :
    Calls Try.prog 31 #[.pointer (some ⟨c, 0, none⟩)] w fun e w' => e = .returned (.int .i64 l.length) ∧ w = w' := by
  obtain ⟨_, v, hh, ho⟩ := h
  obtain ⟨A, cp, rfl⟩ := ho.form
  have c1 : w.cell? ⟨c, 0, none⟩ = some (.slice A l.length cp) := by rw [Lib.cell_of_heap hh]; rfl
  go_enter Try.func31, Try.ntmps31
  go_wp2_with fail
  go_ret
  exact ⟨rfl, rfl⟩

theorem set_one {w : World} {b : Nat} {v x : Value} {t : TypeId} (hk : w.heap[b]? = some (.cells #[v] t (0, 0))) : (w.setCell ⟨b, 0, none⟩ x).heap[b]? = some (.cells #[x] t (0, 0)) := by
  simp [World.setCell, Array.getElem?_modify, hk]

set_option maxRecDepth 100000 in
set_option maxHeartbeats 1000000 in
theorem rput_ok (R : Nat → Prop) (c : Nat) (l : List Bool) (n k : Nat) (w : World) (h : RefOf R c l w) (hR : Old R w) (hn : n < 18446744073709551616) (hk : k ≤ 64) (hb : n < 2 ^ k) (hl : l.length < 1099511626000) :
    Calls Try.prog 29 #[.pointer (some ⟨c, 0, none⟩), .int .u64 n, .int .i64 k] w fun e w' => e = .returned (.int .i64 0) ∧ RefOf R c (l ++ lowL n k) w' ∧ Beside R c w w' := by
  obtain ⟨hc, v, hh, ho⟩ := h
  obtain ⟨A, cp, rfl⟩ := ho.form
  have c0 : w.cell? ⟨c, 0, none⟩ = some (.slice A l.length cp) := by rw [Lib.cell_of_heap hh]; rfl
  have hd1 : decide ((k : Int) < 0) = false := decide_eq_false (by omega)
  have hd2 : decide ((64 : Int) < (k : Int)) = false := decide_eq_false (by omega)
  have hclt : c < w.heap.size := (Array.getElem?_eq_some_iff.1 hh).1
  have hz : n / 2 ^ k = 0 := Nat.div_eq_of_lt hb
  have hsh := shr_nat n k
  rw [hz] at hsh
  have hki : (k : Int) ≤ 64 := by omega
  have hw1 : IntKind.u64.wrap (k : Int) = (k : Int) := IntWalk.u64_in _ (by omega)
  have hmn : min k 64 = k := by omega
  have HR := Lib.hid hR
  have HO := Lib.hid ho
  have HH := Lib.hid hh
  have L1 := Lib.hid (fun w => low_any n k w hn hk)
  clear hz hR ho hh hn hb
  have hcs : decide ((k : Int) < 64) = true ∨ decide ((k : Int) < 64) = false := by cases decide ((k : Int) < 64) <;> simp
  rcases hcs with hd3 | hd3
  all_goals
    go_enter Try.func29, Try.ntmps29
    go_wp2_with fail
    go_region_law (first
      | (refine step_append_rd_row rfl _ _ 49 (by rfl) 4 (.bool false) 1 1 Try.underlying49 boolInf rfl (by decide) R l.length (boolCells l) _ _ (HO.out.below hb2) (by rfl) (HR.out.mono hb2.size) O (lowL n k).length co (boolCells (lowL n k)) (by rfl) hrd2 (bool_one _) (by rw [lowL_length]; unfold maxLen; omega) (by rw [lowL_length]; omega) ?_; intro v' w3 hown3 hst3 hgr3 hat3; obtain ⟨A3, c3, rfl⟩ := hown3.form; have hbk3 := (hst3.block c hc).trans ((hb2.block c hclt).trans HH.out); have d3 := (Lib.cell_of_heap hbk3 0).trans (show _ = some (Value.slice A l.length cp) from rfl); have f3 := Lib.frozen_of_heap hbk3 0; clear hgr3 hat3; have HBK := Lib.hid hbk3; clear hbk3)
      | (go_simp; go_at_call 42; refine (L1.out _).mono ?_; rintro e w2 ⟨O, co, rfl, hown2, hb2'⟩; have hb2 := hb2'.drewl; obtain ⟨_, _, hv2, hrd2⟩ := Rd.of_own hown2; obtain ⟨rfl, rfl⟩ := (by simpa using hv2); have d0 := keepc hb2 c0))
    all_goals
      go_wp2_with fail
      go_ret
      refine ⟨rfl, ⟨hc, _, set_one HBK.out, ?_⟩, ?_⟩
      · rw [List.length_append, boolCells_append]; exact own_set hown3 hc _ _
      · exact ((Stays.of hb2 HR.out).trans hst3).beside.trans (beside_set _ _ _ _ _)
/-- a number and how many bits: what Put takes -/
def Fit (n : Nat) (k : Int) : Prop := 0 ≤ k ∧ k ≤ 64 ∧ n < 2 ^ k.toNat

set_option maxRecDepth 100000 in
theorem rput_no (c n : Nat) (k : Int) (w : World) (hn : n < 18446744073709551616) (hk : ¬ Fit n k) :
    Calls Try.prog 29 #[.pointer (some ⟨c, 0, none⟩), .int .u64 n, .int .i64 k] w fun e w' => e = .returned (.int .i64 1) ∧ w = w' := by
  have hc : decide (k < 0) = true ∨ (decide (k < 0) = false ∧ decide (64 < k) = true) ∨ (decide (k < 0) = false ∧ decide (64 < k) = false ∧ ∃ t : Nat, k = (t : Int) ∧ t < 64 ∧ ¬ n < 2 ^ t) := by
    simp only [decide_eq_true_eq, decide_eq_false_iff_not]
    unfold Fit at hk
    by_cases h1 : k < 0
    · exact .inl h1
    · by_cases h2 : 64 < k
      · exact .inr (.inl ⟨h1, h2⟩)
      · exact .inr (.inr ⟨h1, h2, k.toNat, by omega, by
          have h64 : k ≠ 64 := fun e => hk ⟨by omega, by omega, by rw [e]; exact hn⟩
          omega, fun h => hk ⟨by omega, by omega, h⟩⟩)
  clear hk
  rcases hc with h1 | ⟨h1, h2⟩ | ⟨h1, h2, t, rfl, h3, h4⟩
  · go_enter Try.func29, Try.ntmps29
    go_wp2_with fail
    go_ret
    exact ⟨rfl, rfl⟩
  · go_enter Try.func29, Try.ntmps29
    go_wp2_with fail
    go_ret
    exact ⟨rfl, rfl⟩
  · have h3i : (t : Int) ≤ 64 := by omega
    have hw1 : IntKind.u64.wrap (t : Int) = (t : Int) := IntWalk.u64_in _ (by omega)
    have hmn : min t 64 = t := by omega
    have hsh := shr_nat n t
    have hq : 0 < n / 2 ^ t := Nat.div_pos (by omega) (Nat.two_pow_pos t)
    generalize n / 2 ^ t = q at *
    have hd5 : decide ((0 : Int) < (q : Int)) = true := decide_eq_true (by omega)
    have hd4 : decide ((t : Int) < 64) = true := decide_eq_true (by omega)
    clear h4 hn
    go_enter Try.func29, Try.ntmps29
    go_wp2_with fail
    go_ret
    exact ⟨rfl, rfl⟩

set_option maxRecDepth 100000 in
set_option maxHeartbeats 1000000 in
theorem rrice_ok (R : Nat → Prop) (c : Nat) (l : List Bool) (n k : Nat) (w : World) (h : RefOf R c l w) (hR : Old R w) (hn : n < 18446744073709551616) (hk : k ≤ 40) (hl : l.length < 1099511626000) :
    Calls Try.prog 30 #[.pointer (some ⟨c, 0, none⟩), .int .u64 n, .int .i64 k] w fun e w' => e = .returned (.int .i64 0) ∧ RefOf R c (l ++ codeL n k) w' ∧ Beside R c w w' := by
  obtain ⟨hc, v, hh, ho⟩ := h
  obtain ⟨A, cp, rfl⟩ := ho.form
  have c0 : w.cell? ⟨c, 0, none⟩ = some (.slice A l.length cp) := by rw [Lib.cell_of_heap hh]; rfl
  have hd1 : decide ((k : Int) < 0) = false := decide_eq_false (by omega)
  have hd2 : decide ((40 : Int) < (k : Int)) = false := decide_eq_false (by omega)
  have hclt : c < w.heap.size := (Array.getElem?_eq_some_iff.1 hh).1
  have HR := Lib.hid hR
  have HO := Lib.hid ho
  have HH := Lib.hid hh
  have hcl : (codeL n k).length ≤ 88 := by rw [codeL_length]; exact costOne_le hk
  have L1 := Lib.hid (fun w => code_any n k w hn hk)
  clear hR ho hh hn
  generalize codeL n k = cd at *
  go_enter Try.func30, Try.ntmps30
  go_wp2_with fail
  go_region_law (first
      | (refine step_append_rd_row rfl _ _ 49 (by rfl) 4 (.bool false) 1 1 Try.underlying49 boolInf rfl (by decide) R l.length (boolCells l) _ _ (HO.out.below hb2) (by rfl) (HR.out.mono hb2.size) O cd.length co (boolCells cd) (by rfl) hrd2 (bool_one _) (by unfold maxLen; omega) (by omega) ?_; intro v' w3 hown3 hst3 hgr3 hat3; obtain ⟨A3, c3, rfl⟩ := hown3.form; have hbk3 := (hst3.block c hc).trans ((hb2.block c hclt).trans HH.out); have d3 := (Lib.cell_of_heap hbk3 0).trans (show _ = some (Value.slice A l.length cp) from rfl); have f3 := Lib.frozen_of_heap hbk3 0; clear hgr3 hat3; have HBK := Lib.hid hbk3; clear hbk3)
      | (go_simp; go_at_call 34; refine (L1.out _).mono ?_; rintro e w2 ⟨O, co, rfl, hown2, hb2'⟩; have hb2 := hb2'.drewl; obtain ⟨_, _, hv2, hrd2⟩ := Rd.of_own hown2; obtain ⟨rfl, rfl⟩ := (by simpa using hv2); have d0 := keepc hb2 c0))
  all_goals
    go_wp2_with fail
    go_ret
    refine ⟨rfl, ⟨hc, _, set_one HBK.out, ?_⟩, ?_⟩
    · rw [List.length_append, boolCells_append]; exact own_set hown3 hc _ _
    · exact ((Stays.of hb2 HR.out).trans hst3).beside.trans (beside_set _ _ _ _ _)

set_option maxRecDepth 100000 in
theorem rrice_no (c n : Nat) (k : Int) (w : World) (hk : k < 0 ∨ 40 < k) :
    Calls Try.prog 30 #[.pointer (some ⟨c, 0, none⟩), .int .u64 n, .int .i64 k] w fun e w' => e = .returned (.int .i64 1) ∧ w = w' := by
  have hc : decide (k < 0) = true ∨ (decide (k < 0) = false ∧ decide (40 < k) = true) := by
    simp only [decide_eq_true_eq, decide_eq_false_iff_not]; omega
  clear hk
  rcases hc with h1 | ⟨h1, h2⟩
  all_goals
    go_enter Try.func30, Try.ntmps30
    go_wp2_with fail
    go_ret
    exact ⟨rfl, rfl⟩
end Go.Proofs.Ytmllnfplahaccaa
