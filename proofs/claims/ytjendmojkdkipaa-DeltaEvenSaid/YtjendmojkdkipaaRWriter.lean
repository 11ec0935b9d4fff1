/-
  The document's Writer: a slice of bits in a block.
-/
import Derived.Test.YtjendmojkdkipaaBitPlain
import Derived.Test.YtjendmojkdkipaaRiceCode
import Derived.Test.YtjendmojkdkipaaKeep
import Derived.Lib.Builder
import Derived.Deep.AppendLies
import Derived.Deep.RegionLaw
import Derived.Deep.DrawnRows
namespace Go.Proofs.Ytjendmojkdkipaa
open Go Go.RowKit
attribute [local go_sem ↓] Go.wp_at_zero Go.wp_at_succ

/-- the document's writer lies at c and has the bits l, in a row of no block that Pr names -/
def RefOf (Pr : Nat → Prop) (c : Nat) (l : List Bool) (w : World) : Prop :=
  Pr c ∧ ∃ v, w.heap[c]? = some (.cells #[v] 75 (0, 0)) ∧ Lie Pr 4 1 v l.length (boolCells l) w

theorem rnew_any (w : World) :
    Calls Try.prog 26 #[] w fun e w' => e = .returned (.pointer (some ⟨w.heap.size, 0, none⟩)) ∧ w' = w.alloc (.cells #[.slice none 0 0] 75) := by
  go_enter Try.func26, Try.ntmps26
  go_wp2_with fail
  go_ret
  exact ⟨rfl, rfl⟩

theorem new_ref {R : Nat → Prop} {c : Nat} {w : World} (hh : w.heap[c]? = some (.cells #[.slice none 0 0] 75 (0, 0))) (hb : R c) : RefOf R c [] w :=
  ⟨hb, _, hh, Lie.nil _ _ _ _⟩

theorem set_one {w : World} {b : Nat} {v x : Value} {t : TypeId} (hk : w.heap[b]? = some (.cells #[v] t (0, 0))) : (w.setCell ⟨b, 0, none⟩ x).heap[b]? = some (.cells #[x] t (0, 0)) := by
  simp [World.setCell, Array.getElem?_modify, hk]

/-- a number and how many bits: what Put takes -/
def Fit (n : Nat) (k : Int) : Prop := 0 ≤ k ∧ k ≤ 64 ∧ n < 2 ^ k.toNat

set_option maxRecDepth 100000 in
set_option maxHeartbeats 1000000 in
theorem rrice_ok (R : Nat → Prop) (c : Nat) (l : List Bool) (n k : Nat) (w : World) (h : RefOf R c l w) (hR : Old R w) (hn : n < 18446744073709551616) (hk : k ≤ 40) (hl : l.length < 1099511626000) :
    Calls Try.prog 27 #[.pointer (some ⟨c, 0, none⟩), .int .u64 n, .int .i64 k] w fun e w' => e = .returned (.int .i64 0) ∧ RefOf R c (l ++ codeL n k) w' ∧ Beside R c w w' := by
  obtain ⟨hc, v, hh, ho⟩ := h
  obtain ⟨A, cp, rfl⟩ := ho.form
  have c0 : w.cell? ⟨c, 0, none⟩ = some (.slice A l.length cp) := by rw [Lib.cell_of_heap hh]; rfl
  have hd1 : decide ((k : Int) < 0) = false := decide_eq_false (by omega)
  have hd2 : decide ((40 : Int) < (k : Int)) = false := decide_eq_false (by omega)
  have hclt : c < w.heap.size := (Array.getElem?_eq_some_iff.1 hh).1
  have HR := Lib.hid hR
  have HO := Lib.hid ho
  have HH := Lib.hid hh
  have hcl : (codeL n k).length ≤ 88 := by rw [codeL_length]; exact costOne_le hk
  have L1 := Lib.hid (fun w => code_any n k w hn hk)
  clear hR ho hh hn
  generalize codeL n k = cd at *
  go_enter Try.func27, Try.ntmps27
  go_wp2_with fail
  go_region_law (first
      | (refine step_append_rd_row rfl _ _ 73 (by rfl) 4 (.bool false) 1 1 Try.underlying73 boolInf rfl (by decide) R l.length (boolCells l) _ _ (HO.out.below hb2) (by rfl) (HR.out.mono hb2.size) O cd.length co (boolCells cd) (by rfl) hrd2 (bool_one _) (by unfold maxLen; omega) (by omega) ?_; intro v' w3 hown3 hst3 hgr3 hat3; obtain ⟨A3, c3, rfl⟩ := hown3.form; have hbk3 := (hst3.block c hc).trans ((hb2.block c hclt).trans HH.out); have d3 := (Lib.cell_of_heap hbk3 0).trans (show _ = some (Value.slice A l.length cp) from rfl); have f3 := Lib.frozen_of_heap hbk3 0; clear hgr3 hat3; have HBK := Lib.hid hbk3; clear hbk3)
      | (go_simp; go_at_call 40; refine (L1.out _).mono ?_; rintro e w2 ⟨O, co, rfl, hown2, hb2'⟩; have hb2 := hb2'.drewl; obtain ⟨_, _, hv2, hrd2⟩ := Rd.of_own hown2; obtain ⟨rfl, rfl⟩ := (by simpa using hv2); have d0 := keepc hb2 c0))
  all_goals
    go_wp2_with fail
    go_ret
    refine ⟨rfl, ⟨hc, _, set_one HBK.out, ?_⟩, ?_⟩
    · rw [List.length_append, boolCells_append]; exact own_set hown3 hc _ _
    · exact ((Stays.of hb2 HR.out).trans hst3).beside.trans (beside_set _ _ _ _ _)

set_option maxRecDepth 100000 in
theorem rrice_no (c n : Nat) (k : Int) (w : World) (hk : k < 0 ∨ 40 < k) :
    Calls Try.prog 27 #[.pointer (some ⟨c, 0, none⟩), .int .u64 n, .int .i64 k] w fun e w' => e = .returned (.int .i64 1) ∧ w = w' := by
  have hc : decide (k < 0) = true ∨ (decide (k < 0) = false ∧ decide (40 < k) = true) := by
    simp only [decide_eq_true_eq, decide_eq_false_iff_not]; omega
  clear hk
  rcases hc with h1 | ⟨h1, h2⟩
  all_goals
    go_enter Try.func27, Try.ntmps27
    go_wp2_with fail
    go_ret
    exact ⟨rfl, rfl⟩
end Go.Proofs.Ytjendmojkdkipaa
