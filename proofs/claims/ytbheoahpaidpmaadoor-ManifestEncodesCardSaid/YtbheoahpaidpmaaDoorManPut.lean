/-
  The closure put of manifest.Encode: numbers written one behind the other.
-/
import Derived.Test.YtbheoahpaidpmaaDoorManBld
namespace Go.Proofs.YtbheoahpaidpmaaDoor
open Go Go.RowKit

def natC (L : List Nat) : List Value := L.map fun (n : Nat) => Value.int .i64 (n : Int)
theorem natC_length (L : List Nat) : (natC L).length = L.length := by simp [natC]
theorem flat_len (L : List Nat) (h : ∀ x ∈ L, x < 18446744073709551616) : (L.flatMap uint).length ≤ 10 * L.length := by
  induction L with
  | nil => simp
  | cons x L ih =>
    have h1 := uint_len_ten (h x (List.mem_cons_self ..))
    have h2 := ih fun y hy => h y (List.mem_cons_of_mem _ hy)
    rw [List.flatMap_cons, List.length_append, List.length_cons]
    omega

set_option linter.unusedSimpArgs false in
set_option maxRecDepth 100000 in
set_option maxHeartbeats 2000000 in
theorem put_any (B0 b g c : Nat) (l : List UInt8) (L : List Nat) (w : World) (h : BldAt B0 b l w) (hB : B0 ≤ w.heap.size) (hg : w.heap[g]? = some (.cells (natC L).toArray 3 (0, 0))) (hL : ∀ x ∈ L, x < 9223372036854775808) (hn : L.length ≤ 1000000) (hl : l.length ≤ 100000000) :
    Calls Tryd.prog 42 #[.slice (some ⟨g, 0, none⟩) L.length c, .pointer (some ⟨b, 0, none⟩)] w fun e w' => (∃ v, e = .returned v) ∧ BldAt B0 b (l ++ L.flatMap uint) w' ∧ Kp B0 b w w' := by
  obtain ⟨n, hn'⟩ : ∃ n, L.length = n := ⟨_, rfl⟩
  rw [hn'] at hn ⊢
  have hgb : g ≠ b := by
    obtain ⟨-, -, -, p, v, -, hh, -⟩ := h
    rintro rfl
    rw [hg] at hh
    simp at hh
  have Hn := Lib.hid hn'
  have HL := Lib.hid hL
  have HB := Lib.hid hB
  have HG := Lib.hid hg
  have H0 := Lib.hid h
  have Hgb := Lib.hid hgb
  clear hn' hL hB hg h hgb
  go_enter Tryd.func42, Tryd.ntmps42
  go_wp2_with fail
  go_loopw [7] (fun iv wr => ∃ i : Nat, iv = .int .i64 i ∧ i ≤ n ∧ BldAt B0 b (l ++ (L.take i).flatMap uint) wr ∧ Kp B0 b w wr) (fun iv _ => n - (intOf iv).toNat)
  case atStart => exact ⟨0, rfl, Nat.zero_le _, by simpa using H0.out, Kp.refl _ _ _⟩
  case round =>
    obtain ⟨i, rfl, hi, hb, hk⟩ := hrel
    by_cases hlt : i < n
    · have hlt' : i < L.length := by have := Hn.out; omega
      have hk1 : (i : Int) < n := by omega
      have hgw := hk.cells HG.out (by decide) Hgb.out
      obtain ⟨x, hx⟩ : ∃ x, L[i] = x := ⟨_, rfl⟩
      have hx63 : x < 9223372036854775808 := HL.out x (by rw [← hx]; exact List.getElem_mem hlt')
      have s0 : wr.cell? ⟨g, i, none⟩ = some (.int .i64 x) := by
        rw [Lib.cell_of_heap hgw]
        simp [natC, hlt', hx]
      have hfl : (L.take (i + 1)).flatMap uint = (L.take i).flatMap uint ++ uint x := by
        rw [show L.take (i + 1) = L.take i ++ [L[i]] by rw [List.take_append_getElem], List.flatMap_append, hx]; simp
      have hm : IntKind.u64.wrap (x : Int) = (x : Int) := IntWalk.u64_in _ (by omega)
      have HU := Lib.hid (fun w => uint_any x w (by omega))
      have hlen : (l ++ (L.take i).flatMap uint).length + (uint x).length < 1000000000 := by
        have h1 := flat_len (L.take i) fun y hy => by have := HL.out y (List.mem_of_mem_take hy); omega
        have h2 := uint_len_ten (n := x) (by omega)
        rw [List.length_take] at h1
        rw [List.length_append]
        omega
      have Hb := Lib.hid hb
      have Hk := Lib.hid hk
      have Hfl := Lib.hid hfl
      have Hlen := Lib.hid hlen
      clear hx hx63 hgw hfl hlen hb hk hlt'
      go_wp2_with fail
      refine (HU.out _).mono ?_
      rintro e1 w1 ⟨rfl, hb1⟩
      have hb2 := Hb.out.below hb1
      go_wp2_with fail
      refine (wstr_at B0 b _ (uint x) w1 hb2 (by have := HB.out; have := Hk.out.size; have := hb1.size; omega) Hlen.out).mono ?_
      rintro e2 w2 ⟨⟨v, rfl⟩, hb3, hk3⟩
      have Hb3 := Lib.hid hb3
      have Hk3 := Lib.hid ((Hk.out.trans (Kp.below hb1)).trans hk3)
      clear hb1 hb2 hb3 hk3
      go_wp2_with fail
      go_roundw
      case rel => exact ⟨i + 1, by go_num, by omega, by rw [Hfl.out, ← List.append_assoc]; exact Hb3.out, Hk3.out⟩
      case measure => simp [intOf]; omega
    · obtain rfl : i = n := by omega
      have Hb := Lib.hid (show BldAt B0 b (l ++ L.flatMap uint) wr by rw [List.take_of_length_le (by rw [Hn.out]; exact Nat.le_refl _)] at hb; exact hb)
      have Hk := Lib.hid hk
      clear hb hk
      go_wp2_with fail
      go_end0
      exact ⟨⟨_, rfl⟩, Hb.out, Hk.out⟩
end Go.Proofs.YtbheoahpaidpmaaDoor
