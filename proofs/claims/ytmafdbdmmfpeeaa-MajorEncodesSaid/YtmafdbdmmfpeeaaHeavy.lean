/-
  The law's heavy.
-/
import Derived.Test.YtmafdbdmmfpeeaaSerArg
namespace Go.Proofs.Ytmafdbdmmfpeeaa
open Go Go.RowKit

def sumN (xs : List SerV) : Nat := (xs.map fun x => x.n).sum
set_option linter.unusedSimpArgs false in
set_option maxRecDepth 100000 in
set_option maxHeartbeats 1000000 in
theorem heavy_any (A0 : Option Addr) (c0 : Nat) (xs : List SerV) (w : World) (hrd : Rd w 2 A0 xs.length (xs.flatMap serCells)) (hl : xs.length ≤ maxLen) (hn : ∀ x ∈ xs, x.n ≤ maxLen) : Calls Try.prog 13 #[.slice A0 xs.length c0] w
    fun e w' => ∃ b, e = .returned (.bool b) ∧ (b = false → xs.length + sumN xs ≤ 300) ∧ Below w.heap.size w w' := by
  have Hrd := Lib.hid hrd
  have HN := Lib.hid hn
  obtain ⟨n, hn'⟩ : ∃ n, xs.length = n := ⟨_, rfl⟩
  rw [hn'] at hl ⊢
  have Hn := Lib.hid hn'
  clear hrd hn' hn
  go_enter Try.func13, Try.ntmps13
  go_wp2_with fail
  go_loopw [3, 4] (fun tv ix wr => ∃ (i t : Nat), ix = .int .i64 i ∧ tv = .int .i64 t ∧ i ≤ n ∧ t ≤ 2000000 ∧ (t ≤ 300 → t = n + sumN (xs.take i)) ∧ Below w.heap.size w wr) (fun _ ix _ => n - (intOf ix).toNat)
  case atStart => exact ⟨0, min n 1048576, rfl, by congr 1; omega, by omega, by omega, fun h => by simp [sumN]; omega, Below.refl _ _⟩
  case round =>
    obtain ⟨i, t, rfl, rfl, hi, ht, hs, hbel⟩ := hrel
    have Hbel := Lib.hid hbel
    have Hs := Lib.hid hs
    clear hs hbel
    by_cases hlt : i < n
    · by_cases h3 : t ≤ 300
      · have hlt' : i < xs.length := by have := Hn.out; omega
        obtain ⟨gb, off, rfl, hgb, hf⟩ := (Hrd.out.below Hbel.out).elem serCells_length (by decide) hlt'
        have f1 := hf 1 _ rfl
        have hsn : sumN (xs.take (i + 1)) = sumN (xs.take i) + xs[i].n := by
          rw [show xs.take (i + 1) = xs.take i ++ [xs[i]] by rw [List.take_append_getElem]]; unfold sumN; rw [List.map_append, List.sum_append]; simp only [List.map_cons, List.map_nil, List.sum_cons, List.sum_nil, Nat.add_zero]
        have hnl := HN.out xs[i] (List.getElem_mem hlt')
        generalize xs[i] = f at *
        obtain ⟨I, A1, n1, c1⟩ := f
        simp only at f1 hsn hnl
        have f1' : wr.cell? ⟨gb, off + i * 2 + 1, none⟩ = some (.slice A1 n1 c1) := by rw [Nat.add_assoc]; exact f1
        obtain ⟨t', ht'⟩ : ∃ t', t + min n1 1048576 = t' := ⟨_, rfl⟩
        have m1 : IntKind.i64.wrap ((t : Int) + min (n1 : Int) 1048576) = (t' : Int) := by rw [IntKind.wrap_i64]; omega
        have hk1 : (i : Int) < n := by omega
        have k1 : decide ((t : Int) ≤ 300) = true := decide_eq_true (by omega)
        have k2 : decide (t ≤ 300) = true := decide_eq_true h3
        have hl2 : n ≤ 9223372036854775807 := by unfold maxLen at hl; omega
        have Hsn := Lib.hid hsn
        have Ht' := Lib.hid ht'
        clear hf f1 hlt' hsn ht'
        go_wp2_with fail
        go_roundw
        case rel => exact ⟨i + 1, t', by go_num, rfl, by omega, by have := Ht'.out; omega, fun h => by have e1 := Ht'.out; have e2 := Hsn.out; have e3 := Hs.out h3; omega, Hbel.out⟩
        case measure => simp [intOf]; omega
      · have k1 : decide ((t : Int) ≤ 300) = false := decide_eq_false (by omega)
        have k2 : decide (t ≤ 300) = false := decide_eq_false h3
        have k3 : decide ((300 : Int) < (t : Int)) = true := decide_eq_true (by omega)
        have k4 : decide (300 < t) = true := decide_eq_true (by omega)
        have hk1 : (i : Int) < n := by omega
        go_wp2_with fail
        go_ret
        exact ⟨true, rfl, fun h => (by cases h), Hbel.out⟩
    · obtain rfl : i = n := by omega
      by_cases h3 : t ≤ 300
      · have k3 : decide ((300 : Int) < (t : Int)) = false := decide_eq_false (by omega)
        have k4 : decide (300 < t) = false := decide_eq_false (by omega)
        have HS := Lib.hid (show i + sumN xs ≤ 300 by
          have := Hs.out h3
          rw [List.take_of_length_le (by rw [Hn.out]; exact Nat.le_refl _)] at this
          omega)
        go_wp2_with fail
        go_ret
        exact ⟨false, rfl, fun _ => HS.out, Hbel.out⟩
      · have k3 : decide ((300 : Int) < (t : Int)) = true := decide_eq_true (by omega)
        have k4 : decide (300 < t) = true := decide_eq_true (by omega)
        go_wp2_with fail
        go_ret
        exact ⟨true, rfl, fun h => (by cases h), Hbel.out⟩
end Go.Proofs.Ytmafdbdmmfpeeaa
