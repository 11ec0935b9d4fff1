/-
  'long': what it lets through is short. And an argument of strings.
-/
import Derived.Test.YtgfchhbekbmlcaaDoorSame
namespace Go.Proofs.YtgfchhbekbmlcaaDoor
open Go Go.RowKit Go.Deep Go.ChangeShapes Go.WideShapes

def total (ts : List (List UInt8)) : Nat := (ts.map List.length).sum
theorem total_nil : total [] = 0 := rfl
theorem total_snoc (ts : List (List UInt8)) (t : List UInt8) : total (ts ++ [t]) = total ts + t.length := by simp [total]
theorem total_take_le (ts : List (List UInt8)) (k : Nat) : total (ts.take k) ≤ total ts := by
  have := congrArg total (List.take_append_drop k ts)
  rw [← this, total, total, List.map_append, List.sum_append]; exact Nat.le_add_right _ _

set_option maxRecDepth 100000 in
set_option maxHeartbeats 1000000 in
theorem long_any (A : Option Addr) (ca : Nat) (ts : List (List UInt8)) (w : World) (ha : Rd w 1 A ts.length (strCells ts)) (hl : ts.length ≤ maxLen) :
    Calls Tryd.prog 16 #[.slice A ts.length ca] w fun e w' => ∃ b, e = .returned (.bool b) ∧ Below w.heap.size w w' ∧ (b = false → ts.length + total ts ≤ 2048) := by
  have hl' : ts.length ≤ 9223372036854775807 := hl
  clear hl
  obtain ⟨M, hM, hM2, hM3⟩ : ∃ M : Nat, (if (1048576 : Int) < (ts.length : Int) then (1048576 : Int) else (ts.length : Int)) = (M : Int) ∧ M ≤ 1048576 ∧ (M ≤ 2048 → M = ts.length) := by
    by_cases h : 1048576 < ts.length
    · exact ⟨1048576, by rw [if_pos (by omega)]; rfl, by omega, by omega⟩
    · exact ⟨ts.length, by rw [if_neg (by omega)], by omega, fun _ => rfl⟩
  go_enter Tryd.func16, Tryd.ntmps16
  go_wp2_with fail
  have HM := Lib.hid hM3
  clear hM3
  go_loopw [3, 4] (fun n i wr => ∃ N k : Nat, n = .int .i64 N ∧ i = .int .i64 k ∧ k ≤ ts.length ∧ N ≤ 2097152 ∧ (N ≤ 2048 → N = ts.length + total (ts.take k)) ∧ Below w.heap.size w wr) (fun _ i _ => ts.length - (intOf i).toNat)
  case atStart => exact ⟨M, 0, rfl, rfl, by omega, by omega, fun h => by rw [HM.out h]; simp [total], Below.refl _ _⟩
  case round =>
    obtain ⟨N, k, rfl, rfl, hk, hN, hNe, hbel⟩ := hrel
    have HNe := Lib.hid hNe
    clear hNe
    by_cases hkl : k < ts.length
    · by_cases hN2 : N ≤ 2048
      · obtain ⟨b, off, rfl, hba, e0⟩ := str_at (ha.below hbel) hkl
        have hsz := S_size ts[k]
        generalize hS : S ts[k] = t at *
        obtain ⟨m, hm, hm2, hm3⟩ : ∃ m : Nat, (if (1048576 : Int) < (t.size : Int) then (1048576 : Int) else (t.size : Int)) = (m : Int) ∧ m ≤ 1048576 ∧ (m ≤ 2048 → m = t.size) := by
          by_cases h : 1048576 < t.size
          · exact ⟨1048576, by rw [if_pos (by omega)]; rfl, by omega, by omega⟩
          · exact ⟨t.size, by rw [if_neg (by omega)], by omega, fun _ => rfl⟩
        have Hm := Lib.hid hm3
        have Hsz := Lib.hid hsz
        clear hm3 hS hsz
        go_wp2_with fail
        go_roundw
        case rel =>
          refine ⟨N + m, k + 1, by go_num, by go_num, by omega, by omega, fun h => ?_, hbel⟩
          have h1 := HNe.out (by omega)
          have h2 := Hm.out (by omega)
          have h3 := Hsz.out
          rw [List.take_succ_eq_append_getElem hkl, total_snoc]; omega
        case measure => simp [intOf]; omega
      · go_wp2_with fail
        go_ret
        exact ⟨_, rfl, hbel, fun h => by simp at h⟩
    · have hk' : k = ts.length := by omega
      subst hk'
      go_wp2
      go_ret
      refine ⟨_, rfl, hbel, fun h => ?_⟩
      have h0 : N ≤ 2048 := by simp at h; omega
      have h1 := HNe.out h0
      rw [List.take_length] at h1
      omega

section
variable {H : Type} {enc : TypeId × Value → H} {w : World}
theorem str_elem : ∀ n cs y, cs.length = 1 → DataW.trod enc Tryd.prog w 0 (fun _ => true) true n 9 cs = some y → ∃ x : List UInt8, cs = [.string (S x)] ∧ x.length ≤ maxLen := by
  intro n cs y _ h
  obtain ⟨s, hc, _, hs⟩ := DataW.trod_string Tryd.underlying9 h
  exact ⟨s.data.toList, by rw [S_data]; exact hc, by rw [← Lib.size_eq]; exact hs⟩

/-- an argument of strings -/
theorem read_strs {v : Value} {d : DataW H} {p : List MemPlace} {r : Reach} {b0 : Nat} (hv : Value.okWide Tryd.prog w r b0 26 v) (h : DataW.Trod enc Tryd.prog w 0 (fun _ => true) true 26 v d p) :
    ∃ A c, ∃ ts : List (List UInt8), v = .slice A ts.length c ∧ Rd w 1 A ts.length (strCells ts) ∧ (∀ x ∈ ts, x.length ≤ maxLen) ∧ ts.length ≤ c ∧ c ≤ maxLen := by
  obtain ⟨A, c, ts, h1, h2, h3⟩ := read_slice (cells := fun t => [Value.string (S t)]) (R := fun t => t.length ≤ maxLen) (fun _ => rfl) (by decide) Tryd.underlying26 (by kernel_rfl) str_elem hv h
  refine ⟨A, c, ts, h1, ?_, h3⟩
  have e : strCells ts = ts.flatMap fun t => [Value.string (S t)] := by
    exact List.map_eq_flatMap
  rw [e]; exact h2
end
end Go.Proofs.YtgfchhbekbmlcaaDoor
