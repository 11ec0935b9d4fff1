/-
  Plain Lean: how long samples' bytes are; samples of one distance and one value.
-/
import Derived.Test.YtmafdbdmmfpeeaaDEnc1
namespace Go.Proofs.Ytmafdbdmmfpeeaa
open Go Go.RowKit

theorem pad_le {m : Nat} (h : m < 8) : pad m ≤ 7 := by unfold pad; split <;> omega
theorem out_len8 {s : WSt} (h : s.m < 8) : 8 * s.out.length ≤ s.bits.length + 7 := by
  have h1 := congrArg List.length (out_bits h)
  rw [bitsOf_length, List.length_append, List.length_replicate] at h1
  have := pad_le h
  omega
theorem bits2_length (ps : List (Nat × Nat)) (a b : Nat) : (bits2 ps a b).length = costN (ps.map Prod.fst) a + costN (ps.map Prod.snd) b := by
  induction ps with
  | nil => rfl
  | cons p ps ih =>
    simp only [bits2, List.flatMap_cons, List.length_append, codeL_length, List.map_cons, costN, List.sum_cons] at ih ⊢
    omega
theorem body_len (l : List Sample) : 8 * (bodyB l).length ≤ costN ((nums l).map Prod.fst) (bestT l) + costN ((nums l).map Prod.snd) (bestV l) + 23 := by
  have h1 := wrN_ok (bestT_le l) (bestV_le l) (nums l)
  have h2 := out_len8 h1.1.1
  rw [wrN_bits, bits2_length] at h2
  unfold bodyB
  rw [List.length_append]
  simp only [List.length_cons, List.length_nil]
  omega
theorem uint_len2 {n : Nat} (h : n ≤ 5000) : (uint n).length ≤ 2 := uint_len_le 1 n (by omega)
theorem first_len {l : List Sample} (hf : Fine l) (hok : ∀ x ∈ l, Sample.ok x) (h : 0 < l.length) : (firstB l).length ≤ 16 := by
  have h1 := hf.1 _ (List.getElem_mem h)
  have h2 := (hok _ (List.getElem_mem h)).2
  have h3 : (uint l[0].T.toNat).length ≤ 6 := uint_len_le 5 _ (by omega)
  have h4 : (uint (foldN l[0].V)).length ≤ 10 := uint_len_ten (foldN_lt h2.1 h2.2)
  unfold firstB
  rw [sAt_get h, List.length_append]
  omega
theorem encB_pos (l : List Sample) : 0 < (encB l).length := by
  have := uint_pos l.length
  unfold encB
  simp only [List.length_append]
  omega
theorem encB_len {l : List Sample} (hf : Fine l) (hok : ∀ x ∈ l, Sample.ok x) (hl : l.length ≤ 5000) : (encB l).length ≤ 25 + 22 * l.length := by
  have h0 := uint_len2 hl
  unfold encB
  by_cases h : l.length = 0
  · rw [if_pos h, if_pos (by omega)]
    simp only [List.length_append, List.length_nil]
    omega
  · have h1 := first_len hf hok (by omega)
    rw [if_neg h]
    by_cases h2 : l.length < 2
    · rw [if_pos h2]
      simp only [List.length_append, List.length_nil]
      omega
    · rw [if_neg h2]
      have h3 := body_len l
      have h4 := costN_le (bestT_le l) ((nums l).map Prod.fst)
      have h5 := costN_le (bestV_le l) ((nums l).map Prod.snd)
      rw [List.length_map, nums_length] at h4 h5
      simp only [List.length_append]
      omega

/-- samples of one distance and one value -/
def evenL (f d : Nat) (v : Int) (n : Nat) : List Sample := (List.range n).map fun i => ⟨((f + i * d : Nat) : Int), v⟩
theorem evenL_length (f d : Nat) (v : Int) (n : Nat) : (evenL f d v n).length = n := by simp [evenL]
theorem evenL_at {f d : Nat} {v : Int} {n i : Nat} (h : i < n) : sAt (evenL f d v n) i = ⟨((f + i * d : Nat) : Int), v⟩ := by
  rw [sAt_get (by rw [evenL_length]; exact h)]
  simp [evenL]
theorem evenL_next (f d : Nat) (v : Int) (n : Nat) : evenL f d v (n + 1) = evenL f d v n ++ [⟨((f + n * d : Nat) : Int), v⟩] := by simp [evenL, List.range_succ]
theorem evenL_fine {f d : Nat} {v : Int} {n : Nat} (hd : 0 < d) (hd2 : d ≤ 65536) (hf : f < 65536) (hn : n ≤ 255) : Fine (evenL f d v n) := by
  refine fine_of fun j hj => ?_
  rw [evenL_length] at hj
  have hm : j * d ≤ 255 * 65536 := Nat.mul_le_mul (by omega) hd2
  refine ⟨?_, ?_⟩
  · rw [evenL_at hj]
    cases j with
    | zero => show (-1 : Int) < ((f + 0 * d : Nat) : Int); omega
    | succ j =>
      show (sAt (evenL f d v n) j).T < _
      rw [evenL_at (by omega)]
      have h1 : (j + 1) * d = j * d + d := Nat.succ_mul j d
      simp only
      omega
  · rw [evenL_at hj]
    simp only
    omega
theorem evenL_ok {f d : Nat} {v : Int} {n : Nat} (hv : In64 v) (hd2 : d ≤ 65536) (hf : f < 65536) (hn : n ≤ 255) : ∀ x ∈ evenL f d v n, Sample.ok x := by
  intro x hx
  obtain ⟨i, hi, rfl⟩ := List.getElem_of_mem hx
  have hi' : i < n := by rwa [evenL_length] at hi
  rw [← sAt_get hi, evenL_at hi']
  have hm : i * d ≤ 255 * 65536 := Nat.mul_le_mul (by omega) hd2
  refine ⟨?_, hv⟩
  unfold In64
  simp only
  omega
theorem costOne_zero : costOne 0 0 = 1 := by decide
theorem costN_rep (m : Nat) : costN (List.replicate m 0) 0 = m := by
  induction m with
  | zero => rfl
  | succ m ih =>
    rw [List.replicate_succ]
    simp only [costN, List.map_cons, List.sum_cons, costOne_zero] at ih ⊢
    omega
theorem evenL_dist {f d : Nat} {v : Int} {n i : Nat} (h : i + 1 < n) : dist (evenL f d v n) i = d := by
  unfold dist
  rw [evenL_at h, evenL_at (by omega)]
  have h1 : (i + 1) * d = i * d + d := Nat.succ_mul i d
  simp only
  omega
theorem evenL_num {f d : Nat} {v : Int} {n i : Nat} (h : i + 1 < n) : numAt (evenL f d v n) i = (if i = 0 then foldN d else 0, 0) := by
  unfold numAt
  rw [evenL_dist h, evenL_at h, evenL_at (show i < n by omega)]
  simp only [Int.sub_self]
  have h0 : foldN (wrapV 0) = 0 := by decide
  rw [h0]
  cases i with
  | zero => rw [if_pos rfl]; show (foldN ((d : Int) - 0), 0) = _; rw [Int.sub_zero]
  | succ i =>
    rw [if_neg (by omega)]
    show (foldN ((d : Int) - dist (evenL f d v n) i), 0) = _
    rw [evenL_dist (by omega), Int.sub_self]
    rfl
theorem evenL_nums (f d : Nat) (v : Int) (m : Nat) : nums (evenL f d v (m + 2)) = (foldN d, 0) :: List.replicate m (0, 0) := by
  refine List.ext_getElem ?_ fun i h1 h2 => ?_
  · rw [nums_length, evenL_length]; simp
  · rw [nums_get h1]
    rw [nums_length, evenL_length] at h1
    rw [evenL_num (by omega)]
    cases i with
    | zero => simp
    | succ i => simp
theorem even_len {f d : Nat} {v : Int} {n : Nat} (hv : In64 v) (hf : f < 65536) (hn : n ≤ 255) (h2 : 2 ≤ n) : (encB (evenL f d v n)).length ≤ 36 + n / 4 + 1 := by
  obtain ⟨m, rfl⟩ : ∃ m, n = m + 2 := ⟨n - 2, by omega⟩
  have hlen := evenL_length f d v (m + 2)
  have h3 := body_len (evenL f d v (m + 2))
  have h4 := (bestN_least ((nums (evenL f d v (m + 2))).map Prod.fst) 40 0 (by omega)).1
  have h5 := (bestN_least ((nums (evenL f d v (m + 2))).map Prod.snd) 40 0 (by omega)).1
  have e4 : costN ((nums (evenL f d v (m + 2))).map Prod.fst) 0 ≤ 88 + m := by
    rw [evenL_nums, List.map_cons, List.map_replicate]
    have h1 := costN_rep m
    have h2 := costOne_le (n := foldN d) (k := 0) (by omega)
    simp only [costN, List.map_cons, List.sum_cons] at h1 ⊢
    omega
  have e5 : costN ((nums (evenL f d v (m + 2))).map Prod.snd) 0 = m + 1 := by
    rw [evenL_nums, List.map_cons, List.map_replicate]
    have h1 := costN_rep m
    simp only [costN, List.map_cons, List.sum_cons, costOne_zero] at h1 ⊢
    omega
  have hb : 8 * (bodyB (evenL f d v (m + 2))).length ≤ 88 + m + (m + 1) + 23 := by
    unfold bestT bestV at h3
    omega
  have hF : (firstB (evenL f d v (m + 2))).length ≤ 13 := by
    unfold firstB
    rw [evenL_at (by omega), List.length_append]
    have h1 : (uint ((f + 0 * d : Nat) : Int).toNat).length ≤ 3 := uint_len_le 2 _ (by rw [Nat.zero_mul]; omega)
    have h2 : (uint (foldN v)).length ≤ 10 := uint_len_ten (foldN_lt hv.1 hv.2)
    simp only
    omega
  have h0 := uint_len2 (n := m + 2) (by omega)
  unfold encB
  rw [hlen, if_neg (by omega), if_neg (by omega)]
  simp only [List.length_append]
  omega
end Go.Proofs.Ytmafdbdmmfpeeaa
