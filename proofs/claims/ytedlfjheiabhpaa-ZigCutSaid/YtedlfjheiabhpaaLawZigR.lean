/-
  The walks of the laws 'ZigReads', 'ZigOne', 'ZigLong', 'ZigCut'.
-/
import Derived.Test.YtedlfjheiabhpaaZigRead
namespace Go.Proofs.Ytedlfjheiabhpaa
open Go Go.RowKit

theorem getUint_empty (w : World) :
    Calls Try.prog 20 #[.string ⟨#[]⟩, .int .i64 0] w fun e w' => e = .returned (.tuple #[.int .u64 0, .int .i64 0, .int .i64 10]) ∧ w = w' := by
  have h := getUint_any ⟨#[]⟩ 0 w (by decide)
  have e : getAt (⟨#[]⟩ : ByteArray).data.toList 0 = (0, 0, 10) := by
    have := getAt_of_err (l := []) (k := 0) (e := 10) (by simp [get0, scan]) (by decide) (by simp)
    simpa using this
  rw [e] at h
  exact h

set_option maxRecDepth 100000 in
theorem zigReads_walk (s : ByteArray) (a : Int) (_hs : s.size ≤ maxLen) (_h0 : -9223372036854775808 ≤ a) (_h1 : a ≤ 9223372036854775807) (w : World) :
    Calls Try.prog 9 #[.string s, .int .i64 a] w fun e w' => e = .returned (.bool true) ∧ Below w.heap.size w w' := by
  clear _hs _h0 _h1
  by_cases hs : 4096 < s.size
  · go_enter Try.func9, Try.ntmps9
    go_wp2_with fail
    go_ret
    exact ⟨rfl, Below.refl _ _⟩
  · have hz : s.size < 1099511627776 := by omega
    go_enter Try.func9, Try.ntmps9
    go_wp2_with fail
    refine (getUint_any s a _ hz).mono ?_
    rintro e w1 ⟨rfl, rfl⟩
    go_wp2_with fail
    refine (rgetUint_any s a _ hz).mono ?_
    rintro e w2 ⟨rfl, hb2⟩
    go_wp2_with fail
    refine (getInt_any s a _ hz).mono ?_
    rintro e w3 ⟨rfl, rfl⟩
    go_wp2_with fail
    refine (rgetInt_any s a _ hz).mono ?_
    rintro e w4 ⟨rfl, hb4⟩
    go_wp2_with fail
    refine (getText_any s a _ hz).mono ?_
    rintro e w5 ⟨rfl, rfl⟩
    go_wp2_with fail
    refine (rgetText_any s a _ hz).mono ?_
    rintro e w6 ⟨rfl, hb6⟩
    go_wp2_with fail
    refine (getUint_empty _).mono ?_
    rintro e w7 ⟨rfl, rfl⟩
    go_wp2_with fail
    go_ret
    exact ⟨rfl, hb2.then (hb4.then hb6)⟩

theorem cut_short {m j : Nat} (h : j < (uint m).length) (hm : m < 18446744073709551616) : get0 ((uint m).take j) = (0, 0, 10) := by
  obtain ⟨p, c, e1, e2, e3⟩ := uint_split m
  have hl := uint_len_ten hm
  rw [e1] at h hl ⊢
  simp at h hl
  have ht : (p ++ [c]).take j = p.take j := by rw [List.take_append_of_le_length (by omega)]
  rw [ht]
  refine get0_none (by rw [List.length_take]; omega) fun i x hx => e3 x ?_
  rw [List.getElem?_take] at hx
  split at hx
  · exact List.mem_of_getElem? hx
  · cases hx

set_option maxRecDepth 100000 in
theorem zigOne_walk (s : ByteArray) (_hs : s.size ≤ maxLen) (w : World) :
    Calls Try.prog 7 #[.string s] w fun e w' => e = .returned (.bool true) ∧ Below w.heap.size w w' := by
  clear _hs
  by_cases hs : 1024 < s.size
  · go_enter Try.func7, Try.ntmps7
    go_wp2_with fail
    go_ret
    exact ⟨rfl, Below.refl _ _⟩
  have hz : s.size < 1099511627776 := by omega
  have hc := fun w => getUint_any s 0 w hz
  have hd := fun w => rgetUint_any s 0 w hz
  rcases getAt_cases s.data.toList 0 with ⟨e, h, he⟩ | ⟨k, m, r, ea, _, hm, ed, h, hlen⟩
  · rw [h] at hc hd
    dsimp only at hc hd
    have hne : ((e : Int) == 0) = false := beq_eq_false_iff_ne.2 (by omega)
    clear h he
    have Hc := Lib.hid hc
    have Hd := Lib.hid hd
    clear hc hd
    go_enter Try.func7, Try.ntmps7
    go_wp2_with fail
    refine (Hc.out _).mono ?_
    rintro e w1 ⟨rfl, rfl⟩
    go_wp2_with fail
    refine (Hd.out _).mono ?_
    rintro e w2 ⟨rfl, hb⟩
    go_wp2_with fail
    go_ret
    exact ⟨rfl, hb⟩
  · obtain rfl : k = 0 := by omega
    rw [h] at hc hd
    dsimp only at hc hd
    simp only [Nat.zero_add] at hc hd hlen
    rw [← Lib.size_eq] at hlen
    have hp := uint_pos m
    obtain ⟨x, hx⟩ : ∃ x, x = (uint m).length := ⟨_, rfl⟩
    have hsh : getAt (s.extract 0 (x - 1)).data.toList 0 = (0, 0, 10) := by
      rw [Lib.extract_data]
      have := getAt_of_err (l := ((s.data.toList.drop 0).take (x - 1 - 0))) (k := 0) (e := 10) (by
        rw [List.drop_zero, ed, Nat.sub_zero, List.take_append_of_le_length (by omega)]
        exact cut_short (by omega) hm) (by decide) (by simp)
      exact this
    have hq := fun w => getUint_any (s.extract 0 (x - 1)) 0 w (by rw [ByteArray.size_extract]; omega)
    rw [hsh] at hq
    dsimp only at hq
    have heq : ((S (uint m)).toList == (s.extract 0 x).toList) = true := by
      rw [Lib.toList_data, Lib.toList_data, S_toList, Lib.extract_data, ed, Nat.sub_zero, hx, List.take_left]; simp
    rw [← hx] at hc hd hlen hp
    clear h ea ed hsh hx
    have Hc := Lib.hid hc
    have Hd := Lib.hid hd
    have Hq := Lib.hid hq
    clear hc hd hq
    have hx1 : ((x : Int) - 1).toNat = x - 1 := by omega
    go_enter Try.func7, Try.ntmps7
    go_wp2_with fail
    refine (Hc.out _).mono ?_
    rintro e w1 ⟨rfl, rfl⟩
    go_wp2_with fail
    refine (Hd.out _).mono ?_
    rintro e w2 ⟨rfl, hb⟩
    go_wp2_with fail
    refine (Hq.out _).mono ?_
    rintro e w3 ⟨rfl, rfl⟩
    go_wp2_with fail
    go_region_with (go_at_call 14; refine (uint_any m _ hm).mono ?_; rintro e w4 ⟨rfl, hb4⟩)
    go_wp2_with fail
    go_ret
    refine ⟨?_, hb.then hb4.drewl⟩
    simp [Act.put]

set_option maxRecDepth 100000 in
theorem zigLong_walk (n : Nat) (hn : n < 18446744073709551616) (w : World) :
    Calls Try.prog 4 #[.int .u64 n] w fun e w' => e = .returned (.bool true) ∧ Below w.heap.size w w' := by
  have h1 := uint_pos n
  have h2 := uint_len_ten hn
  have h3 := lt_pow_len n
  have h4 := pow_len_le n
  obtain ⟨k, hk⟩ : ∃ k, k = (uint n).length := ⟨_, rfl⟩
  rw [← hk] at h1 h2 h3 h4
  have hsz : (S (uint n)).size = k := by rw [S_size, hk]
  clear hk
  have hcase : k = 1 ∨ k = 2 ∨ k = 3 ∨ k = 4 ∨ k = 5 ∨ k = 6 ∨ k = 7 ∨ k = 8 ∨ k = 9 ∨ k = 10 := by omega
  have Hc := Lib.hid (fun w => uint_any n w hn)
  rcases hcase with rfl | rfl | rfl | rfl | rfl | rfl | rfl | rfl | rfl | rfl
  · simp at h3 h4
    have hA : decide ((n : Int) < 128) = true := by simp; omega
    clear h1 h2 h3 h4 hn
    go_enter Try.func4, Try.ntmps4
    go_wp2_with fail
    refine (Hc.out _).mono ?_
    rintro e w1 ⟨rfl, hb⟩
    go_wp2_with fail
    go_ret
    exact ⟨rfl, hb⟩
  · simp at h3 h4
    have hA : decide ((n : Int) < 16384) = true := by simp; omega
    have hB : decide (128 ≤ (n : Int)) = true := by simp; omega
    clear h1 h2 h3 h4 hn
    go_enter Try.func4, Try.ntmps4
    go_wp2_with fail
    refine (Hc.out _).mono ?_
    rintro e w1 ⟨rfl, hb⟩
    go_wp2_with fail
    go_ret
    exact ⟨rfl, hb⟩
  · simp at h3 h4
    have hA : decide ((n : Int) < 2097152) = true := by simp; omega
    have hB : decide (16384 ≤ (n : Int)) = true := by simp; omega
    clear h1 h2 h3 h4 hn
    go_enter Try.func4, Try.ntmps4
    go_wp2_with fail
    refine (Hc.out _).mono ?_
    rintro e w1 ⟨rfl, hb⟩
    go_wp2_with fail
    go_ret
    exact ⟨rfl, hb⟩
  · simp at h3 h4
    have hA : decide ((n : Int) < 268435456) = true := by simp; omega
    have hB : decide (2097152 ≤ (n : Int)) = true := by simp; omega
    clear h1 h2 h3 h4 hn
    go_enter Try.func4, Try.ntmps4
    go_wp2_with fail
    refine (Hc.out _).mono ?_
    rintro e w1 ⟨rfl, hb⟩
    go_wp2_with fail
    go_ret
    exact ⟨rfl, hb⟩
  · simp at h3 h4
    have hA : decide ((n : Int) < 34359738368) = true := by simp; omega
    have hB : decide (268435456 ≤ (n : Int)) = true := by simp; omega
    clear h1 h2 h3 h4 hn
    go_enter Try.func4, Try.ntmps4
    go_wp2_with fail
    refine (Hc.out _).mono ?_
    rintro e w1 ⟨rfl, hb⟩
    go_wp2_with fail
    go_ret
    exact ⟨rfl, hb⟩
  · simp at h3 h4
    have hA : decide ((n : Int) < 4398046511104) = true := by simp; omega
    have hB : decide (34359738368 ≤ (n : Int)) = true := by simp; omega
    clear h1 h2 h3 h4 hn
    go_enter Try.func4, Try.ntmps4
    go_wp2_with fail
    refine (Hc.out _).mono ?_
    rintro e w1 ⟨rfl, hb⟩
    go_wp2_with fail
    go_ret
    exact ⟨rfl, hb⟩
  · simp at h3 h4
    have hA : decide ((n : Int) < 562949953421312) = true := by simp; omega
    have hB : decide (4398046511104 ≤ (n : Int)) = true := by simp; omega
    clear h1 h2 h3 h4 hn
    go_enter Try.func4, Try.ntmps4
    go_wp2_with fail
    refine (Hc.out _).mono ?_
    rintro e w1 ⟨rfl, hb⟩
    go_wp2_with fail
    go_ret
    exact ⟨rfl, hb⟩
  · simp at h3 h4
    have hA : decide ((n : Int) < 72057594037927936) = true := by simp; omega
    have hB : decide (562949953421312 ≤ (n : Int)) = true := by simp; omega
    clear h1 h2 h3 h4 hn
    go_enter Try.func4, Try.ntmps4
    go_wp2_with fail
    refine (Hc.out _).mono ?_
    rintro e w1 ⟨rfl, hb⟩
    go_wp2_with fail
    go_ret
    exact ⟨rfl, hb⟩
  · simp at h3 h4
    have hA : decide ((n : Int) < 9223372036854775808) = true := by simp; omega
    have hB : decide (72057594037927936 ≤ (n : Int)) = true := by simp; omega
    clear h1 h2 h3 h4 hn
    go_enter Try.func4, Try.ntmps4
    go_wp2_with fail
    refine (Hc.out _).mono ?_
    rintro e w1 ⟨rfl, hb⟩
    go_wp2_with fail
    go_ret
    exact ⟨rfl, hb⟩
  · simp at h3 h4
    have hB : decide (9223372036854775808 ≤ (n : Int)) = true := by simp; omega
    clear h1 h2 h3 h4 hn
    go_enter Try.func4, Try.ntmps4
    go_wp2_with fail
    refine (Hc.out _).mono ?_
    rintro e w1 ⟨rfl, hb⟩
    go_wp2_with fail
    go_ret
    exact ⟨rfl, hb⟩
end Go.Proofs.Ytedlfjheiabhpaa
