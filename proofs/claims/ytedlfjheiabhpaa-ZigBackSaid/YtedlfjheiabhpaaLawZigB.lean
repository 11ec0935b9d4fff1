/-
  The walks of the laws 'ZigCut' and 'ZigBack'.
-/
import Derived.Test.YtedlfjheiabhpaaLawZigR
namespace Go.Proofs.Ytedlfjheiabhpaa
open Go Go.RowKit

theorem getAt_uint {p r : List UInt8} {n : Nat} (hn : n < 18446744073709551616) : getAt (p ++ (uint n ++ r)) (p.length : Nat) = (n, ((p.length + (uint n).length : Nat) : Int), 0) := by
  have := getAt_of (l := p ++ (uint n ++ r)) (k := p.length) (a := n) (b := (uint n).length) (by rw [List.drop_left]; exact get0_uint hn r) (by simp)
  rw [this]; simp

theorem getTextAt_text {p t r : List UInt8} (hn : t.length < 18446744073709551616) : getTextAt (p ++ (text t ++ r)) (p.length : Nat) = (t, ((p.length + (text t).length : Nat) : Int), 0) := by
  have h : getAt (p ++ (text t ++ r)) (p.length : Nat) = (t.length, ((p.length + (uint t.length).length : Nat) : Int), 0) := by
    have := getAt_uint (p := p) (r := t ++ r) hn
    rw [text, List.append_assoc]; exact this
  have hl : (p ++ (text t ++ r)).length = p.length + (uint t.length).length + t.length + r.length := by simp [text]; omega
  rw [getText_ok h (by rw [hl]; omega)]
  have hd : (p ++ (text t ++ r)).drop (p.length + (uint t.length).length) = t ++ r := by
    rw [text, List.append_assoc, ← List.append_assoc, ← List.length_append, List.drop_left]
  rw [hd, List.take_left]
  simp [text]; omega

theorem getUint_at (s : ByteArray) (a : Int) (w : World) (hs : s.size < 1099511627776) {n : Nat} {x : Int} {e : Nat} (h : getAt s.data.toList a = (n, x, e)) :
    Calls Try.prog 20 #[.string s, .int .i64 a] w fun E w' => E = .returned (.tuple #[.int .u64 n, .int .i64 x, .int .i64 e]) ∧ w = w' := by
  have := getUint_any s a w hs
  rw [h] at this
  exact this
theorem getInt_at (s : ByteArray) (a : Int) (w : World) (hs : s.size < 1099511627776) {n x : Int} {e : Nat} (h : getIntAt s.data.toList a = (n, x, e)) :
    Calls Try.prog 22 #[.string s, .int .i64 a] w fun E w' => E = .returned (.tuple #[.int .i64 n, .int .i64 x, .int .i64 e]) ∧ w = w' := by
  have := getInt_any s a w hs
  rw [h] at this
  exact this
theorem getText_at (s : ByteArray) (a : Int) (w : World) (hs : s.size < 1099511627776) {t : List UInt8} {x : Int} {e : Nat} (h : getTextAt s.data.toList a = (t, x, e)) :
    Calls Try.prog 24 #[.string s, .int .i64 a] w fun E w' => E = .returned (.tuple #[.string (S t), .int .i64 x, .int .i64 e]) ∧ w = w' := by
  have := getText_any s a w hs
  rw [h] at this
  exact this

set_option maxRecDepth 100000 in
theorem zigCut_walk (n : Nat) (ahead : ByteArray) (c : Nat) (hn : n < 18446744073709551616) (_hs : ahead.size ≤ maxLen) (hc : c < 256) (w : World) :
    Calls Try.prog 8 #[.int .u64 n, .string ahead, .int .u8 c] w fun e w' => e = .returned (.bool true) ∧ Below w.heap.size w w' := by
  clear _hs
  by_cases hs : 1024 < ahead.size
  · go_enter Try.func8, Try.ntmps8
    go_wp2_with fail
    go_ret
    exact ⟨rfl, Below.refl _ _⟩
  have h1 := uint_pos n
  have h2 := uint_len_ten hn
  obtain ⟨L, hL⟩ : ∃ L, L = (uint n).length := ⟨_, rfl⟩
  rw [← hL] at h1 h2
  have hsz : (S (uint n)).size = L := by rw [S_size, hL]
  have hk : c % L < L := Nat.mod_lt _ h1
  have hA : getAt (ahead ++ (S (uint n)).extract 0 (c % L)).data.toList (ahead.size : Nat) = (0, 0, 10) := by
    rw [ByteArray.data_append, Array.toList_append, Lib.extract_data, S_toList, Lib.size_eq]
    exact getAt_of_err (by rw [List.drop_left]; exact cut_short (by omega) hn) (by decide) (by simp)
  have hB : getAt (ahead ++ S (uint n)).data.toList ((ahead.size : Int) + (L : Int) + 1) = (0, 0, 1) := by
    refine getAt_out (.inr ?_)
    rw [← Lib.size_eq, ByteArray.size_append, hsz]; omega
  have HA := Lib.hid (fun w => getUint_at (ahead ++ (S (uint n)).extract 0 (c % L)) (ahead.size : Nat) w (by rw [ByteArray.size_append, ByteArray.size_extract]; omega) hA)
  have HB := Lib.hid (fun w => getUint_at (ahead ++ S (uint n)) ((ahead.size : Int) + (L : Int) + 1) w (by rw [ByteArray.size_append]; omega) hB)
  have hx : ((S (uint n)).extract 0 (c % L)).size ≤ 10 := by rw [ByteArray.size_extract]; omega
  clear hA hB hL
  have hm : ((c : Int) % (L : Int)).toNat = c % L := by omega
  go_enter Try.func8, Try.ntmps8
  go_wp2_with fail
  refine (uint_any n _ hn).mono ?_
  rintro e w1 ⟨rfl, hb1⟩
  go_wp2_with fail
  refine (ruint_any n _ hn).mono ?_
  rintro e w2 ⟨rfl, hb2⟩
  go_wp2_with fail
  refine (HA.out _).mono ?_
  rintro e w3 ⟨rfl, rfl⟩
  go_wp2_with fail
  refine (HB.out _).mono ?_
  rintro e w4 ⟨rfl, rfl⟩
  go_wp2_with fail
  go_ret
  exact ⟨rfl, hb1.then hb2⟩

theorem intAt_of {l : List UInt8} {a : Int} {m : Int} {x : Int} {e : Nat} (h : getAt l a = (foldN m, x, e)) : getIntAt l a = (m, x, e) := by
  unfold getIntAt; rw [h]; simp [unfold_fold]

set_option maxRecDepth 100000 in
theorem zigBack_walk (ahead : ByteArray) (n : Nat) (m : Int) (s behind : ByteArray) (_ha : ahead.size ≤ maxLen) (hn : n < 18446744073709551616) (h0 : -9223372036854775808 ≤ m) (h1 : m ≤ 9223372036854775807) (_hs : s.size ≤ maxLen) (_hb : behind.size ≤ maxLen) (w : World) :
    Calls Try.prog 10 #[.string ahead, .int .u64 n, .int .i64 m, .string s, .string behind] w fun e w' => e = .returned (.bool true) ∧ Below w.heap.size w w' := by
  clear _ha _hs _hb
  by_cases ha : 1024 < ahead.size
  · go_enter Try.func10, Try.ntmps10
    go_wp2_with fail
    go_ret
    exact ⟨rfl, Below.refl _ _⟩
  by_cases hs : 1024 < s.size
  · go_enter Try.func10, Try.ntmps10
    go_wp2_with fail
    go_ret
    exact ⟨rfl, Below.refl _ _⟩
  by_cases hb : 1024 < behind.size
  · go_enter Try.func10, Try.ntmps10
    go_wp2_with fail
    go_ret
    exact ⟨rfl, Below.refl _ _⟩
  have hf := foldN_lt h0 h1
  obtain ⟨p, hp⟩ : ∃ p, p = ahead.data.toList := ⟨_, rfl⟩
  obtain ⟨q, hq⟩ : ∃ q, q = s.data.toList := ⟨_, rfl⟩
  obtain ⟨r, hr⟩ : ∃ r, r = behind.data.toList := ⟨_, rfl⟩
  have hpl : p.length = ahead.size := by rw [hp, Lib.size_eq]
  have hql : q.length = s.size := by rw [hq, Lib.size_eq]
  have hrl : r.length = behind.size := by rw [hr, Lib.size_eq]
  obtain ⟨L1, hL1⟩ : ∃ L, L = (uint n).length := ⟨_, rfl⟩
  obtain ⟨L2, hL2⟩ : ∃ L, L = (uint (foldN m)).length := ⟨_, rfl⟩
  obtain ⟨L3, hL3⟩ : ∃ L, L = (text q).length := ⟨_, rfl⟩
  have b1 : L1 ≤ 10 := by rw [hL1]; exact uint_len_ten hn
  have b2 : L2 ≤ 10 := by rw [hL2]; exact uint_len_ten hf
  have b3 : L3 ≤ 1034 := by rw [hL3, text, List.length_append]; have := uint_len_ten (n := q.length) (by omega); omega
  have s1 : (S (uint n)).size = L1 := by rw [S_size, hL1]
  have s2 : (S (uint (foldN m))).size = L2 := by rw [S_size, hL2]
  have s3 : (S (text q)).size = L3 := by rw [S_size, hL3]
  have hT : (ahead ++ S (uint n) ++ S (uint (foldN m)) ++ S (text q) ++ behind).data.toList = p ++ (uint n ++ (uint (foldN m) ++ (text q ++ r))) := by
    simp [ByteArray.data_append, S, hp, hr]
  obtain ⟨T, hTT⟩ : ∃ T, T = ahead ++ S (uint n) ++ S (uint (foldN m)) ++ S (text q) ++ behind := ⟨_, rfl⟩
  have hTs : T.size = ahead.size + L1 + L2 + L3 + behind.size := by rw [hTT]; simp only [ByteArray.size_append, s1, s2, s3]
  rw [← hTT] at hT
  have c1 : getAt T.data.toList (ahead.size : Nat) = (n, ((ahead.size + L1 : Nat) : Int), 0) := by rw [hT, ← hpl, hL1]; exact getAt_uint hn
  have c2 : getIntAt T.data.toList ((ahead.size + L1 : Nat) : Int) = (m, ((ahead.size + L1 + L2 : Nat) : Int), 0) := by
    have := getAt_uint (p := p ++ uint n) (r := text q ++ r) hf
    refine intAt_of ?_
    rw [hT, ← hpl, hL1, hL2]
    simpa [List.append_assoc, Nat.add_assoc] using this
  have c3 : getTextAt T.data.toList ((ahead.size + L1 + L2 : Nat) : Int) = (q, ((ahead.size + L1 + L2 + L3 : Nat) : Int), 0) := by
    have := getTextAt_text (p := p ++ uint n ++ uint (foldN m)) (t := q) (r := r) (by omega)
    rw [hT, ← hpl, hL1, hL2, hL3]
    simpa [List.append_assoc, Nat.add_assoc] using this
  have d1 := Lib.hid (fun w => getUint_at T (ahead.size : Nat) w (by omega) c1)
  have d2 := Lib.hid (fun w => getInt_at T ((ahead.size + L1 : Nat) : Int) w (by omega) c2)
  have d3 := Lib.hid (fun w => getText_at T ((ahead.size + L1 + L2 : Nat) : Int) w (by omega) c3)
  rw [show S q = s by rw [hq, S_data]] at d3
  rw [hq] at hTT s3
  have hTT' := hTT.symm
  have e3 := Lib.hid (fun w => text_any s w (by omega))
  clear c1 c2 c3 hT hL1 hL2 hL3 hp hq hr hpl hql hrl hTT
  go_enter Try.func10, Try.ntmps10
  go_wp2_with fail
  refine (uint_any n _ hn).mono ?_
  rintro e w1 ⟨rfl, hb1⟩
  go_wp2_with fail
  refine (int_any m _ h0 h1).mono ?_
  rintro e w2 ⟨rfl, hb2⟩
  go_wp2_with fail
  refine (e3.out _).mono ?_
  rintro e w3 ⟨rfl, hb3⟩
  go_wp2_with fail
  refine (d1.out _).mono ?_
  rintro e w4 ⟨rfl, rfl⟩
  go_wp2_with fail
  refine (d2.out _).mono ?_
  rintro e w4 ⟨rfl, rfl⟩
  go_wp2_with fail
  refine (d3.out _).mono ?_
  rintro e w4 ⟨rfl, rfl⟩
  go_wp2_with fail
  refine (ruint_any n _ hn).mono ?_
  rintro e w5 ⟨rfl, hb5⟩
  go_wp2_with fail
  go_ret
  exact ⟨ret_bool (by simp), hb1.then (hb2.then (hb3.then hb5))⟩
end Go.Proofs.Ytedlfjheiabhpaa
