/-
  The walks of the laws 'ZigLong', 'ZigWrites', 'ZigPairs'.
-/
import Derived.Test.YtedlfjheiabhpaaZigWrite
namespace Go.Proofs.Ytedlfjheiabhpaa
open Go Go.RowKit

theorem zigWrites_walk (n : Nat) (m : Int) (s : ByteArray) (hn : n < 18446744073709551616) (h0 : -9223372036854775808 ≤ m) (h1 : m ≤ 9223372036854775807) (_hs : s.size ≤ maxLen) (w : World) :
    Calls Try.prog 5 #[.int .u64 n, .int .i64 m, .string s] w fun e w' => e = .returned (.bool true) ∧ Below w.heap.size w w' := by
  clear _hs
  by_cases hs : 4096 < s.size
  · go_enter Try.func5, Try.ntmps5
    go_wp2_with fail
    go_ret
    exact ⟨rfl, Below.refl _ _⟩
  · have hz : s.size < 1099511627776 := by omega
    go_enter Try.func5, Try.ntmps5
    go_wp2_with fail
    refine (uint_any n _ hn).mono ?_
    rintro e w1 ⟨rfl, hb1⟩
    go_wp2_with fail
    refine (ruint_any n _ hn).mono ?_
    rintro e w2 ⟨rfl, hb2⟩
    go_wp2_with fail
    refine (int_any m _ h0 h1).mono ?_
    rintro e w3 ⟨rfl, hb3⟩
    go_wp2_with fail
    refine (rint_any m _ h0 h1).mono ?_
    rintro e w4 ⟨rfl, hb4⟩
    go_wp2_with fail
    refine (text_any s _ hz).mono ?_
    rintro e w5 ⟨rfl, hb5⟩
    go_wp2_with fail
    refine (rtext_any s _ hz).mono ?_
    rintro e w6 ⟨rfl, hb6⟩
    go_wp2_with fail
    go_ret
    exact ⟨rfl, hb1.then (hb2.then (hb3.then (hb4.then (hb5.then hb6))))⟩

theorem text_append_inj {a b x y : List UInt8} (ha : a.length < 18446744073709551616) (hb : b.length < 18446744073709551616) (h : text a ++ x = text b ++ y) : a = b ∧ x = y := by
  unfold text at h
  rw [List.append_assoc, List.append_assoc] at h
  obtain ⟨h1, h2⟩ := uint_append_inj ha hb h
  have e1 := congrArg (List.take a.length) h2
  have e2 := congrArg (List.drop a.length) h2
  rw [List.take_left] at e1
  rw [List.drop_left] at e2
  rw [h1, List.take_left] at e1
  rw [h1, List.drop_left] at e2
  exact ⟨e1, e2⟩

theorem pairs_ne {fa fb fc fd : Nat} {s t : ByteArray} (ha : fa < 18446744073709551616) (hc : fc < 18446744073709551616) (hb : fb < 18446744073709551616) (hd : fd < 18446744073709551616) (hs : s.size < 1099511627776) (ht : t.size < 1099511627776)
    (h : fa = fc → fb = fd → s = t → False) :
    ((S (uint fa) ++ S (text s.data.toList) ++ S (uint fb)).toList == (S (uint fc) ++ S (text t.data.toList) ++ S (uint fd)).toList) = false := by
  rw [beq_eq_false_iff_ne, Lib.toList_data, Lib.toList_data, S_append, S_append, S_append, S_append, S_toList, S_toList]
  intro e
  rw [List.append_assoc, List.append_assoc] at e
  obtain ⟨h1, e⟩ := uint_append_inj ha hc e
  rw [Lib.size_eq] at hs ht
  obtain ⟨h2, e⟩ := text_append_inj (by omega) (by omega) e
  obtain ⟨h3, _⟩ := uint_append_inj (x := []) (y := []) hb hd (by simpa using e)
  exact h h1 h3 (by rw [← S_data s, ← S_data t, h2])

theorem zigPairs_walk (a b : Int) (s : ByteArray) (c d : Int) (t : ByteArray) (ha0 : -9223372036854775808 ≤ a) (ha1 : a ≤ 9223372036854775807) (hb0 : -9223372036854775808 ≤ b) (hb1 : b ≤ 9223372036854775807) (_hs : s.size ≤ maxLen)
    (hc0 : -9223372036854775808 ≤ c) (hc1 : c ≤ 9223372036854775807) (hd0 : -9223372036854775808 ≤ d) (hd1 : d ≤ 9223372036854775807) (_ht : t.size ≤ maxLen) (w : World) :
    Calls Try.prog 6 #[.int .i64 a, .int .i64 b, .string s, .int .i64 c, .int .i64 d, .string t] w fun e w' => e = .returned (.bool true) ∧ Below w.heap.size w w' := by
  clear _hs _ht
  by_cases hs : 1024 < s.size
  · go_enter Try.func6, Try.ntmps6
    go_wp2_with fail
    go_ret
    exact ⟨rfl, Below.refl _ _⟩
  by_cases ht : 1024 < t.size
  · go_enter Try.func6, Try.ntmps6
    go_wp2_with fail
    go_ret
    exact ⟨rfl, Below.refl _ _⟩
  have hz : s.size < 1099511627776 := by omega
  have hz' : t.size < 1099511627776 := by omega
  have q1 : (S (uint (foldN a))).size ≤ 10 := by rw [S_size]; exact uint_len_ten (foldN_lt ha0 ha1)
  have q2 : (S (uint (foldN b))).size ≤ 10 := by rw [S_size]; exact uint_len_ten (foldN_lt hb0 hb1)
  have q3 : (S (uint (foldN c))).size ≤ 10 := by rw [S_size]; exact uint_len_ten (foldN_lt hc0 hc1)
  have q4 : (S (uint (foldN d))).size ≤ 10 := by rw [S_size]; exact uint_len_ten (foldN_lt hd0 hd1)
  have q5 : (S (text s.data.toList)).size ≤ 1034 := by rw [S_size, text, List.length_append, ← Lib.size_eq]; have := uint_len_ten (n := s.size) (by omega); omega
  have q6 : (S (text t.data.toList)).size ≤ 1034 := by rw [S_size, text, List.length_append, ← Lib.size_eq]; have := uint_len_ten (n := t.size) (by omega); omega
  have hb1' := hb1
  clear hb1
  by_cases hac : a = c
  · subst hac
    by_cases hbd : b = d
    · subst hbd
      by_cases hst : s = t
      · subst hst
        go_enter Try.func6, Try.ntmps6
        go_wp2_with fail
        refine (int_any a _ ha0 ha1).mono ?_
        rintro e w1 ⟨rfl, hb1⟩
        go_wp2_with fail
        refine (text_any s _ hz).mono ?_
        rintro e w2 ⟨rfl, hb2⟩
        go_wp2_with fail
        refine (int_any b _ hb0 hb1').mono ?_
        rintro e w3 ⟨rfl, hb3⟩
        go_wp2_with fail
        refine (int_any _ _ hc0 hc1).mono ?_
        rintro e w4 ⟨rfl, hb4⟩
        go_wp2_with fail
        refine (text_any _ _ hz').mono ?_
        rintro e w5 ⟨rfl, hb5⟩
        go_wp2_with fail
        refine (int_any _ _ hd0 hd1).mono ?_
        rintro e w6 ⟨rfl, hb6⟩
        go_wp2_with fail
        refine (rint_any a _ ha0 ha1).mono ?_
        rintro e w7 ⟨rfl, hb7⟩
        go_wp2_with fail
        refine (rtext_any s _ hz).mono ?_
        rintro e w8 ⟨rfl, hb8⟩
        go_wp2_with fail
        refine (rint_any b _ hb0 hb1').mono ?_
        rintro e w9 ⟨rfl, hb9⟩
        go_wp2_with fail
        go_ret
        exact ⟨rfl, hb1.then (hb2.then (hb3.then (hb4.then (hb5.then (hb6.then (hb7.then (hb8.then hb9)))))))⟩
      · have hst' : (s.toList == t.toList) = false := by rw [Lib.toList_data, Lib.toList_data, beq_eq_false_iff_ne]; intro e; exact hst (by rw [← S_data s, ← S_data t, e])
        have hxy := pairs_ne (fa := foldN a) (fb := foldN b) (fc := foldN a) (fd := foldN b) (s := s) (t := t) (foldN_lt ha0 ha1) (foldN_lt ha0 ha1) (foldN_lt hb0 hb1') (foldN_lt hb0 hb1') hz hz' (fun _ _ e => hst e)
        clear hst
        go_enter Try.func6, Try.ntmps6
        go_wp2_with fail
        refine (int_any a _ ha0 ha1).mono ?_
        rintro e w1 ⟨rfl, hb1⟩
        go_wp2_with fail
        refine (text_any s _ hz).mono ?_
        rintro e w2 ⟨rfl, hb2⟩
        go_wp2_with fail
        refine (int_any b _ hb0 hb1').mono ?_
        rintro e w3 ⟨rfl, hb3⟩
        go_wp2_with fail
        refine (int_any _ _ hc0 hc1).mono ?_
        rintro e w4 ⟨rfl, hb4⟩
        go_wp2_with fail
        refine (text_any _ _ hz').mono ?_
        rintro e w5 ⟨rfl, hb5⟩
        go_wp2_with fail
        refine (int_any _ _ hd0 hd1).mono ?_
        rintro e w6 ⟨rfl, hb6⟩
        go_wp2_with fail
        refine (rint_any a _ ha0 ha1).mono ?_
        rintro e w7 ⟨rfl, hb7⟩
        go_wp2_with fail
        refine (rtext_any s _ hz).mono ?_
        rintro e w8 ⟨rfl, hb8⟩
        go_wp2_with fail
        refine (rint_any b _ hb0 hb1').mono ?_
        rintro e w9 ⟨rfl, hb9⟩
        go_wp2_with fail
        go_ret
        exact ⟨rfl, hb1.then (hb2.then (hb3.then (hb4.then (hb5.then (hb6.then (hb7.then (hb8.then hb9)))))))⟩
    · have hxy := pairs_ne (fa := foldN a) (fb := foldN b) (fc := foldN a) (fd := foldN d) (s := s) (t := t) (foldN_lt ha0 ha1) (foldN_lt ha0 ha1) (foldN_lt hb0 hb1') (foldN_lt hd0 hd1) hz hz' (fun _ e _ => hbd (foldN_inj e))
      have hbd' : (b == d) = false := beq_eq_false_iff_ne.2 hbd
      clear hbd
      go_enter Try.func6, Try.ntmps6
      go_wp2_with fail
      refine (int_any a _ ha0 ha1).mono ?_
      rintro e w1 ⟨rfl, hb1⟩
      go_wp2_with fail
      refine (text_any s _ hz).mono ?_
      rintro e w2 ⟨rfl, hb2⟩
      go_wp2_with fail
      refine (int_any b _ hb0 hb1').mono ?_
      rintro e w3 ⟨rfl, hb3⟩
      go_wp2_with fail
      refine (int_any _ _ hc0 hc1).mono ?_
      rintro e w4 ⟨rfl, hb4⟩
      go_wp2_with fail
      refine (text_any _ _ hz').mono ?_
      rintro e w5 ⟨rfl, hb5⟩
      go_wp2_with fail
      refine (int_any _ _ hd0 hd1).mono ?_
      rintro e w6 ⟨rfl, hb6⟩
      go_wp2_with fail
      refine (rint_any a _ ha0 ha1).mono ?_
      rintro e w7 ⟨rfl, hb7⟩
      go_wp2_with fail
      refine (rtext_any s _ hz).mono ?_
      rintro e w8 ⟨rfl, hb8⟩
      go_wp2_with fail
      refine (rint_any b _ hb0 hb1').mono ?_
      rintro e w9 ⟨rfl, hb9⟩
      go_wp2_with fail
      go_ret
      exact ⟨rfl, hb1.then (hb2.then (hb3.then (hb4.then (hb5.then (hb6.then (hb7.then (hb8.then hb9)))))))⟩
  · have hxy := pairs_ne (fa := foldN a) (fb := foldN b) (fc := foldN c) (fd := foldN d) (s := s) (t := t) (foldN_lt ha0 ha1) (foldN_lt hc0 hc1) (foldN_lt hb0 hb1') (foldN_lt hd0 hd1) hz hz' (fun e _ _ => hac (foldN_inj e))
    have hac' : (a == c) = false := beq_eq_false_iff_ne.2 hac
    clear hac
    go_enter Try.func6, Try.ntmps6
    go_wp2_with fail
    refine (int_any a _ ha0 ha1).mono ?_
    rintro e w1 ⟨rfl, hb1⟩
    go_wp2_with fail
    refine (text_any s _ hz).mono ?_
    rintro e w2 ⟨rfl, hb2⟩
    go_wp2_with fail
    refine (int_any b _ hb0 hb1').mono ?_
    rintro e w3 ⟨rfl, hb3⟩
    go_wp2_with fail
    refine (int_any _ _ hc0 hc1).mono ?_
    rintro e w4 ⟨rfl, hb4⟩
    go_wp2_with fail
    refine (text_any _ _ hz').mono ?_
    rintro e w5 ⟨rfl, hb5⟩
    go_wp2_with fail
    refine (int_any _ _ hd0 hd1).mono ?_
    rintro e w6 ⟨rfl, hb6⟩
    go_wp2_with fail
    refine (rint_any a _ ha0 ha1).mono ?_
    rintro e w7 ⟨rfl, hb7⟩
    go_wp2_with fail
    refine (rtext_any s _ hz).mono ?_
    rintro e w8 ⟨rfl, hb8⟩
    go_wp2_with fail
    refine (rint_any b _ hb0 hb1').mono ?_
    rintro e w9 ⟨rfl, hb9⟩
    go_wp2_with fail
    go_ret
    exact ⟨rfl, hb1.then (hb2.then (hb3.then (hb4.then (hb5.then (hb6.then (hb7.then (hb8.then hb9)))))))⟩
end Go.Proofs.Ytedlfjheiabhpaa
