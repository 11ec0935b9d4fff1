/-
  The walk of the law 'FrameJoined'.
-/
import Derived.Test.YtgfchhbekbmlcaaDoorLong
import Derived.Test.YtgfchhbekbmlcaaDoorAppend
namespace Go.Proofs.YtgfchhbekbmlcaaDoor
open Go Go.RowKit Go.Deep Go.ChangeShapes Go.WideShapes

theorem frames_len : ∀ ts : List (List UInt8), total ts ≤ 2048 → (ts.flatMap frame).length ≤ 12 * ts.length + total ts := by
  intro ts
  induction ts with
  | nil => intro _; simp
  | cons t ts ih =>
    intro h
    have e : total (t :: ts) = t.length + total ts := by simp [total]
    have h1 := ih (by omega)
    have h2 := uint_len_ten (n := t.length) (by omega)
    have h3 : (frame t).length = (uint t.length).length + t.length + 2 := by simp [frame, text, sumBytes]; omega
    rw [List.flatMap_cons, List.length_append, List.length_cons]
    omega

theorem scanned_append {ts us : List (List UInt8)} {l : List UInt8} (h : Scanned l us) : Scanned (ts.flatMap frame ++ l) (ts ++ us) := by
  obtain ⟨r, rfl, hr⟩ := h
  exact ⟨r, by rw [List.flatMap_append, List.append_assoc], hr⟩

set_option maxRecDepth 100000 in
set_option maxHeartbeats 1000000 in
theorem frameJoined_walk (v : Value) (s : ByteArray) (w : World) (hv : ∃ A c, ∃ ts : List (List UInt8), v = .slice A ts.length c ∧ Rd w 1 A ts.length (strCells ts) ∧ (∀ x ∈ ts, x.length ≤ maxLen) ∧ ts.length ≤ c ∧ c ≤ maxLen) (_hs : s.size ≤ maxLen) (ht : Tab w) :
    Calls Tryd.prog 8 #[v, .string s] w fun e w' => e = .returned (.bool true) ∧ Below w.heap.size w w' := by
  clear _hs
  have Ht := Lib.hid ht
  clear ht
  obtain ⟨A, ca, ts, rfl, hrd, _, hlc, hcm⟩ := hv
  have hlm : ts.length ≤ 9223372036854775807 := Nat.le_trans hlc hcm
  have Hrd := Lib.hid hrd
  have C := Lib.hid (long_any A ca ts w hrd (Nat.le_trans hlc hcm))
  clear hrd hlc hcm
  go_enter Tryd.func8, Tryd.ntmps8
  go_wp2_with fail
  refine C.out.mono ?_
  rintro e w1 ⟨b, rfl, hb1, hlen⟩
  cases b with
  | true =>
    go_wp2
    go_ret
    exact ⟨rfl, hb1⟩
  | false =>
    have hlen := hlen rfl
    by_cases hs : 2048 < s.size
    · go_wp2
      go_ret
      exact ⟨rfl, hb1⟩
    have hz : s.size < 1099511627776 := by omega
    have F := Lib.hid (fun k (hk : k < ts.length) w ht => frame_any (S ts[k]) w ht (by
      have h1 := total_take_le ts (k + 1)
      rw [List.take_succ_eq_append_getElem hk, total_snoc] at h1
      rw [S_size]; omega))
    have hfl : ∀ k, (S ((ts.take k).flatMap frame)).size ≤ 26624 := by
      intro k
      have h1 := total_take_le ts k
      have h2 := frames_len (ts.take k) (by omega)
      rw [List.length_take] at h2
      rw [S_size]; omega
    have Ht1 := Lib.hid (Ht.out.below hb1)
    have Hrd1 := Lib.hid (Hrd.out.below hb1)
    have C0 := Lib.hid (fun w ht => frame_any ⟨#[]⟩ w ht (by decide))
    have hf3 := frame_nil_len
    go_wp2
    go_loopw [5, 6] (fun acc i wr => ∃ k : Nat, acc = .string (S ((ts.take k).flatMap frame)) ∧ i = .int .i64 k ∧ k ≤ ts.length ∧ Below w1.heap.size w1 wr) (fun _ i _ => ts.length - (intOf i).toNat)
    case atStart => exact ⟨0, by simp [S], rfl, by omega, Below.refl _ _⟩
    case round =>
      obtain ⟨k, rfl, rfl, hk, hbel⟩ := hrel
      by_cases hkl : k < ts.length
      · obtain ⟨b, off, rfl, hba, e0⟩ := str_at (Hrd1.out.below hbel) hkl
        have hf0 := hfl k
        have hf1 := hfl (k + 1)
        have happ : S ((ts.take (k + 1)).flatMap frame) = S ((ts.take k).flatMap frame) ++ S (frame ts[k]) := by
          rw [S_append, List.take_succ_eq_append_getElem hkl, List.flatMap_append, List.flatMap_singleton]
        rw [happ, ByteArray.size_append] at hf1
        have G := Lib.hid (F.out k hkl)
        rw [S_toList] at G
        have Happ := Lib.hid happ
        have Hfl := Lib.hid hfl
        clear happ hfl
        go_wp2_with fail
        refine (G.out _ (Ht1.out.below hbel)).mono ?_
        rintro e w2 ⟨rfl, hb2⟩
        go_wp2_with fail
        go_roundw
        case rel => exact ⟨k + 1, by rw [Happ.out], by go_num, by omega, hbel.then hb2⟩
        case measure => simp [intOf]; omega
      · have hk' : k = ts.length := by omega
        subst hk'
        have hf0 := hfl ts.length
        rw [List.take_length] at hf0
        have hts : (S (ts.flatMap frame) ++ s).data.toList = ts.flatMap frame ++ s.data.toList := by
          rw [ByteArray.data_append, Array.toList_append, S_toList]
        have hsz : (S (ts.flatMap frame) ++ s).size < 1099511627776 := by rw [ByteArray.size_append]; omega
        have D1 := Lib.hid (fun w ht => scan_any (S (ts.flatMap frame) ++ s) w ht hsz)
        rw [hts] at D1
        have hlf : (ts.flatMap frame).length = (S (ts.flatMap frame)).size := by rw [S_size]
        have Hlf := Lib.hid hlf
        have Hfl := Lib.hid hfl
        clear hts hsz hlf hfl
        go_wp2_with fail
        refine (D1.out _ (Ht1.out.below hbel)).mono ?_
        rintro e w2 ⟨A1, c1, ts1, rfl, hsc1, rd1, hb2⟩
        have hbel2 := hbel.then hb2
        obtain ⟨N1, hN1⟩ : ∃ N, N = (ts1.flatMap frame).length := ⟨_, rfl⟩
        rw [← hN1]
        have Rd1 := Lib.hid rd1
        have HN1 := Lib.hid hN1
        clear rd1 hN1
        go_wp2_with fail
        refine (scan_any s _ (Ht1.out.below hbel2) hz).mono ?_
        rintro e w3 ⟨A2, c2, us, rfl, hsc2, rd2, hb3⟩
        have hbel3 := hbel2.then hb3
        have heq : ts1 = ts ++ us := scanned_inj _ _ _ (by rw [List.length_append, Hlf.out, ← Lib.size_eq]; omega) hsc1 (scanned_append hsc2)
        have hn : ts1.length = ts.length + us.length := by rw [heq, List.length_append]
        have hN : N1 = (S (ts.flatMap frame)).size + (us.flatMap frame).length := by rw [HN1.out, heq, List.flatMap_append, List.length_append, Hlf.out]
        have hul : us.length ≤ 2048 := by have := scanned_len hsc2; rw [← Lib.size_eq] at this; omega
        obtain ⟨N2, hN2⟩ : ∃ N, N = (us.flatMap frame).length := ⟨_, rfl⟩
        rw [← hN2] at hN
        rw [← hN2]
        have HN2 := Lib.hid hN2
        have Heq := Lib.hid heq
        have Hn := Lib.hid hn
        have Hsc2 := Lib.hid hsc2
        have Rd2 := Lib.hid rd2
        have Hb3 := Lib.hid hb3
        have Rdts := Lib.hid ((Hrd1.out.below hbel3).alloc (.cells #[] 9))
        have hN2b : N2 ≤ 2048 := by
          obtain ⟨r, hr, _⟩ := hsc2
          have := congrArg List.length hr
          rw [List.length_append, ← hN2, ← Lib.size_eq] at this
          omega
        clear rd2 heq hn hsc1 hsc2 hN2
        subst hN
        have hb4 : Below w3.heap.size w3 (w3.alloc (.cells #[] 9)) := Below.one _ _
        have hone : ∀ l : List (List UInt8), ∀ u ∈ strCells l, u.oneCell' = true := by intro l u hu; obtain ⟨x, _, rfl⟩ := List.mem_map.1 hu; rfl
        go_wp2_with (at_builtin; first
          | (refine wpList_append_rd rfl _ _ 26 rfl 9 (.string ⟨#[]⟩) 1 16 Tryd.underlying26 strInf rfl (by decide) w3.heap.size 0 [] _ w3 _ (made0' _ _ _) rfl hb4 hb4.size A ts.length ca (strCells ts) rfl Rdts.out (hone ts) (by unfold maxLen; omega) (by omega) ?_; intro v' w5 hown5 hbel5 hsz5 hle5 hgr5)
          | (go_must (refine wpList_append_rd rfl _ _ 26 rfl 9 (.string ⟨#[]⟩) 1 16 Tryd.underlying26 strInf rfl (by decide) w3.heap.size _ _ _ w3 _ hown5 rfl hbel5 hsz5 A2 us.length c2 (strCells us) rfl (Rd2.out.below hbel5) (hone us) (by unfold maxLen; omega) (by omega) ?_); intro v'' w6 hown6 hbel6 hsz6 hle6 hgr6))
        obtain ⟨B, cb, rfl, rdb⟩ := Rd.of_own hown6
        rw [show 0 + ts.length + us.length = ts1.length by rw [Nat.zero_add, Hn.out]] at *
        rw [show [] ++ strCells ts ++ strCells us = strCells ts1 by rw [List.nil_append, Heq.out, strCells, strCells, strCells, List.map_append]] at rdb
        have Rdb := Lib.hid rdb
        have hlt1 : ts1.length ≤ 1099511627776 := by rw [Hn.out]; omega
        have hlt2 : us.length ≤ 1099511627776 := by omega
        have hbel36 : Below w3.heap.size w3 w6 := hbel6
        have HT6 := Lib.hid (((Ht1.out.below hbel3)).below hbel36)
        clear rdb
        refine (rscan_any s _ hz).mono ?_
        rintro e w7 ⟨A3, c3, us', rfl, hsc3, rd3, hb7⟩
        have heq3 : us' = us := scanned_inj _ _ _ (by rw [← Lib.size_eq]; omega) hsc3 Hsc2.out
        subst heq3
        rw [← HN2.out]
        have Rd3 := Lib.hid rd3
        clear rd3 hsc3
        have Sm1 := Lib.hid (same_any A1 B c1 cb ts1 ts1 w7 (((Rd1.out.below Hb3.out).below hbel36).below hb7) (Rdb.out.below hb7) hlt1)
        clear hlm hlen hs hul hlt1 hone hown5 hown6 hgr5 hgr6 hle5 hle6 hsz5 hsz6 hb4
        go_wp2_with fail
        refine Sm1.out.mono ?_
        rintro e w8 ⟨rfl, hb8⟩
        first | rw [decide_eq_true rfl] | rw [decide_true]
        go_wp2_with fail
        refine (same_any A2 A3 c2 c3 us' us' w8 (((Rd2.out.below hbel36).below hb7).below hb8) (Rd3.out.below hb8) hlt2).mono ?_
        rintro e w9 ⟨rfl, hb9⟩
        first | rw [decide_eq_true rfl] | rw [decide_true]
        go_wp2_with fail
        refine (C0.out _ (((HT6.out.below hb7).below hb8).below hb9)).mono ?_
        rintro e w10 ⟨rfl, hb10⟩
        go_wp2_with fail
        go_ret
        refine ⟨rfl, ?_⟩
        exact hb1.then (hbel3.then ((((hbel36.then hb7).then hb8).then hb9).then hb10))
end Go.Proofs.YtgfchhbekbmlcaaDoor
