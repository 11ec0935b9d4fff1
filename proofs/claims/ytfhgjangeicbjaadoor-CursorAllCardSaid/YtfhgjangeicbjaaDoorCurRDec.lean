/-
  The walk of the document's Decode.
-/
import Derived.Test.YtfhgjangeicbjaaDoorCurDec
import Derived.Test.YtfhgjangeicbjaaDoorCurREnc
import Derived.Test.YtfhgjangeicbjaaDoorRScan
namespace Go.Proofs.YtfhgjangeicbjaaDoor
open Go Go.RowKit

/-- a digit's number; below 0: it is none -/
def digI (c : UInt8) : Int := if dig c < 16 then (dig c : Int) else -1
theorem digI_yes {c : UInt8} (h : dig c < 16) : digI c = (dig c : Int) := by unfold digI; rw [if_pos h]
theorem digI_no {c : UInt8} (h : ¬ dig c < 16) : digI c = -1 := by unfold digI; rw [if_neg h]

set_option maxRecDepth 100000 in
theorem rdigit_any (c : UInt8) (w : World) :
    Calls Tryd.prog 28 #[.int .u8 (c.toNat : Int)] w fun e w' => e = .returned (.int .i64 (digI c)) ∧ w = w' := by
  by_cases hd : dig c < 16
  · obtain ⟨d, hde⟩ : ∃ d, d = dig c := ⟨_, rfl⟩
    have hx := dig_cases hde hd
    have Hr := Lib.hid (digI_yes hd)
    rw [← hde] at hd Hr
    clear hde
    generalize c.toNat = x at *
    rcases hx with ⟨x1, x2, hxd⟩ | ⟨x1, x2, hxd⟩
    all_goals
      subst hxd
      go_enter Tryd.func28, Tryd.ntmps28
      go_wp2_with fail
      go_ret
      exact ⟨ret_int (by rw [Hr.out] <;> (first | rfl | omega)), rfl⟩
  · have hx := no_cases (c := c) (by have := dig_le c; omega)
    have Hr := Lib.hid (digI_no hd)
    have hlt := c.toNat_lt
    generalize c.toNat = x at *
    clear hd
    rcases hx with hr | ⟨hr, hr'⟩ | hr
    all_goals
      go_enter Tryd.func28, Tryd.ntmps28
      go_wp2_with fail
      go_ret
      exact ⟨ret_int (by rw [Hr.out]), rfl⟩

/-- digits that are read two by two, as far as they go -/
theorem dec_pairs {l acc : List UInt8} {j : Nat} (hj : j = 2 * acc.length) (hjl : j ≤ l.length) (hend : ¬ j + 1 < l.length) (ha : hex acc = l.take j) (h : DecOf (hex acc) none) : DecOf l none := fun c hr he => by
  have hl := congrArg List.length he
  rw [token, hex_length] at hl
  have : l.take j = l := List.take_of_length_le (by omega)
  rw [this] at ha
  exact h c hr (ha.trans he)
theorem dec_pairs_eq {l acc : List UInt8} {j : Nat} (hj : j = 2 * acc.length) (hjl : j ≤ l.length) (hend : ¬ j + 1 < l.length) (ha : hex acc = l.take j) (c : Cur) (he : l = token c) : hex acc = token c := by
  have hl := congrArg List.length he
  rw [token, hex_length] at hl
  have : l.take j = l := List.take_of_length_le (by omega)
  rw [this] at ha
  exact ha.trans he
theorem dec_first {l t : List UInt8} {ts : List (List UInt8)} (hl : l.length < 18446744073709551616) (hs : Scanned l (t :: ts)) (h : NoBody t) : DecOf (hex l) none := fun c hr he => by
  have e := (scanned_body hl hs he).1
  simp only [List.cons.injEq] at e
  exact h c hr e.1
theorem body_same {t q : List UInt8} {a a' a'' : Int} {v u : Nat} (h : getTextAt t 0 = (q, a, 0)) (h1 : getAt t a = (v, a', 0)) (h2 : getAt t a' = (u, a'', 0)) {c : Cur} (hr : rightB c = true) (hb : t = body c) : c = ⟨S q, v, (u : Int) - 1⟩ := by
  subst hb
  obtain ⟨a1, a2, e1, e2, e3⟩ := body_reads hr
  have hB := rightB_bounds hr
  rw [e1] at h
  simp only [Prod.mk.injEq, and_true] at h
  rw [← h.2, e2] at h1
  simp only [Prod.mk.injEq, and_true] at h1
  rw [← h1.2, e3] at h2
  simp only [Prod.mk.injEq] at h2
  rw [← h.1, S_data, ← h1.1, ← h2.1]
  have e4 : ((c.T.toNat : Nat) : Int) = c.T := by omega
  have e5 : (((c.ID + 1).toNat : Nat) : Int) - 1 = c.ID := by omega
  rw [e4, e5]
theorem dec_other {l t q : List UInt8} {ts : List (List UInt8)} {a a' a'' : Int} {v u : Nat} (hl : l.length < 18446744073709551616) (hs : Scanned l (t :: ts)) (h : getTextAt t 0 = (q, a, 0)) (h1 : getAt t a = (v, a', 0)) (h2 : getAt t a' = (u, a'', 0))
    (hn : rightB ⟨S q, v, (u : Int) - 1⟩ = true → hex l ≠ token ⟨S q, v, (u : Int) - 1⟩) : DecOf (hex l) none := fun c hr he => by
  have e := (scanned_body hl hs he).1
  simp only [List.cons.injEq] at e
  have hc := body_same h h1 h2 hr e.1
  subst hc
  exact hn hr he

set_option maxRecDepth 100000 in
set_option maxHeartbeats 4000000 in
theorem rdecode_any (s : ByteArray) (w : World) (hs : s.size < 1099511627776) :
    Calls Tryd.prog 11 #[.string s] w (RetDec s.data.toList w) := by
  go_enter Tryd.func11, Tryd.ntmps11
  go_wp2
  go_loopw [4, 5] (fun bv ix wr => ∃ (j : Nat) (acc : List UInt8) (O : Option Addr) (co : Nat), ix = .int .i64 j ∧ j = 2 * acc.length ∧ j ≤ s.size ∧ hex acc = s.data.toList.take j ∧ bv = .slice O acc.length co ∧ Value.slice O acc.length co ≠ .slice none 0 0 ∧
      wr.ownsRow (w.heap.size + 1) 5 1 (.slice O acc.length co) acc.length (cellsOf acc) ∧ Below (w.heap.size + 1) (w.alloc (.cells #[.string ⟨#[]⟩, .int .i64 0, .int .i64 0] 28)) wr) (fun _ ix _ => s.size - (intOf ix).toNat)
  case atStart => exact ⟨0, [], _, 0, rfl, by simp, by omega, rfl, rfl, by simp, made0 _ _ _ _, made0_below _ _ _⟩
  case round =>
    obtain ⟨j, acc, O, co, rfl, hj, hjs, hacc, rfl, hnn, hown, hbel⟩ := hrel
    have Hacc := Lib.hid hacc
    have Hj := Lib.hid hj
    have hz := box_lt hbel
    have hll := Lib.size_eq s
    have hk1 : wr.heap[w.heap.size]? = some (.cells #[.string ⟨#[]⟩, .int .i64 0, .int .i64 0] 28) := (hbel.block _ (by omega)).trans (heap_alloc_new w _)
    obtain ⟨⟨p0, p1, p2⟩, f0, f1, f2⟩ := three_cells hk1
    have Hbel := Lib.hid (below_three (boxed hbel))
    have hal : acc.length ≤ s.size := by omega
    have Hll := Lib.hid hll
    by_cases hlt : j + 1 < s.size
    · clear hll hj
      have hlt0 : j < s.size := by omega
      have D1 := Lib.hid (fun w => rdigit_any s[j] w)
      have D2 := Lib.hid (fun w => rdigit_any s[j + 1] w)
      have i0 : (j : Int) < (s.size : Int) := by omega
      have i1 : (j : Int) + 1 < (s.size : Int) := by omega
      have i2 : (0 : Int) ≤ (j : Int) + 1 := by omega
      have i3 : ((j : Int) + 1).toNat = j + 1 := by omega
      by_cases hx : dig s[j] < 16
      · rw [digI_yes hx] at D1
        by_cases hy : dig s[j + 1] < 16
        · rw [digI_yes hy] at D2
          have Hx : Hid (hexd (dig s[j]) = s[j]) := hexd_dig hx
          have Hy : Hid (hexd (dig s[j + 1]) = s[j + 1]) := hexd_dig hy
          have Tk := Lib.hid (take_next hlt0)
          have Tk2 := Lib.hid (take_next hlt)
          generalize dig s[j] = x at *
          generalize dig s[j + 1] = y at *
          have hx16 : (x : Int) < 16 := by omega
          have hy16 : (y : Int) < 16 := by omega
          have hbt : (byt (16 * x + y)).toNat = 16 * x + y := u8_lt _ (by omega)
          go_wp2_with fail
          refine (D1.out _).mono ?_
          rintro e w1 ⟨rfl, rfl⟩
          go_wp2_with fail
          refine (D2.out _).mono ?_
          rintro e w1 ⟨rfl, rfl⟩
          go_wp2_with (at_builtin; go_must (refine wpList_append_byte rfl _ _ 38 rfl 5 Tryd.underlying38 (by kernel_rfl) (w.heap.size + 1) acc.length acc _ (w.alloc (.cells #[.string ⟨#[]⟩, .int .i64 0, .int .i64 0] 28)) wr _ (byt (16 * x + y)) ?_ hown rfl hbel (by omega) rfl (by omega) ?_); rotate_left; intro v' w2 hown2 hgr2 hb2 hsz2 hlt2 hnn2)
          · go_roundw
            case rel =>
              obtain ⟨O', co', rfl⟩ := own_form hown2
              exact ⟨j + 2, acc ++ [byt (16 * x + y)], O', co', by go_num, by rw [List.length_append, List.length_cons, List.length_nil]; have := Hj.out; omega, by omega, by rw [hex_half hx hy, Tk2.out, Tk.out, Hacc.out, Hx.out, Hy.out], by simp, by first | exact hnn2 | simp, by simpa using hown2, hb2⟩
            case measure => simp [intOf]; omega
          · rw [hbt]; omega
        · rw [digI_no hy] at D2
          have hno := dec_nodigits (no_digit hlt (by have := dig_le s[j + 1]; omega))
          have Hno := Lib.hid hno
          clear hno hx hy hown hbel
          go_wp2_with fail
          refine (D1.out _).mono ?_
          rintro e w1 ⟨rfl, rfl⟩
          go_wp2_with fail
          refine (D2.out _).mono ?_
          rintro e w1 ⟨rfl, rfl⟩
          go_wp2_with fail
          refine bodyPost_ret (v := decVal none) (by rw [results_cell_tmp rfl]; go_simp; rfl) rfl ⟨none, rfl, Hno.out, Hbel.out _ _ _⟩
      · rw [digI_no hx] at D1
        have hno := dec_nodigits (no_digit hlt0 (by have := dig_le s[j]; omega))
        have Hno := Lib.hid hno
        clear hno hx hown hbel
        go_wp2_with fail
        refine (D1.out _).mono ?_
        rintro e w1 ⟨rfl, rfl⟩
        go_wp2_with fail
        refine (D2.out _).mono ?_
        rintro e w1 ⟨rfl, rfl⟩
        go_wp2_with fail
        refine bodyPost_ret (v := decVal none) (by rw [results_cell_tmp rfl]; go_simp; rfl) rfl ⟨none, rfl, Hno.out, Hbel.out _ _ _⟩
    · have hnlt : decide ((j : Int) + 1 < (s.size : Int)) = false := by simp; omega
      have cv := run_ownedBytes_string (P := Tryd.prog) (src := 38) (dst := 9) hown Tryd.underlying38 Tryd.underlying5 Tryd.underlying9 hnn
      have PE := Lib.hid (dec_pairs_eq (l := s.data.toList) hj (by omega) (by omega) hacc)
      have P := Lib.hid (fun h => dec_pairs (l := s.data.toList) hj (by omega) (by omega) hacc h)
      have RS := Lib.hid (fun w => rscan_any (S acc) w (by rw [S_size]; omega))
      rw [S_toList] at RS
      clear hown hnn hacc hj hll
      go_wp2_with fail
      refine (RS.out _).mono ?_
      rintro e w2 ⟨A, ca, ts, rfl, hsc, hrd, hb2⟩
      have hk2 := block_kept hb2 hk1
      obtain ⟨⟨p0', p1', p2'⟩, f0', f1', f2'⟩ := three_cells hk2
      have hbel2 := (boxed hbel).then hb2
      have HbelE := Lib.hid (below_three hbel2)
      have Hbel2 := Lib.hid hbel2
      have Hk2 := Lib.hid hk2
      have Hsc := Lib.hid hsc
      clear hk1 hk2 hb2 hbel hbel2 hsc p0 p1 p2 f0 f1 f2 cv
      rcases ts with _ | ⟨t, ts⟩
      · have D := Lib.hid (dec_frames (by omega) Hsc.out (by simp))
        go_wp2_with fail
        refine bodyPost_ret (v := decVal none) (by rw [results_cell_tmp rfl]; go_simp; rfl) rfl ⟨none, rfl, P.out D.out, HbelE.out _ _ _⟩
      · obtain ⟨g, off, rfl, hgl, hcell⟩ := str_at hrd (i := 0) (by simp)
        rw [List.getElem_cons_zero, Nat.add_zero] at hcell
        have htl : t.length < acc.length + 1 := by
          obtain ⟨r, e, _⟩ := Hsc.out
          have := congrArg List.length e
          have := frame_len_pos t
          rw [List.length_append, List.flatMap_cons, List.length_append] at *
          omega
        have hn0 : (((t :: ts).length : Int) == 0) = false := beq_eq_false_iff_ne.2 (by simp only [List.length_cons]; omega)
        have hpos : (0 : Int) < ((t :: ts).length : Int) := by simp only [List.length_cons]; omega
        generalize (t :: ts).length = n at hn0 hpos
        have htz : (S t).size = t.length := S_size t
        have htz2 : (S t).size < 1099511627776 := by omega
        have G := Lib.hid (fun w => rgetText_any (S t) 0 w htz2)
        rw [S_toList] at G
        obtain ⟨⟨q, a1, e0⟩, hX⟩ : ∃ X, X = getTextAt t 0 := ⟨_, rfl⟩
        obtain ⟨⟨v, a2, e1⟩, hY⟩ : ∃ Y, Y = getAt t a1 := ⟨_, rfl⟩
        obtain ⟨⟨u, a3, e2⟩, hZ⟩ : ∃ Z, Z = getAt t a2 := ⟨_, rfl⟩
        have U1 := Lib.hid (fun w => rgetUint_any (S t) a1 w htz2)
        have U2 := Lib.hid (fun w => rgetUint_any (S t) a2 w htz2)
        have hv := getAt_lt t a1
        have hu := getAt_lt t a2
        rw [S_toList] at U1 U2
        rw [← hX] at G
        rw [← hY] at hv U1
        rw [← hZ] at hu U2
        simp only at hv hu
        have HX := Lib.hid hX
        have HY := Lib.hid hY
        have HZ := Lib.hid hZ
        have hal2 : acc.length < 18446744073709551616 := by omega
        have Hal2 := Lib.hid hal2
        clear hX hY hZ hrd htz2 hal2
        go_wp2_with fail
        refine (G.out _).mono ?_
        rintro e w3 ⟨rfl, hb3⟩
        have hcell3 := keepc hb3 hcell
        go_wp2_with fail
        refine (U1.out _).mono ?_
        rintro e w4 ⟨rfl, hb4⟩
        have hcell4 := keepc hb4 hcell3
        go_wp2_with fail
        refine (U2.out _).mono ?_
        rintro e w5 ⟨rfl, hb5⟩
        have hb25 := (hb3.then hb4).then hb5
        have hk5 := block_kept hb25 Hk2.out
        obtain ⟨⟨r0, r1, r2⟩, s0, s1, s2⟩ := three_cells hk5
        have HbelF := Lib.hid (below_three (Hbel2.out.then hb25))
        have HbelF' := Lib.hid (Hbel2.out.then hb25)
        have Hk5 := Lib.hid hk5
        clear hb3 hb4 hb5 hb25 hcell hcell3 hcell4 hk5 p0' p1' p2' f0' f1' f2'
        by_cases he0 : e0 = 0
        · subst he0
          by_cases he1 : e1 = 0
          · subst he1
            by_cases he2 : e2 = 0
            · subst he2
              have Do := Lib.hid (fun hn => dec_other Hal2.out Hsc.out HX.out.symm HY.out.symm HZ.out.symm hn)
              by_cases hv2 : 1099511627776 ≤ v
              · have D := Lib.hid (dec_first Hal2.out Hsc.out (nobody_uint HX.out.symm HY.out.symm (.inr hv2)))
                have hd : decide ((1099511627776 : Int) ≤ (v : Int)) = true := by simp; omega
                clear hv2 hv hu
                go_wp2_with fail
                refine bodyPost_ret (v := decVal none) (by rw [results_cell_tmp rfl]; go_simp; rfl) rfl ⟨none, rfl, P.out D.out, HbelF.out _ _ _⟩
              · have hd : decide ((1099511627776 : Int) ≤ (v : Int)) = false := by simp; omega
                have hvi : (v : Int) < 1099511627776 := by omega
                by_cases hu2 : 200 < u
                · have D := Lib.hid (dec_first Hal2.out Hsc.out (nobody_last HX.out.symm HY.out.symm HZ.out.symm (.inr (.inr (.inl hu2)))))
                  have hd2 : decide ((200 : Int) < (u : Int)) = true := by simp; omega
                  clear hv2 hu2 hv hu
                  go_wp2_with fail
                  refine bodyPost_ret (v := decVal none) (by rw [results_cell_tmp rfl]; go_simp; rfl) rfl ⟨none, rfl, P.out D.out, HbelF.out _ _ _⟩
                · have hd2 : decide ((200 : Int) < (u : Int)) = false := by simp; omega
                  have hui : (u : Int) ≤ 200 := by omega
                  clear hv2 hu2 hv hu
                  rcases Bool.eq_false_or_eq_true (rightB ⟨S q, v, (u : Int) - 1⟩) with hR | hR
                  · have R := Lib.hid (fun w => rencode_ok ⟨S q, v, (u : Int) - 1⟩ w hR)
                    unfold curVal at R
                    have HR := Lib.hid hR
                    clear hR
                    go_wp2_with fail
                    refine (R.out _).mono ?_
                    rintro e w6 ⟨rfl, hb6⟩
                    have hk6 := block_kept hb6 ((Lib.alloc_old w5 _ w.heap.size (Array.getElem?_eq_some_iff.1 Hk5.out).1).trans Hk5.out)
                    have hc6 := block_kept hb6 (heap_alloc_new w5 _)
                    obtain ⟨⟨p0, p1, p2⟩, f0, f1, f2⟩ := three_cells hk6
                    obtain ⟨⟨c0, c1, c2⟩, -⟩ := three_cells hc6
                    have Hbel6 := Lib.hid (below_three ((HbelF'.out).then hb6.allocl))
                    clear hk6 hc6 hb6 r0 r1 r2 s0 s1 s2
                    have htz6 : (S (token ⟨S q, v, (u : Int) - 1⟩)).data.toList = token ⟨S q, v, (u : Int) - 1⟩ := S_toList _
                    by_cases heq : token ⟨S q, v, (u : Int) - 1⟩ = s.data.toList
                    · have hst : S (token ⟨S q, v, (u : Int) - 1⟩) = s := by rw [heq, S_data]
                      have Heq := Lib.hid heq
                      rw [hst]
                      clear heq htz6
                      go_wp2_with fail
                      refine bodyPost_ret (v := decVal (some ⟨S q, v, (u : Int) - 1⟩)) (by rw [results_cell_tmp rfl]; go_simp; rfl) rfl ⟨some ⟨S q, v, (u : Int) - 1⟩, rfl, ⟨HR.out, Heq.out.symm⟩, Hbel6.out _ _ _⟩
                    · have hne : S (token ⟨S q, v, (u : Int) - 1⟩) ≠ s := fun h => heq (by rw [← h, S_toList])
                      have Df : Hid (DecOf s.data.toList none) := fun c' hr he => by
                        have h1 := PE.out c' he
                        have e := (scanned_body Hal2.out Hsc.out h1).1
                        simp only [List.cons.injEq] at e
                        have hc := body_same HX.out.symm HY.out.symm HZ.out.symm hr e.1
                        subst hc
                        exact heq he.symm
                      clear heq htz6 R
                      generalize S (token ⟨S q, v, (u : Int) - 1⟩) = T6 at *
                      have hne2 : (T6.toList == s.toList) = false := by
                        rw [beq_eq_false_iff_ne, Lib.toList_data, Lib.toList_data]
                        intro h
                        exact hne (by rw [← S_data T6, ← S_data s, h])
                      go_wp2_with fail
                      refine bodyPost_ret (v := decVal none) (by rw [results_cell_tmp rfl]; go_simp; rfl) rfl ⟨none, rfl, Df.out, Hbel6.out _ _ _⟩
                  · have R := Lib.hid (fun w => rencode_no ⟨S q, v, (u : Int) - 1⟩ w hR)
                    have D := Lib.hid (Do.out (fun h => by rw [hR] at h; cases h))
                    unfold curVal at R
                    clear hR
                    go_wp2_with fail
                    refine (R.out _).mono ?_
                    rintro e w6 ⟨rfl, hb6⟩
                    have hk6 := block_kept hb6 ((Lib.alloc_old w5 _ w.heap.size (Array.getElem?_eq_some_iff.1 Hk5.out).1).trans Hk5.out)
                    have hc6 := block_kept hb6 (heap_alloc_new w5 _)
                    obtain ⟨⟨p0, p1, p2⟩, f0, f1, f2⟩ := three_cells hk6
                    obtain ⟨⟨c0, c1, c2⟩, -⟩ := three_cells hc6
                    have Hbel6 := Lib.hid (below_three ((HbelF'.out).then hb6.allocl))
                    clear hk6 hc6 hb6 r0 r1 r2 s0 s1 s2
                    go_wp2_with fail
                    refine bodyPost_ret (v := decVal none) (by rw [results_cell_tmp rfl]; go_simp; rfl) rfl ⟨none, rfl, P.out D.out, Hbel6.out _ _ _⟩
            · have D := Lib.hid (dec_first Hal2.out Hsc.out (nobody_last HX.out.symm HY.out.symm HZ.out.symm (.inl he2)))
              have hne : ((e2 : Int) != 0) = true := by rw [bne_iff_ne]; omega
              go_wp2_with fail
              refine bodyPost_ret (v := decVal none) (by rw [results_cell_tmp rfl]; go_simp; rfl) rfl ⟨none, rfl, P.out D.out, HbelF.out _ _ _⟩
          · have D := Lib.hid (dec_first Hal2.out Hsc.out (nobody_uint HX.out.symm HY.out.symm (.inl he1)))
            have hne : ((e1 : Int) != 0) = true := by rw [bne_iff_ne]; omega
            go_wp2_with fail
            refine bodyPost_ret (v := decVal none) (by rw [results_cell_tmp rfl]; go_simp; rfl) rfl ⟨none, rfl, P.out D.out, HbelF.out _ _ _⟩
        · have D := Lib.hid (dec_first Hal2.out Hsc.out (nobody_text HX.out.symm he0))
          have hne : ((e0 : Int) != 0) = true := by rw [bne_iff_ne]; omega
          go_wp2_with fail
          refine bodyPost_ret (v := decVal none) (by rw [results_cell_tmp rfl]; go_simp; rfl) rfl ⟨none, rfl, P.out D.out, HbelF.out _ _ _⟩
end Go.Proofs.YtfhgjangeicbjaaDoor
