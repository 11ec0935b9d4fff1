/-
  The walk of cursor.Decode.
-/
import Derived.Test.YtfhgjangeicbjaaDoorCurDecPlain
import Derived.Test.YtfhgjangeicbjaaDoorCurEnc
import Derived.Test.YtfhgjangeicbjaaDoorCurBytes
import Derived.Test.YtfhgjangeicbjaaDoorScan
import Derived.Test.YtfhgjangeicbjaaDoorSame
namespace Go.Proofs.YtfhgjangeicbjaaDoor
open Go Go.RowKit

/-- a decoder's answer -/
def RetDec (l : List UInt8) (w : World) (e : Ending) (w' : World) : Prop := ∃ r, e = .returned (decVal r) ∧ DecOf l r ∧ Below w.heap.size w w'

theorem block_kept {w w' : World} {b : Nat} {o : Obj} (h : Below w.heap.size w w') (hk : w.heap[b]? = some o) : w'.heap[b]? = some o :=
  (h.block b (Array.getElem?_eq_some_iff.1 hk).1).trans hk

/-- a block of three cells, all that a walk asks of it -/
theorem three_cells {w : World} {b : Nat} {v0 v1 v2 : Value} {t : TypeId} (hk : w.heap[b]? = some (.cells #[v0, v1, v2] t (0, 0))) :
    (w.cell? ⟨b, 0, none⟩ = some v0 ∧ w.cell? ⟨b, 1, none⟩ = some v1 ∧ w.cell? ⟨b, 2, none⟩ = some v2) ∧ w.frozen? ⟨b, 0, none⟩ = false ∧ w.frozen? ⟨b, 1, none⟩ = false ∧ w.frozen? ⟨b, 2, none⟩ = false :=
  ⟨⟨by rw [Lib.cell_of_heap hk]; rfl, by rw [Lib.cell_of_heap hk]; rfl, by rw [Lib.cell_of_heap hk]; rfl⟩, Lib.frozen_of_heap hk 0, Lib.frozen_of_heap hk 1, Lib.frozen_of_heap hk 2⟩

theorem below_three {w w' : World} (h : Below w.heap.size w w') : ∀ v0 v1 v2 : Value, Below w.heap.size w (((w'.setCell ⟨w.heap.size, 0, none⟩ v0).setCell ⟨w.heap.size, 1, none⟩ v1).setCell ⟨w.heap.size, 2, none⟩ v2) := fun v0 v1 v2 =>
  ((h.setCell (p := ⟨w.heap.size, 0, none⟩) (Nat.le_refl _) v0).setCell (p := ⟨w.heap.size, 1, none⟩) (Nat.le_refl _) v1).setCell (p := ⟨w.heap.size, 2, none⟩) (Nat.le_refl _) v2

set_option maxRecDepth 100000 in
set_option maxHeartbeats 4000000 in
theorem decode_any (s : ByteArray) (w : World) (ht : Tab w) (hs : s.size < 1099511627776) :
    Calls Tryd.prog 10 #[.string s] w (RetDec s.data.toList w) := by
  have Ht := Lib.hid ht
  clear ht
  go_enter Tryd.func10, Tryd.ntmps10
  go_wp2_with fail
  refine (bytes_any s _ hs).mono ?_
  rintro e w1 ⟨l, ok, rfl, hl, hok, hno, hb1⟩
  have Hb1 := Lib.hid hb1
  have hk1 := block_kept hb1 (heap_alloc_new w _)
  have Hk1 := Lib.hid hk1
  have Ht1 := Lib.hid ((Ht.out.below (Below.one _ _)).below hb1)
  have hll : (S l).size = l.length := S_size l
  have C := Lib.hid (fun w ht => scan_any (S l) w ht (by omega))
  rw [S_toList] at C
  have Hok := Lib.hid hok
  have Hno := Lib.hid hno
  clear hok hno hb1 hk1
  go_wp2_with fail
  refine (C.out _ Ht1.out).mono ?_
  rintro e w2 ⟨A, ca, ts, rfl, hsc, hrd, hb2⟩
  have hk2 := block_kept hb2 Hk1.out
  obtain ⟨⟨p0, p1, p2⟩, f0, f1, f2⟩ := three_cells hk2
  have Hsc := Lib.hid hsc
  have Hb2 := Lib.hid hb2
  clear hsc hb2
  have hbel2 := (Hb1.out.allocl).then Hb2.out
  have Hbel2 := Lib.hid (below_three hbel2)
  have Hbel2' := Lib.hid hbel2
  clear hbel2
  cases ok with
  | false =>
    go_wp2_with fail
    refine bodyPost_ret (v := decVal none) (by rw [results_cell_tmp rfl]; go_simp; rfl) rfl ⟨none, rfl, dec_nodigits (Hno.out trivial), Hbel2.out _ _ _⟩
  | true =>
    have hs' := Hok.out rfl
    have Hs := Lib.hid hs'
    clear hs' Hno Hok
    by_cases h1 : ts.length = 1
    · obtain ⟨t, rfl⟩ : ∃ t, ts = [t] := List.length_eq_one_iff.1 h1
      by_cases h2 : ([t].flatMap frame).length = l.length
      · have hlt := frame_one Hsc.out h2
        have htl : t.length < s.size := by have := congrArg List.length hlt; have := frame_len_pos t; omega
        have Hs' : Hid (hex (frame t) = s.data.toList) := by rw [← hlt]; exact Hs.out
        obtain ⟨g, off, rfl, hgl, hcell⟩ := str_at hrd (i := 0) (by simp)
        rw [List.getElem_cons_zero, Nat.add_zero] at hcell
        have htz : (S t).size = t.length := S_size t
        have G := Lib.hid (fun w => getText_any (S t) 0 w (by omega))
        have U := Lib.hid (fun a w => getUint_any (S t) a w (by omega))
        rw [S_toList] at G
        simp only [S_toList] at U
        obtain ⟨⟨q, a1, e0⟩, hX⟩ : ∃ X, X = getTextAt t 0 := ⟨_, rfl⟩
        rw [← hX] at G
        have h2' : (([t].flatMap frame).length : Int) = (l.length : Int) := by omega
        generalize ([t].flatMap frame).length = n at h2'
        have HX := Lib.hid hX
        clear hX hlt h2 hrd Hs
        by_cases he0 : e0 = 0
        · subst he0
          obtain ⟨⟨v, a2, e1⟩, hY⟩ : ∃ Y, Y = getAt t a1 := ⟨_, rfl⟩
          obtain ⟨⟨u, a3, e2⟩, hZ⟩ : ∃ Z, Z = getAt t a2 := ⟨_, rfl⟩
          have U1 := Lib.hid (U.out a1)
          have U2 := Lib.hid (U.out a2)
          have hv := getAt_lt t a1
          have hu := getAt_lt t a2
          rw [← hY] at hv
          rw [← hZ] at hu
          simp only at hv hu
          rw [← hY] at U1
          rw [← hZ] at U2
          have HY := Lib.hid hY
          have HZ := Lib.hid hZ
          clear hY hZ U
          go_wp2_with fail
          refine (G.out _).mono ?_
          rintro e w3 ⟨rfl, rfl⟩
          go_wp2_with fail
          refine (U1.out _).mono ?_
          rintro e w3 ⟨rfl, rfl⟩
          go_wp2_with fail
          refine (U2.out _).mono ?_
          rintro e w3 ⟨rfl, rfl⟩
          by_cases he1 : e1 = 0
          · subst he1
            by_cases he2 : e2 = 0
            · subst he2
              by_cases ha3 : a3 = (t.length : Int)
              · subst ha3
                by_cases hv2 : 1099511627776 ≤ v
                · have D := Lib.hid (dec_nobody (by omega) (nobody_uint HX.out.symm HY.out.symm (.inr hv2)))
                  have hd : decide ((1099511627776 : Int) ≤ (v : Int)) = true := by simp; omega
                  clear hv2
                  go_wp2_with fail
                  refine bodyPost_ret (v := decVal none) (by rw [results_cell_tmp rfl]; go_simp; rfl) rfl ⟨none, rfl, by rw [← Hs'.out]; exact D.out, Hbel2.out _ _ _⟩
                · have hd : decide ((1099511627776 : Int) ≤ (v : Int)) = false := by simp; omega
                  have hvi : (v : Int) < 1099511627776 := by omega
                  by_cases hu2 : 200 < u
                  · have D := Lib.hid (dec_nobody (by omega) (nobody_last HX.out.symm HY.out.symm HZ.out.symm (.inr (.inr (.inl hu2)))))
                    have hd2 : decide ((200 : Int) < (u : Int)) = true := by simp; omega
                    clear hv2 hu2 hv hu
                    go_wp2_with fail
                    refine bodyPost_ret (v := decVal none) (by rw [results_cell_tmp rfl]; go_simp; rfl) rfl ⟨none, rfl, by rw [← Hs'.out]; exact D.out, Hbel2.out _ _ _⟩
                  · have R := Lib.hid (fun w => right_any ⟨S q, v, (u : Int) - 1⟩ w)
                    unfold curVal at R
                    have hd2 : decide ((200 : Int) < (u : Int)) = false := by simp; omega
                    have hui : (u : Int) ≤ 200 := by omega
                    clear hv2 hu2 hv hu
                    have hb := body_is (by omega) HX.out.symm HY.out.symm HZ.out.symm
                    have Hb := Lib.hid hb
                    clear hb
                    rcases Bool.eq_false_or_eq_true (rightB ⟨S q, v, (u : Int) - 1⟩) with hR | hR
                    · have HR := Lib.hid hR
                      rw [hR] at R
                      clear hR
                      go_wp2_with fail
                      refine (R.out _).mono ?_
                      rintro e w4 ⟨rfl, hb4⟩
                      have hk4 := block_kept hb4 ((Lib.alloc_old w2 _ w.heap.size (Array.getElem?_eq_some_iff.1 hk2).1).trans hk2)
                      have hc4 := block_kept hb4 (heap_alloc_new w2 _)
                      obtain ⟨⟨p0', p1', p2'⟩, f0', f1', f2'⟩ := three_cells hk4
                      obtain ⟨⟨c0, c1, c2⟩, -⟩ := three_cells hc4
                      have Hbel4 := Lib.hid (below_three ((Hbel2'.out).then hb4.allocl))
                      clear hk4 hc4 hb4
                      go_wp2_with fail
                      refine bodyPost_ret (v := decVal (some ⟨S q, v, (u : Int) - 1⟩)) (by rw [results_cell_tmp rfl]; go_simp; rfl) rfl ⟨some ⟨S q, v, (u : Int) - 1⟩, rfl, ⟨HR.out, by rw [← Hs'.out, token, ← Hb.out]⟩, Hbel4.out _ _ _⟩
                    · have HR := Lib.hid hR
                      have D := Lib.hid (dec_nobody (by omega) (nobody_last HX.out.symm HY.out.symm HZ.out.symm (.inr (.inr (.inr HR.out)))))
                      rw [hR] at R
                      clear hR
                      go_wp2_with fail
                      refine (R.out _).mono ?_
                      rintro e w4 ⟨rfl, hb4⟩
                      have hk4 := block_kept hb4 ((Lib.alloc_old w2 _ w.heap.size (Array.getElem?_eq_some_iff.1 hk2).1).trans hk2)
                      obtain ⟨⟨p0', p1', p2'⟩, f0', f1', f2'⟩ := three_cells hk4
                      have Hbel4 := Lib.hid (below_three ((Hbel2'.out).then hb4.allocl))
                      clear hk4 hb4
                      go_wp2_with fail
                      refine bodyPost_ret (v := decVal none) (by rw [results_cell_tmp rfl]; go_simp; rfl) rfl ⟨none, rfl, by rw [← Hs'.out]; exact D.out, Hbel4.out _ _ _⟩
              · have D := Lib.hid (dec_nobody (by omega) (nobody_last HX.out.symm HY.out.symm HZ.out.symm (.inr (.inl ha3))))
                have hne : (a3 != (t.length : Int)) = true := by rw [bne_iff_ne]; exact ha3
                go_wp2_with fail
                refine bodyPost_ret (v := decVal none) (by rw [results_cell_tmp rfl]; go_simp; rfl) rfl ⟨none, rfl, by rw [← Hs'.out]; exact D.out, Hbel2.out _ _ _⟩
            · have D := Lib.hid (dec_nobody (by omega) (nobody_last HX.out.symm HY.out.symm HZ.out.symm (.inl he2)))
              have hne : ((e2 : Int) != 0) = true := by rw [bne_iff_ne]; omega
              go_wp2_with fail
              refine bodyPost_ret (v := decVal none) (by rw [results_cell_tmp rfl]; go_simp; rfl) rfl ⟨none, rfl, by rw [← Hs'.out]; exact D.out, Hbel2.out _ _ _⟩
          · have D := Lib.hid (dec_nobody (by omega) (nobody_uint HX.out.symm HY.out.symm (.inl he1)))
            have hne : ((e1 : Int) != 0) = true := by rw [bne_iff_ne]; omega
            go_wp2_with fail
            refine bodyPost_ret (v := decVal none) (by rw [results_cell_tmp rfl]; go_simp; rfl) rfl ⟨none, rfl, by rw [← Hs'.out]; exact D.out, Hbel2.out _ _ _⟩
        · have D := Lib.hid (dec_nobody (by omega) (nobody_text HX.out.symm he0))
          have hne : ((e0 : Int) != 0) = true := by rw [bne_iff_ne]; omega
          go_wp2_with fail
          refine (G.out _).mono ?_
          rintro e w3 ⟨rfl, rfl⟩
          go_wp2_with fail
          refine bodyPost_ret (v := decVal none) (by rw [results_cell_tmp rfl]; go_simp; rfl) rfl ⟨none, rfl, by rw [← Hs'.out]; exact D.out, Hbel2.out _ _ _⟩
      · have D := Lib.hid (dec_rest (by omega) Hsc.out h2)
        have h2' : (([t].flatMap frame).length : Int) ≠ (l.length : Int) := by omega
        generalize ([t].flatMap frame).length = n at *
        go_wp2_with fail
        refine bodyPost_ret (v := decVal none) (by rw [results_cell_tmp rfl]; go_simp; rfl) rfl ⟨none, rfl, ?_, Hbel2.out _ _ _⟩
        rw [← Hs.out]; exact D.out
    · have h1' : ((ts.length : Int) != 1) = true := by rw [bne_iff_ne]; omega
      go_wp2_with fail
      refine bodyPost_ret (v := decVal none) (by rw [results_cell_tmp rfl]; go_simp; rfl) rfl ⟨none, rfl, ?_, Hbel2.out _ _ _⟩
      rw [← Hs.out]; exact dec_frames (by omega) Hsc.out h1
end Go.Proofs.YtfhgjangeicbjaaDoor
