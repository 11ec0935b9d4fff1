/-
  The document's put.
-/
import Derived.Test.YtbheoahpaidpmaaDoorPackD
namespace Go.Proofs.YtbheoahpaidpmaaDoor
open Go Go.RowKit

def putV (s : St) (d y : Int) : St × Nat := match putS s d y with
  | none => (st0, 170)
  | some t => (t, 0)
/-- whether one lies behind it -/
def anyP (p : PartV) (l : List PartV) : Bool := l.any fun x => decide (p.Day < x.Day)
def outP (p : PartV) (l : List PartV) : List PartV := if anyP p l then insP p l else l
theorem insP_done {p x : PartV} : ∀ {l : List PartV}, anyP p l = true → insP p (l ++ [x]) = insP p l ++ [x]
  | [], h => by simp [anyP] at h
  | y :: l, h => by
    simp only [List.cons_append]
    unfold insP
    by_cases hy : p.Day < y.Day
    · rw [if_pos hy, if_pos hy]; rfl
    · rw [if_neg hy, if_neg hy, insP_done (l := l) (by simpa [anyP, hy] using h)]; rfl
theorem insP_never {p : PartV} : ∀ {l : List PartV}, anyP p l = false → insP p l = l ++ [p]
  | [], _ => rfl
  | y :: l, h => by
    have h1 : ¬ p.Day < y.Day := by
      intro hy
      simp [anyP, hy] at h
    unfold insP
    rw [if_neg h1, insP_never (l := l) (by simpa [anyP, h1] using h)]; rfl
theorem insP_now {p x : PartV} : ∀ {l : List PartV}, anyP p l = false → p.Day < x.Day → insP p (l ++ [x]) = l ++ [p, x]
  | [], _, hx => by unfold insP; simp [hx]
  | y :: l, h, hx => by
    have h1 : ¬ p.Day < y.Day := by
      intro hy
      simp [anyP, hy] at h
    simp only [List.cons_append]
    unfold insP
    rw [if_neg h1, insP_now (l := l) (by simpa [anyP, h1] using h) hx]
theorem anyP_add (p x : PartV) (l : List PartV) : anyP p (l ++ [x]) = (anyP p l || decide (p.Day < x.Day)) := by simp [anyP]
theorem putV_no {s : St} {d y : Int} (h : ¬ (dayOk d ∧ bitOk y ∧ s.Next < 1099511627776)) : putV s d y = (st0, 170) := by unfold putV; rw [putS_no h]
theorem putV_ok {s : St} {d y : Int} (h : dayOk d ∧ bitOk y ∧ s.Next < 1099511627776) : putV s d y = ({ dropS s d with Parts := insP ⟨d, y, fileB s.Next⟩ (dropS s d).Parts, Next := s.Next + 1 }, 0) := by unfold putV putS; rw [if_pos h]
theorem dropS_next (s : St) (d : Int) : (dropS s d).Next = s.Next := by unfold dropS; split <;> rfl
theorem dropS_parts (s : St) (d : Int) : (dropS s d).Parts = s.Parts.filter (kp d) := by unfold dropS; split <;> rfl

set_option linter.unusedSimpArgs false in
set_option maxRecDepth 100000 in
set_option maxHeartbeats 8000000 in
theorem rput_any (d y : Int) (A : Option Addr) (n c : Nat) (s : St) (w : World) (hr : Rd w 3 A n (s.Parts.flatMap partCells)) (hn : s.Parts.length = n) (hl : n ≤ 1000000) (hN0 : 0 ≤ s.Next) :
    Calls Tryd.prog 37 #[stVal A n c s, .int .i64 d, .int .i64 y] w (StAt (putV s d y) w.heap.size w) := by
  obtain ⟨B, hB⟩ : ∃ B, w.heap.size = B := ⟨_, rfl⟩
  obtain ⟨V, hV⟩ : ∃ V, putV s d y = V := ⟨_, rfl⟩
  rw [hV]
  have HV0 := Lib.hid hV
  obtain ⟨U, hU⟩ : ∃ U, dropS s d = U := ⟨_, rfl⟩
  have hUn : U.Next = s.Next := by rw [← hU]; exact dropS_next s d
  have hUl : U.Parts.length ≤ n := by rw [← hU, dropS_parts, ← hn]; exact List.length_filter_le _ _
  have HD := Lib.hid (fun w' hr' => rdrop_any d A n c s w' hr' hn hl)
  rw [hU] at HD
  have HU := Lib.hid hU
  clear hV hU
  obtain ⟨P, N, Q, O, D, T, X⟩ := s
  simp only at hr hn hN0 hUn
  unfold stVal at HD ⊢
  simp only at HD ⊢
  obtain ⟨w0, hw0, hs0, hb0, g0, g1⟩ := two_states w B hB #[.slice A n c, .int .i64 N, .int .i64 Q, .bool O, .int .i64 D, .int .i64 T, .int .i64 X] #[.slice none 0 0, .int .i64 0, .int .i64 0, .bool false, .int .i64 0, .int .i64 0, .int .i64 0] 31 31
  have HDC := Lib.hid (HD.out w0 (hr.below (hB ▸ hb0)))
  have HB := Lib.hid hB
  have HB0 := Lib.hid hb0
  have G0 := Lib.hid g0
  have G1 := Lib.hid g1
  obtain ⟨a0, a1, a2, a3, a4, a5, a6, za⟩ := seven g0
  have za0 := za 0
  have za1 := za 1
  have za2 := za 2
  have za3 := za 3
  have za4 := za 4
  have za5 := za 5
  have za6 := za 6
  clear za
  obtain ⟨r0, r1, r2, r3, r4, r5, r6, zr⟩ := seven g1
  have zr0 := zr 0
  have zr1 := zr 1
  have zr2 := zr 2
  have zr3 := zr 3
  have zr4 := zr 4
  have zr5 := zr 5
  have zr6 := zr 6
  clear zr
  have H1 := Lib.hid (fun w => rday_any d w)
  have H2 := Lib.hid (fun w => rbit_any y w)
  clear hr hb0 g0 g1 HD
  go_enter Tryd.func37, Tryd.ntmps37
  by_cases c1 : dayOk d
  · rw [decide_eq_true c1] at H1
    by_cases c2 : bitOk y
    · rw [decide_eq_true c2] at H2
      by_cases c3 : N < 1099511627776
      · have t1 : decide ((1099511627776 : Int) ≤ N) = false := decide_eq_false (by omega)
        have hv := HV0.out.symm.trans (putV_ok ⟨c1, c2, c3⟩)
        rw [HU.out] at hv
        obtain ⟨L, N4, Q4, O4, D4, T4, X4⟩ := U
        simp only at hv hUn hUl
        have HV := Lib.hid hv
        obtain rfl : N4 = N := hUn
        have m9 : IntKind.i64.wrap (N4 + 1) = N4 + 1 := by rw [IntKind.wrap_i64]; omega
        have HFI := Lib.hid (fun w => rfile_any N4 (by omega) w)
        clear c1 c2 c3 hN0 hv HV0 HU hn
        go_wp2_with fail
        refine (H1.out _).mono ?_
        rintro e w4 ⟨rfl, rfl⟩
        go_wp2_with fail
        refine (H2.out _).mono ?_
        rintro e w4 ⟨rfl, rfl⟩
        go_wp2_with fail
        refine HDC.out.mono ?_
        rintro e w4 ⟨A4, n4, c4, rfl, hp4, hb4⟩
        rw [hs0] at hp4 hb4
        have k0 := (hb4.block B (by omega)).trans G0.out
        have k1 := (hb4.block (B + 1) (by omega)).trans G1.out
        clear a0 a1 a2 a3 a4 a5 a6 za0 za1 za2 za3 za4 za5 za6 r0 r1 r2 r3 r4 r5 r6 zr0 zr1 zr2 zr3 zr4 zr5 zr6
        obtain ⟨a0, a1, a2, a3, a4, a5, a6, za⟩ := seven k0
        have za0 := za 0
        have za1 := za 1
        have za2 := za 2
        have za3 := za 3
        have za4 := za 4
        have za5 := za 5
        have za6 := za 6
        clear za
        obtain ⟨W5, hW5, hs5, q0, q1, hp5, hb5⟩ : ∃ W5, ((((((w4.setCell ⟨B, 0, none⟩ (.slice A4 n4 c4)).setCell ⟨B, 1, none⟩ (.int .i64 N4)).setCell ⟨B, 2, none⟩ (.int .i64 Q4)).setCell ⟨B, 3, none⟩ (.bool O4)).setCell ⟨B, 4, none⟩ (.int .i64 D4)).setCell ⟨B, 5, none⟩ (.int .i64 T4)).setCell ⟨B, 6, none⟩ (.int .i64 X4) = W5 ∧ B + 2 ≤ W5.heap.size ∧ W5.heap[B]? = some (.cells #[.slice A4 n4 c4, .int .i64 N4, .int .i64 Q4, .bool O4, .int .i64 D4, .int .i64 T4, .int .i64 X4] 31 (0, 0)) ∧ W5.heap[B + 1]? = some (.cells #[.slice none 0 0, .int .i64 0, .int .i64 0, .bool false, .int .i64 0, .int .i64 0, .int .i64 0] 31 (0, 0)) ∧ PAt (B + 2) A4 n4 L W5 ∧ Below B w W5 := by
          refine ⟨_, rfl, by have := hb4.size; simp [World.setCell]; omega, by simp [World.setCell, Array.getElem?_modify, k0], ?_, ?_, ?_⟩
          · exact (Below.heap_setCell _ _ _ _ (by simp)).trans ((Below.heap_setCell _ _ _ _ (by simp)).trans ((Below.heap_setCell _ _ _ _ (by simp)).trans ((Below.heap_setCell _ _ _ _ (by simp)).trans ((Below.heap_setCell _ _ _ _ (by simp)).trans ((Below.heap_setCell _ _ _ _ (by simp)).trans ((Below.heap_setCell _ _ _ _ (by simp)).trans k1))))))
          · exact (((((((hp4.set (b := B) (j := 0) (by omega) _).set (b := B) (j := 1) (by omega) _).set (b := B) (j := 2) (by omega) _).set (b := B) (j := 3) (by omega) _).set (b := B) (j := 4) (by omega) _).set (b := B) (j := 5) (by omega) _).set (b := B) (j := 6) (by omega) _).mono (Nat.le_refl _)
          · exact ((((((((HB0.out.trans (hb4.mono (by omega))).setCell (p := ⟨B, 0, none⟩) (by simp) _).setCell (p := ⟨B, 1, none⟩) (by simp) _).setCell (p := ⟨B, 2, none⟩) (by simp) _).setCell (p := ⟨B, 3, none⟩) (by simp) _).setCell (p := ⟨B, 4, none⟩) (by simp) _).setCell (p := ⟨B, 5, none⟩) (by simp) _).setCell (p := ⟨B, 6, none⟩) (by simp) _)
        have HB5 := Lib.hid hb5
        have HP5 := Lib.hid hp5
        have Q0 := Lib.hid q0
        have Q1 := Lib.hid q1
        clear hp4 hb4 k0 k1 hb5 hp5 q0 q1 G0 G1 HDC
        unfold stVal
        simp only
        obtain ⟨b0, b1, -, -, -, -, -, -⟩ := seven Q0.out
        obtain ⟨b6, hb6⟩ : ∃ b6, W5.heap.size = b6 := ⟨_, rfl⟩
        go_wp2_with fail
        try simp only [hW5]
        clear hW5 hw0 hB
        clear a0 a1 a2 a3 a4 a5 a6 za0 za1 za2 za3 za4 za5 za6
        refine (HFI.out _).mono ?_
        rintro e w6 ⟨rfl, rfl⟩
        obtain ⟨w6, hw6, hs6, k6, hbl6⟩ : ∃ w6, W5.alloc (.cells #[Value.int .i64 d, .int .i64 y, .string (S (fileB N4))] 43) = w6 ∧ w6.heap.size = b6 + 1 ∧ w6.heap[b6]? = some (.cells #[Value.int .i64 d, .int .i64 y, .string (S (fileB N4))] 43 (0, 0)) ∧ Below b6 W5 w6 :=
          ⟨_, rfl, by simp [hb6], hb6 ▸ heap_alloc_new _ _, hb6 ▸ Below.one _ _⟩
        obtain ⟨w7, hw7, hs7⟩ : ∃ w7, w6.alloc (.cells #[] 43) = w7 ∧ w7.heap.size = b6 + 2 := ⟨_, rfl, by simp [hs6]⟩
        have hm := Lie.made (fun k => k < b6 + 1) w6 43 3 (fun k hk => by omega)
        have hb7 := Below.one w6 (.cells #[] 43)
        rw [hw7] at hm hb7
        rw [hs6] at hm hb7
        have HM := Lib.hid hm
        have HB7 := Lib.hid hb7
        have HB6 := Lib.hid (show Below B W5 w6 from hbl6.mono (by omega))
        have HP6 := Lib.hid (HP5.out.below (hb6 ▸ hbl6))
        have K0 := Lib.hid ((hbl6.block B (by omega)).trans Q0.out)
        have K1 := Lib.hid ((hbl6.block (B + 1) (by omega)).trans Q1.out)
        have K6 := Lib.hid k6
        clear hm hb7 hbl6 k6 HP5 Q0 Q1 hs0
        go_wp2_with fail
        try simp only [hw6, hs6, hw7, hb6]
        clear hw6 hw7 b0 b1
        obtain ⟨p, hp⟩ : ∃ p : PartV, ⟨d, y, fileB N4⟩ = p := ⟨_, rfl⟩
        have hpd : p.Day = d := by rw [← hp]
        have Hp := Lib.hid hp
        have HLn := Lib.hid HP6.out.len
        have hn4 : n4 ≤ 1000000 := by have := HLn.out; omega
        clear hp
        go_loopw [9, 10, 11] (fun ov dv ix wr => ∃ (i m : Nat) (A5 : Option Addr) (c5 : Nat), ix = .int .i64 i ∧ ov = .slice A5 m c5 ∧ dv = .bool (anyP p (L.take i)) ∧ i ≤ n4 ∧ m ≤ 2 * i ∧ Lie (fun k => k < b6 + 1) 43 3 (.slice A5 m c5) m ((outP p (L.take i)).flatMap partCells) wr ∧ Below (b6 + 1) w6 wr) (fun _ _ ix _ => n4 - (intOf ix).toNat)
        case atStart => exact ⟨0, 0, _, _, rfl, rfl, rfl, by omega, by omega, HM.out, HB7.out⟩
        case round =>
          obtain ⟨i, m, A5, c5, rfl, rfl, rfl, hi, hmi, hlie, hbel⟩ := hrel
          have k0 := (hbel.block B (by omega)).trans K0.out
          have k1 := (hbel.block (B + 1) (by omega)).trans K1.out
          have k6 := (hbel.block b6 (by omega)).trans K6.out
          have hsz := hbel.size
          have hold : Old (fun k => k < b6 + 1) wr := fun k hk => by omega
          obtain ⟨p0, p1, p2, -⟩ := three k6
          by_cases hlt : i < n4
          · obtain ⟨a0, -, -, -, -, -, -, -⟩ := seven k0
            have hlt' : i < L.length := by have := HLn.out; omega
            obtain ⟨gb, off, rfl, hgb, s0, s1, s2⟩ := part_at (HP6.out.rd.below (hs6 ▸ hbel)) hlt'
            have hgb6 : gb < b6 + 1 := by
              obtain ⟨_, _, e, h, -⟩ := part_at HP6.out.rd hlt'
              cases e
              omega
            have hk1 : (i : Int) < n4 := by omega
            have htk : L.take (i + 1) = L.take i ++ [L[i]] := (List.take_append_getElem hlt').symm
            obtain ⟨x, hx⟩ : ∃ x, L[i] = x := ⟨_, rfl⟩
            rw [hx] at s0 s1 s2 htk
            clear hx hlt'
            obtain ⟨q, hq⟩ : ∃ q, L.take i = q := ⟨_, rfl⟩
            rw [hq] at hlie htk ⊢
            have Htk := Lib.hid htk
            obtain ⟨T1, I1, V1⟩ := x
            simp only at s0 s1 s2
            have Hl := Lib.hid hlie
            have Hb := Lib.hid hbel
            clear hlie hbel k0 k1 k6 htk hq
            have Hadd : anyP p (q ++ [⟨T1, I1, V1⟩]) = (anyP p q || decide (d < T1)) := by rw [anyP_add, hpd]
            cases han : anyP p q with
            | true =>
              have Hout := Lib.hid (show (outP p (q ++ [⟨T1, I1, V1⟩])).flatMap partCells = (outP p q).flatMap partCells ++ #[Value.int .i64 T1, .int .i64 I1, .string (S V1)].toList by
                unfold outP
                rw [Hadd, han, Bool.true_or, if_pos rfl, if_pos rfl, insP_done han, List.flatMap_append]
                simp [partCells])
              have Hn2 := Lib.hid (show anyP p (q ++ [⟨T1, I1, V1⟩]) = true by rw [Hadd, han, Bool.true_or])
              clear Hadd
              go_wp2_with (at_builtin; go_must (refine wpList_append_elem_row rfl (.tmp 59) (.tmp 65) 29 (by rfl) 43 (.agg #[.int .i64 0, .int .i64 0, .string ⟨#[]⟩]) 3 32 Tryd.underlying29 rpartInf rfl (by decide) (fun k => k < b6 + 1) m _ _ wr #[Value.int .i64 T1, .int .i64 I1, .string (S V1)] rfl (by intro u hu; simp at hu; rcases hu with rfl | rfl | rfl <;> rfl) Hl.out (by rfl) hold (by rfl) (by unfold maxLen; omega) (by omega) ?_); intro v8 w8 hown8 hst8 hgr8 hat8; have hb8 : Below (b6 + 1) w6 w8 := Hb.out.trans (hst8.below fun k hk => hk); have Hl8 := Lib.hid hown8; obtain ⟨A8, c8, rfl⟩ := hown8.form; clear hgr8 hat8 hown8)
              go_roundw
              case rel => exact ⟨i + 1, m + 1, A8, c8, by go_num, rfl, by rw [Htk.out, Hn2.out], by omega, by omega, by rw [Htk.out, Hout.out]; exact Hl8.out, hb8⟩
              case measure => simp [intOf]; omega
            | false =>
              cases hgt : decide (d < T1) with
              | false =>
                have Hn2 := Lib.hid (show anyP p (q ++ [⟨T1, I1, V1⟩]) = false by rw [Hadd, han, hgt]; rfl)
                have Hout := Lib.hid (show (outP p (q ++ [⟨T1, I1, V1⟩])).flatMap partCells = (outP p q).flatMap partCells ++ #[Value.int .i64 T1, .int .i64 I1, .string (S V1)].toList by
                  unfold outP
                  rw [Hn2.out, han, if_neg (by simp), if_neg (by simp), List.flatMap_append]
                  simp [partCells])
                clear Hadd
                go_wp2_with (at_builtin; go_must (refine wpList_append_elem_row rfl (.tmp 59) (.tmp 65) 29 (by rfl) 43 (.agg #[.int .i64 0, .int .i64 0, .string ⟨#[]⟩]) 3 32 Tryd.underlying29 rpartInf rfl (by decide) (fun k => k < b6 + 1) m _ _ wr #[Value.int .i64 T1, .int .i64 I1, .string (S V1)] rfl (by intro u hu; simp at hu; rcases hu with rfl | rfl | rfl <;> rfl) Hl.out (by rfl) hold (by rfl) (by unfold maxLen; omega) (by omega) ?_); intro v8 w8 hown8 hst8 hgr8 hat8; have hb8 : Below (b6 + 1) w6 w8 := Hb.out.trans (hst8.below fun k hk => hk); have Hl8 := Lib.hid hown8; obtain ⟨A8, c8, rfl⟩ := hown8.form; clear hgr8 hat8 hown8)
                go_roundw
                case rel => exact ⟨i + 1, m + 1, A8, c8, by go_num, rfl, by rw [Htk.out, Hn2.out], by omega, by omega, by rw [Htk.out, Hout.out]; exact Hl8.out, hb8⟩
                case measure => simp [intOf]; omega
              | true =>
                have Hn2 := Lib.hid (show anyP p (q ++ [⟨T1, I1, V1⟩]) = true by rw [Hadd, han, hgt]; rfl)
                have Hout := Lib.hid (show (outP p (q ++ [⟨T1, I1, V1⟩])).flatMap partCells = (outP p q).flatMap partCells ++ #[Value.int .i64 d, .int .i64 y, .string (S (fileB N4))].toList ++ #[Value.int .i64 T1, .int .i64 I1, .string (S V1)].toList by
                  have h := insP_now (x := ⟨T1, I1, V1⟩) han (by rw [hpd]; exact of_decide_eq_true hgt)
                  unfold outP
                  rw [Hn2.out, han, if_pos rfl, if_neg (by simp), h, List.flatMap_append, ← Hp.out]
                  simp [partCells])
                clear Hadd
                go_wp2_with (at_builtin; first | (refine wpList_append_elem_row rfl (.tmp 55) (.tmp 57) 29 (by rfl) 43 (.agg #[.int .i64 0, .int .i64 0, .string ⟨#[]⟩]) 3 32 Tryd.underlying29 rpartInf rfl (by decide) (fun k => k < b6 + 1) m _ _ wr #[Value.int .i64 d, .int .i64 y, .string (S (fileB N4))] rfl (by intro u hu; simp at hu; rcases hu with rfl | rfl | rfl <;> rfl) Hl.out (by rfl) hold (by rfl) (by unfold maxLen; omega) (by omega) ?_; intro v8 w8 hown8 hst8 hgr8 hat8; have hb8 : Below (b6 + 1) w6 w8 := Hb.out.trans (hst8.below fun k hk => hk); have Hl8 := Lib.hid hown8; obtain ⟨A8, c8, rfl⟩ := hown8.form; clear hgr8 hat8 hown8; have hold8 : Old (fun k => k < b6 + 1) w8 := fun k hk => (by have := hb8.size; omega); obtain ⟨a08, -, -, -, -, -, -, -⟩ := seven ((hb8.block B (by omega)).trans K0.out); have s08 := (World.cell?_of_block (a := ⟨gb, off + i * 3, none⟩) (hst8.block gb hgb6)).trans s0; have s18 := (World.cell?_of_block (a := ⟨gb, off + i * 3 + 1, none⟩) (hst8.block gb hgb6)).trans s1; have s28 := (World.cell?_of_block (a := ⟨gb, off + i * 3 + 2, none⟩) (hst8.block gb hgb6)).trans s2; clear a0 s0 s1 s2 p0 p1 p2) | (go_must (refine wpList_append_elem_row rfl (.tmp 59) (.tmp 65) 29 (by rfl) 43 (.agg #[.int .i64 0, .int .i64 0, .string ⟨#[]⟩]) 3 32 Tryd.underlying29 rpartInf rfl (by decide) (fun k => k < b6 + 1) (m + 1) _ _ w8 #[Value.int .i64 T1, .int .i64 I1, .string (S V1)] rfl (by intro u hu; simp at hu; rcases hu with rfl | rfl | rfl <;> rfl) Hl8.out (by rfl) hold8 (by rfl) (by unfold maxLen; omega) (by omega) ?_); intro v9 w9 hown9 hst9 hgr9 hat9; have hb9 : Below (b6 + 1) w6 w9 := hb8.trans (hst9.below fun k hk => hk); have Hl9 := Lib.hid hown9; obtain ⟨A9, c9, rfl⟩ := hown9.form; clear hgr9 hat9 hown9))
                go_roundw
                case rel => exact ⟨i + 1, m + 2, A9, c9, by go_num, rfl, by rw [Htk.out, Hn2.out], by omega, by omega, by rw [Htk.out, Hout.out]; exact Hl9.out, hb9⟩
                case measure => simp [intOf]; omega
          · obtain rfl : i = n4 := by omega
            rw [List.take_of_length_le (by rw [HLn.out]; exact Nat.le_refl _)] at hlie ⊢
            obtain ⟨a0, a1, a2, a3, a4, a5, a6, za⟩ := seven k0
            have za0 := za 0
            have za1 := za 1
            have za2 := za 2
            have za3 := za 3
            have za4 := za 4
            have za5 := za 5
            have za6 := za 6
            clear za
            obtain ⟨r0, r1, r2, r3, r4, r5, r6, zr⟩ := seven k1
            have zr0 := zr 0
            have zr1 := zr 1
            have zr2 := zr 2
            have zr3 := zr 3
            have zr4 := zr 4
            have zr5 := zr 5
            have zr6 := zr 6
            clear zr
            have Hl := Lib.hid hlie
            have Hb := Lib.hid hbel
            clear k0 k1 k6 hlie hbel
            cases han : anyP p L with
            | true =>
              have Hl9 := Hl
              unfold outP at Hl9
              rw [han, if_pos rfl, ← Hp.out] at Hl9
              obtain ⟨A9, hA9⟩ : ∃ A9, A5 = A9 := ⟨_, rfl⟩
              obtain ⟨c9, hc9⟩ : ∃ c9, c5 = c9 := ⟨_, rfl⟩
              subst hA9 hc9
              have hb5 := Hb.out
              have Hl5 := Hl9
              go_wp2_with fail
              refine bodyPost_ret (v := .tuple #[stVal A5 (m) c5 ⟨insP ⟨d, y, fileB N4⟩ L, N4 + 1, Q4, O4, D4, T4, X4⟩, .int .i64 0]) (by rw [results_cell_tmp rfl]; go_simp; rfl) rfl ⟨A5, m, c5, by rw [HV.out]; rfl, ?_, ?_⟩
              · rw [HV.out, HB.out]
                exact ((((((((((PAt.rof Hl5.out).set (b := B) (j := 0) (by omega) _).set (b := B) (j := 1) (by omega) _).set (b := B + 1) (j := 0) (by omega) _).set (b := B + 1) (j := 1) (by omega) _).set (b := B + 1) (j := 2) (by omega) _).set (b := B + 1) (j := 3) (by omega) _).set (b := B + 1) (j := 4) (by omega) _).set (b := B + 1) (j := 5) (by omega) _).set (b := B + 1) (j := 6) (by omega) _).mono (by omega)
              · rw [HB.out]
                exact ((((((((((HB5.out.trans (HB6.out.trans (hb5.mono (by omega)))).setCell (p := ⟨B, 0, none⟩) (by simp) _).setCell (p := ⟨B, 1, none⟩) (by simp) _).setCell (p := ⟨B + 1, 0, none⟩) (by simp) _).setCell (p := ⟨B + 1, 1, none⟩) (by simp) _).setCell (p := ⟨B + 1, 2, none⟩) (by simp) _).setCell (p := ⟨B + 1, 3, none⟩) (by simp) _).setCell (p := ⟨B + 1, 4, none⟩) (by simp) _).setCell (p := ⟨B + 1, 5, none⟩) (by simp) _).setCell (p := ⟨B + 1, 6, none⟩) (by simp) _)
            | false =>
              have Hnev := Lib.hid (show (insP p L).flatMap partCells = (outP p L).flatMap partCells ++ #[Value.int .i64 d, .int .i64 y, .string (S (fileB N4))].toList by
                rw [insP_never han]
                unfold outP
                rw [han, if_neg (by simp), List.flatMap_append, ← Hp.out]
                simp [partCells])
              go_wp2_with (at_builtin; go_must (refine wpList_append_elem_row rfl (.tmp 69) (.tmp 71) 29 (by rfl) 43 (.agg #[.int .i64 0, .int .i64 0, .string ⟨#[]⟩]) 3 32 Tryd.underlying29 rpartInf rfl (by decide) (fun k => k < b6 + 1) m _ _ wr #[Value.int .i64 d, .int .i64 y, .string (S (fileB N4))] rfl (by intro u hu; simp at hu; rcases hu with rfl | rfl | rfl <;> rfl) Hl.out (by rfl) hold (by rfl) (by unfold maxLen; omega) (by omega) ?_); intro v8 w8 hown8 hst8 hgr8 hat8; have hb8 : Below (b6 + 1) w6 w8 := Hb.out.trans (hst8.below fun k hk => hk); have Hl8 := Lib.hid hown8; obtain ⟨A8, c8, rfl⟩ := hown8.form; clear hgr8 hat8 hown8; have k0 := (hb8.block B (by omega)).trans K0.out; have k1 := (hb8.block (B + 1) (by omega)).trans K1.out; clear a0 a1 a2 a3 a4 a5 a6 za0 za1 za2 za3 za4 za5 za6 r0 r1 r2 r3 r4 r5 r6 zr0 zr1 zr2 zr3 zr4 zr5 zr6; obtain ⟨a0, a1, a2, a3, a4, a5, a6, za⟩ := seven k0; have za0 := za 0; have za1 := za 1; have za2 := za 2; have za3 := za 3; have za4 := za 4; have za5 := za 5; have za6 := za 6; clear za; obtain ⟨r0, r1, r2, r3, r4, r5, r6, zr⟩ := seven k1; have zr0 := zr 0; have zr1 := zr 1; have zr2 := zr 2; have zr3 := zr 3; have zr4 := zr 4; have zr5 := zr 5; have zr6 := zr 6; clear zr)
              rw [← Hnev.out, ← Hp.out] at Hl8
              refine bodyPost_ret (v := .tuple #[stVal A8 (m + 1) c8 ⟨insP ⟨d, y, fileB N4⟩ L, N4 + 1, Q4, O4, D4, T4, X4⟩, .int .i64 0]) (by rw [results_cell_tmp rfl]; go_simp; rfl) rfl ⟨A8, m + 1, c8, by rw [HV.out]; rfl, ?_, ?_⟩
              · rw [HV.out, HB.out]
                exact ((((((((((PAt.rof Hl8.out).set (b := B) (j := 0) (by omega) _).set (b := B) (j := 1) (by omega) _).set (b := B + 1) (j := 0) (by omega) _).set (b := B + 1) (j := 1) (by omega) _).set (b := B + 1) (j := 2) (by omega) _).set (b := B + 1) (j := 3) (by omega) _).set (b := B + 1) (j := 4) (by omega) _).set (b := B + 1) (j := 5) (by omega) _).set (b := B + 1) (j := 6) (by omega) _).mono (by omega)
              · rw [HB.out]
                exact ((((((((((HB5.out.trans (HB6.out.trans (hb8.mono (by omega)))).setCell (p := ⟨B, 0, none⟩) (by simp) _).setCell (p := ⟨B, 1, none⟩) (by simp) _).setCell (p := ⟨B + 1, 0, none⟩) (by simp) _).setCell (p := ⟨B + 1, 1, none⟩) (by simp) _).setCell (p := ⟨B + 1, 2, none⟩) (by simp) _).setCell (p := ⟨B + 1, 3, none⟩) (by simp) _).setCell (p := ⟨B + 1, 4, none⟩) (by simp) _).setCell (p := ⟨B + 1, 5, none⟩) (by simp) _).setCell (p := ⟨B + 1, 6, none⟩) (by simp) _)
      · have t1 : decide ((1099511627776 : Int) ≤ N) = true := decide_eq_true (by omega)
        have HV := Lib.hid (HV0.out.symm.trans (putV_no fun h => c3 h.2.2))
        clear c1 c2 c3
        go_wp2_with fail
        refine (H1.out _).mono ?_
        rintro e w4 ⟨rfl, rfl⟩
        go_wp2_with fail
        refine (H2.out _).mono ?_
        rintro e w4 ⟨rfl, rfl⟩
        go_wp2_with fail
        refine bodyPost_ret (v := .tuple #[stVal none 0 0 st0, .int .i64 170]) (by rw [results_cell_tmp rfl]; go_simp; rfl) rfl ⟨none, 0, 0, by rw [HV.out]; rfl, by rw [HV.out]; exact PAt.nil _ _, ?_⟩
        rw [HB.out]
        exact (((((((HB0.out.setCell (p := ⟨B + 1, 0, none⟩) (by simp) _).setCell (p := ⟨B + 1, 1, none⟩) (by simp) _).setCell (p := ⟨B + 1, 2, none⟩) (by simp) _).setCell (p := ⟨B + 1, 3, none⟩) (by simp) _).setCell (p := ⟨B + 1, 4, none⟩) (by simp) _).setCell (p := ⟨B + 1, 5, none⟩) (by simp) _).setCell (p := ⟨B + 1, 6, none⟩) (by simp) _)
    · rw [decide_eq_false c2] at H2
      have HV := Lib.hid (HV0.out.symm.trans (putV_no fun h => c2 h.2.1))
      clear c1 c2
      go_wp2_with fail
      refine (H1.out _).mono ?_
      rintro e w4 ⟨rfl, rfl⟩
      go_wp2_with fail
      refine (H2.out _).mono ?_
      rintro e w4 ⟨rfl, rfl⟩
      go_wp2_with fail
      refine bodyPost_ret (v := .tuple #[stVal none 0 0 st0, .int .i64 170]) (by rw [results_cell_tmp rfl]; go_simp; rfl) rfl ⟨none, 0, 0, by rw [HV.out]; rfl, by rw [HV.out]; exact PAt.nil _ _, ?_⟩
      rw [HB.out]
      exact (((((((HB0.out.setCell (p := ⟨B + 1, 0, none⟩) (by simp) _).setCell (p := ⟨B + 1, 1, none⟩) (by simp) _).setCell (p := ⟨B + 1, 2, none⟩) (by simp) _).setCell (p := ⟨B + 1, 3, none⟩) (by simp) _).setCell (p := ⟨B + 1, 4, none⟩) (by simp) _).setCell (p := ⟨B + 1, 5, none⟩) (by simp) _).setCell (p := ⟨B + 1, 6, none⟩) (by simp) _)
  · rw [decide_eq_false c1] at H1
    have HV := Lib.hid (HV0.out.symm.trans (putV_no fun h => c1 h.1))
    clear c1
    go_wp2_with fail
    refine (H1.out _).mono ?_
    rintro e w4 ⟨rfl, rfl⟩
    go_wp2_with fail
    refine bodyPost_ret (v := .tuple #[stVal none 0 0 st0, .int .i64 170]) (by rw [results_cell_tmp rfl]; go_simp; rfl) rfl ⟨none, 0, 0, by rw [HV.out]; rfl, by rw [HV.out]; exact PAt.nil _ _, ?_⟩
    rw [HB.out]
    exact (((((((HB0.out.setCell (p := ⟨B + 1, 0, none⟩) (by simp) _).setCell (p := ⟨B + 1, 1, none⟩) (by simp) _).setCell (p := ⟨B + 1, 2, none⟩) (by simp) _).setCell (p := ⟨B + 1, 3, none⟩) (by simp) _).setCell (p := ⟨B + 1, 4, none⟩) (by simp) _).setCell (p := ⟨B + 1, 5, none⟩) (by simp) _).setCell (p := ⟨B + 1, 6, none⟩) (by simp) _)
end Go.Proofs.YtbheoahpaidpmaaDoor
