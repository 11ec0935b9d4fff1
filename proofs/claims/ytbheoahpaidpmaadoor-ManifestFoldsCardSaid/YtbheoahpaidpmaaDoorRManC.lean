/-
  The document's drop.
-/
import Derived.Test.YtbheoahpaidpmaaDoorRManB
namespace Go.Proofs.YtbheoahpaidpmaaDoor
open Go Go.RowKit

/-- a state lies so (alone) -/
def StOne (v : St) (B : Nat) (w : World) (e : Ending) (w' : World) : Prop :=
  ∃ A n c, e = .returned (stVal A n c v) ∧ PAt B A n v.Parts w' ∧ Below B w w'

set_option linter.unusedSimpArgs false in
set_option maxRecDepth 100000 in
set_option maxHeartbeats 4000000 in
theorem rdrop_any (d : Int) (A : Option Addr) (n c : Nat) (s : St) (w : World) (hr : Rd w 3 A n (s.Parts.flatMap partCells)) (hn : s.Parts.length = n) (hl : n ≤ 1000000) :
    Calls Tryd.prog 38 #[stVal A n c s, .int .i64 d] w (StOne (dropS s d) w.heap.size w) := by
  unfold stVal
  obtain ⟨P, N, Q, O, D, T, X⟩ := s
  simp only at hr hn ⊢
  obtain ⟨V, hV⟩ : ∃ V, dropS ⟨P, N, Q, O, D, T, X⟩ d = V := ⟨_, rfl⟩
  have HV := Lib.hid (hV.symm.trans (dropS_eq P N Q O D T X d))
  rw [hV]
  obtain ⟨B, hB⟩ : ∃ B, w.heap.size = B := ⟨_, rfl⟩
  obtain ⟨w0, hw0, hs0, hb0, g0, g1⟩ := two_states w B hB #[.slice A n c, .int .i64 N, .int .i64 Q, .bool O, .int .i64 D, .int .i64 T, .int .i64 X] #[.slice none 0 0, .int .i64 0, .int .i64 0, .bool false, .int .i64 0, .int .i64 0, .int .i64 0] 31 31
  have hrd0 := hr.below (hB ▸ hb0)
  have HR := Lib.hid hrd0
  have Hn := Lib.hid hn
  have HB := Lib.hid hB
  have HB0 := Lib.hid hb0
  have G0 := Lib.hid g0
  have G1 := Lib.hid g1
  obtain ⟨w1, hw1, hs1⟩ : ∃ w1, w0.alloc (.cells #[] 43) = w1 ∧ w1.heap.size = B + 3 := ⟨_, rfl, by simp [hs0]⟩
  have hm := Lie.made (fun k => k < B + 2) w0 43 3 (fun k hk => by omega)
  have hb1 := Below.one w0 (.cells #[] 43)
  rw [hw1] at hm hb1
  rw [hs0] at hm hb1
  have HM := Lib.hid hm
  have HB1 := Lib.hid hb1
  clear hr hrd0 hb0 hn hm hb1 g0 g1 hV
  go_enter Tryd.func38, Tryd.ntmps38
  go_wp2_with fail
  try simp only [hw0, hs0, hw1]
  clear hw0 hw1 hB
  go_loopw [5, 6] (fun ov ix wr => ∃ (i m : Nat) (A5 : Option Addr) (c5 : Nat), ix = .int .i64 i ∧ ov = .slice A5 m c5 ∧ i ≤ n ∧ m ≤ i ∧ Lie (fun k => k < B + 2) 43 3 (.slice A5 m c5) m (((P.take i).filter (kp d)).flatMap partCells) wr ∧ Below (B + 2) w0 wr) (fun _ ix _ => n - (intOf ix).toNat)
  case atStart => exact ⟨0, 0, _, _, rfl, rfl, by omega, by omega, HM.out, HB1.out⟩
  case round =>
    obtain ⟨i, m, A5, c5, rfl, rfl, hi, hmi, hlie, hbel⟩ := hrel
    have k0 := (hbel.block B (by omega)).trans G0.out
    have k1 := (hbel.block (B + 1) (by omega)).trans G1.out
    have hsz := hbel.size
    have hold : Old (fun k => k < B + 2) wr := fun k hk => by omega
    by_cases hlt : i < n
    · obtain ⟨a0, -, -, -, -, -, -, -⟩ := seven k0
      have hlt' : i < P.length := by have := Hn.out; omega
      obtain ⟨gb, off, rfl, hgb, s0, s1, s2⟩ := part_at (HR.out.below (hs0 ▸ hbel)) hlt'
      have hk1 : (i : Int) < n := by omega
      have hkeep := Lib.hid (fun h => del_keep (p := kp d) (xs := P) (j := i) hlt' h)
      have hskip := Lib.hid (fun h => del_skip (p := kp d) (xs := P) (j := i) hlt' h)
      obtain ⟨r, hr⟩ : ∃ r, P[i] = r := ⟨_, rfl⟩
      rw [hr] at s0 s1 s2 hkeep hskip
      clear hr hlt'
      obtain ⟨T1, I1, V1⟩ := r
      simp only at s0 s1 s2
      have Hl := Lib.hid hlie
      have Hb := Lib.hid hbel
      clear hlie hbel k0 k1
      cases hb : (T1 == d) with
      | true =>
        have hsk := hskip.out (by unfold kp bne; simp only; rw [hb]; rfl)
        have Hsk := Lib.hid hsk
        have t1 : (T1 != d) = false := by rw [bne, hb]; rfl
        clear hsk s1 s2
        go_wp2_with fail
        go_roundw
        case rel => exact ⟨i + 1, m, A5, c5, by go_num, rfl, by omega, by omega, by rw [Hsk.out]; exact Hl.out, Hb.out⟩
        case measure => simp [intOf]; omega
      | false =>
        have hkp := hkeep.out (by unfold kp bne; simp only; rw [hb]; rfl)
        have Hkp := Lib.hid (show ((P.take (i + 1)).filter (kp d)).flatMap partCells = ((P.take i).filter (kp d)).flatMap partCells ++ #[Value.int .i64 T1, .int .i64 I1, .string (S V1)].toList by rw [hkp, List.flatMap_append]; simp [partCells])
        have t1 : (T1 != d) = true := by rw [bne, hb]; rfl
        clear hkp
        go_wp2_with (at_builtin; go_must (refine wpList_append_elem_row rfl (.tmp 23) (.tmp 29) 29 (by rfl) 43 (.agg #[.int .i64 0, .int .i64 0, .string ⟨#[]⟩]) 3 32 Tryd.underlying29 rpartInf rfl (by decide) (fun k => k < B + 2) m _ _ wr #[.int .i64 T1, .int .i64 I1, .string (S V1)] rfl (by intro u hu; simp at hu; rcases hu with rfl | rfl | rfl <;> rfl) Hl.out (by rfl) hold (by rfl) (by unfold maxLen; omega) (by omega) ?_); intro v8 w8 hown8 hst8 hgr8 hat8; have Hl8 := Lib.hid hown8; have Hb8 := Lib.hid (Hb.out.trans (hst8.below fun k hk => hk)); obtain ⟨A8, c8, rfl⟩ := hown8.form; clear hown8 hst8 hgr8 hat8)
        go_roundw
        case rel => exact ⟨i + 1, m + 1, A8, c8, by go_num, rfl, by omega, by omega, by rw [Hkp.out]; exact Hl8.out, Hb8.out⟩
        case measure => simp [intOf]; omega
    · obtain rfl : i = n := by omega
      rw [List.take_of_length_le (by rw [Hn.out]; exact Nat.le_refl _)] at hlie
      have hbw := HB0.out.trans (hbel.mono (by omega))
      obtain ⟨W, hW, hWs, q0, q1, hp, hb⟩ : ∃ W, wr.setCell ⟨B, 0, none⟩ (.slice A5 m c5) = W ∧ B + 1 < W.heap.size ∧ W.heap[B]? = some (.cells #[.slice A5 m c5, .int .i64 N, .int .i64 Q, .bool O, .int .i64 D, .int .i64 T, .int .i64 X] 31 (0, 0)) ∧ W.heap[B + 1]? = some (.cells #[.slice none 0 0, .int .i64 0, .int .i64 0, .bool false, .int .i64 0, .int .i64 0, .int .i64 0] 31 (0, 0)) ∧ PAt (B + 2) A5 m (P.filter (kp d)) W ∧ Below B w W :=
        ⟨_, rfl, by simp [World.setCell]; omega, by simp [World.setCell, Array.getElem?_modify, k0], (Below.heap_setCell _ _ _ _ (by simp)).trans k1, (PAt.rof hlie).set (by omega) _, hbw.setCell (p := ⟨B, 0, none⟩) (Nat.le_refl B) _⟩
      obtain ⟨b0, -, -, -, -, -, -, zb⟩ := seven k0
      have zb0 := zb 0
      obtain ⟨a0, a1, a2, a3, a4, a5, a6, za⟩ := seven q0
      obtain ⟨r0, r1, r2, r3, r4, r5, r6, zr⟩ := seven q1
      have za0 := za 0
      have za1 := za 1
      have za2 := za 2
      have za3 := za 3
      have za4 := za 4
      have za5 := za 5
      have za6 := za 6
      have zr0 := zr 0
      have zr1 := zr 1
      have zr2 := zr 2
      have zr3 := zr 3
      have zr4 := zr 4
      have zr5 := zr 5
      have zr6 := zr 6
      have HP := Lib.hid hp
      have HBW := Lib.hid hb
      have HQ0 := Lib.hid q0
      have HQ1 := Lib.hid q1
      clear hbw hp hb q0 q1 za zr zb hlie hbel k0 k1 G0 G1
      have fin : ∀ (V' : St) (W' : World), V = V' → V'.Parts = P.filter (kp d) → PAt (B + 2) A5 m (P.filter (kp d)) W' → Below B w W' → StOne V w.heap.size w (.returned (stVal A5 m c5 V')) W' := by
        intro V' W' hv hpp hat hbb
        subst hv
        exact ⟨A5, m, c5, rfl, by rw [hpp, HB.out]; exact hat.mono (by omega), by rw [HB.out]; exact hbb⟩
      cases O with
      | false =>
        have HV1 := Lib.hid (HV.out.trans (if_neg (by simp)))
        go_wp2_with fail
        refine bodyPost_ret (v := .agg #[.slice A5 m c5, .int .i64 N, .int .i64 Q, .bool false, .int .i64 D, .int .i64 T, .int .i64 X]) (by rw [results_cell1 rfl]; go_simp) rfl (fin ⟨P.filter (kp d), N, Q, false, D, T, X⟩ _ HV1.out rfl ?_ ?_)
        · exact (((((((HP.out.set (b := B + 1) (j := 0) (by omega) _).set (b := B + 1) (j := 1) (by omega) _).set (b := B + 1) (j := 2) (by omega) _).set (b := B + 1) (j := 3) (by omega) _).set (b := B + 1) (j := 4) (by omega) _).set (b := B + 1) (j := 5) (by omega) _).set (b := B + 1) (j := 6) (by omega) _)
        · exact (((((((HBW.out.setCell (p := ⟨B + 1, 0, none⟩) (by simp) _).setCell (p := ⟨B + 1, 1, none⟩) (by simp) _).setCell (p := ⟨B + 1, 2, none⟩) (by simp) _).setCell (p := ⟨B + 1, 3, none⟩) (by simp) _).setCell (p := ⟨B + 1, 4, none⟩) (by simp) _).setCell (p := ⟨B + 1, 5, none⟩) (by simp) _).setCell (p := ⟨B + 1, 6, none⟩) (by simp) _)
      | true =>
        by_cases hd : D = d
        · have u1 : (D == d) = true := beq_iff_eq.2 hd
          have HV1 := Lib.hid (HV.out.trans (if_pos ⟨rfl, hd⟩))
          have HOF := roff_any A5 m c5 ⟨P.filter (kp d), N, Q, true, D, T, X⟩ W
          unfold stVal offS at HOF
          simp only at HOF
          have HO := Lib.hid HOF
          clear HOF hd
          go_wp2_with fail
          refine HO.out.mono ?_
          rintro e w9 ⟨rfl, hb9⟩
          have q0 := (hb9.block B (by omega)).trans HQ0.out
          have q1 := (hb9.block (B + 1) (by omega)).trans HQ1.out
          have HP9 := Lib.hid (HP.out.below hb9)
          have HB9 := Lib.hid (HBW.out.trans (hb9.mono (by omega)))
          clear a0 a1 a2 a3 a4 a5 a6 r0 r1 r2 r3 r4 r5 r6 za0 za1 za2 za3 za4 za5 za6 zr0 zr1 zr2 zr3 zr4 zr5 zr6 hb9 HQ0 HQ1
          obtain ⟨a0, a1, a2, a3, a4, a5, a6, za⟩ := seven q0
          obtain ⟨r0, r1, r2, r3, r4, r5, r6, zr⟩ := seven q1
          have za0 := za 0
          have za1 := za 1
          have za2 := za 2
          have za3 := za 3
          have za4 := za 4
          have za5 := za 5
          have za6 := za 6
          have zr0 := zr 0
          have zr1 := zr 1
          have zr2 := zr 2
          have zr3 := zr 3
          have zr4 := zr 4
          have zr5 := zr 5
          have zr6 := zr 6
          clear za zr q0 q1
          go_wp2_with fail
          refine bodyPost_ret (v := .agg #[.slice A5 m c5, .int .i64 N, .int .i64 Q, .bool false, .int .i64 0, .int .i64 0, .int .i64 0]) (by rw [results_cell1 rfl]; go_simp) rfl (fin ⟨P.filter (kp d), N, Q, false, 0, 0, 0⟩ _ HV1.out rfl ?_ ?_)
          · exact ((((((((((((((HP9.out.set (b := B) (j := 0) (by omega) _).set (b := B) (j := 1) (by omega) _).set (b := B) (j := 2) (by omega) _).set (b := B) (j := 3) (by omega) _).set (b := B) (j := 4) (by omega) _).set (b := B) (j := 5) (by omega) _).set (b := B) (j := 6) (by omega) _).set (b := B + 1) (j := 0) (by omega) _).set (b := B + 1) (j := 1) (by omega) _).set (b := B + 1) (j := 2) (by omega) _).set (b := B + 1) (j := 3) (by omega) _).set (b := B + 1) (j := 4) (by omega) _).set (b := B + 1) (j := 5) (by omega) _).set (b := B + 1) (j := 6) (by omega) _)
          · exact ((((((((((((((HB9.out.setCell (p := ⟨B, 0, none⟩) (by simp) _).setCell (p := ⟨B, 1, none⟩) (by simp) _).setCell (p := ⟨B, 2, none⟩) (by simp) _).setCell (p := ⟨B, 3, none⟩) (by simp) _).setCell (p := ⟨B, 4, none⟩) (by simp) _).setCell (p := ⟨B, 5, none⟩) (by simp) _).setCell (p := ⟨B, 6, none⟩) (by simp) _).setCell (p := ⟨B + 1, 0, none⟩) (by simp) _).setCell (p := ⟨B + 1, 1, none⟩) (by simp) _).setCell (p := ⟨B + 1, 2, none⟩) (by simp) _).setCell (p := ⟨B + 1, 3, none⟩) (by simp) _).setCell (p := ⟨B + 1, 4, none⟩) (by simp) _).setCell (p := ⟨B + 1, 5, none⟩) (by simp) _).setCell (p := ⟨B + 1, 6, none⟩) (by simp) _)
        · have u1 : (D == d) = false := beq_eq_false_iff_ne.2 hd
          have HV1 := Lib.hid (HV.out.trans (if_neg (fun h => hd h.2)))
          clear hd
          go_wp2_with fail
          refine bodyPost_ret (v := .agg #[.slice A5 m c5, .int .i64 N, .int .i64 Q, .bool true, .int .i64 D, .int .i64 T, .int .i64 X]) (by rw [results_cell1 rfl]; go_simp) rfl (fin ⟨P.filter (kp d), N, Q, true, D, T, X⟩ _ HV1.out rfl ?_ ?_)
          · exact (((((((HP.out.set (b := B + 1) (j := 0) (by omega) _).set (b := B + 1) (j := 1) (by omega) _).set (b := B + 1) (j := 2) (by omega) _).set (b := B + 1) (j := 3) (by omega) _).set (b := B + 1) (j := 4) (by omega) _).set (b := B + 1) (j := 5) (by omega) _).set (b := B + 1) (j := 6) (by omega) _)
          · exact (((((((HBW.out.setCell (p := ⟨B + 1, 0, none⟩) (by simp) _).setCell (p := ⟨B + 1, 1, none⟩) (by simp) _).setCell (p := ⟨B + 1, 2, none⟩) (by simp) _).setCell (p := ⟨B + 1, 3, none⟩) (by simp) _).setCell (p := ⟨B + 1, 4, none⟩) (by simp) _).setCell (p := ⟨B + 1, 5, none⟩) (by simp) _).setCell (p := ⟨B + 1, 6, none⟩) (by simp) _)
end Go.Proofs.YtbheoahpaidpmaaDoor
