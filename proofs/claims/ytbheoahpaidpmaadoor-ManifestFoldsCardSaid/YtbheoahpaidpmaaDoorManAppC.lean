/-
  manifest.Apply, by kinds of edits.
-/
import Derived.Test.YtbheoahpaidpmaaDoorManAppK
namespace Go.Proofs.YtbheoahpaidpmaaDoor
open Go Go.RowKit

set_option linter.unusedSimpArgs false in
set_option maxRecDepth 100000 in
set_option maxHeartbeats 8000000 in
theorem mapply_1 (A : Option Addr) (n c : Nat) (s : St) (e : Ed) (w : World) (hr : Rd w 3 A n (s.Parts.flatMap partCells)) (hn : s.Parts.length = n) (hl : n ≤ 100000) (ha : asc s.Parts) (hN0 : 0 ≤ s.Next) (hN1 : s.Next ≤ 1099511627776) (hD0 : 0 ≤ s.Done) (hD1 : s.Done ≤ 5000) (hp : Pow w) (hk : e.Kind = 1) :
    Calls Tryd.prog 17 #[stVal A n c s, edVal e] w (StAt (appV s e) w.heap.size w) := by
  obtain ⟨B, hB⟩ : ∃ B, w.heap.size = B := ⟨_, rfl⟩
  obtain ⟨P, N, Q, O, D, T, X⟩ := s
  obtain ⟨eK, eD, eL, eA⟩ := e
  obtain rfl : eK = 1 := hk
  simp only at hr hn ha hN0 hN1 hD0 hD1
  obtain ⟨V, hV⟩ : ∃ V, appV ⟨P, N, Q, O, D, T, X⟩ ⟨1, eD, eL, eA⟩ = V := ⟨_, rfl⟩
  rw [hV]
  have HV0 := Lib.hid hV
  have HF := Lib.hid (fun w' hr' => mfind_any eD A c n ⟨P, N, Q, O, D, T, X⟩ w' hr' hn (by omega))
  unfold stVal edVal
  simp only
  obtain ⟨w0, hw0, hs0, hb0, k0, k1, k2⟩ : ∃ w0, ((w.alloc (.cells #[.slice A n c, .int .i64 N, .int .i64 Q, .bool O, .int .i64 D, .int .i64 T, .int .i64 X] 25)).alloc (.cells #[.int .i64 1, .int .i64 eD, .int .i64 eL, .int .i64 eA] 47)).alloc (.cells #[.slice none 0 0, .int .i64 0, .int .i64 0, .bool false, .int .i64 0, .int .i64 0, .int .i64 0] 25) = w0 ∧ w0.heap.size = B + 3 ∧ Below B w w0
      ∧ w0.heap[B]? = some (.cells #[.slice A n c, .int .i64 N, .int .i64 Q, .bool O, .int .i64 D, .int .i64 T, .int .i64 X] 25 (0, 0)) ∧ w0.heap[B + 1]? = some (.cells #[.int .i64 1, .int .i64 eD, .int .i64 eL, .int .i64 eA] 47 (0, 0)) ∧ w0.heap[B + 2]? = some (.cells #[.slice none 0 0, .int .i64 0, .int .i64 0, .bool false, .int .i64 0, .int .i64 0, .int .i64 0] 25 (0, 0)) := by
    have n1 := heap_alloc_new w (.cells #[.slice A n c, .int .i64 N, .int .i64 Q, .bool O, .int .i64 D, .int .i64 T, .int .i64 X] 25)
    have n2 := heap_alloc_new (w.alloc (.cells #[.slice A n c, .int .i64 N, .int .i64 Q, .bool O, .int .i64 D, .int .i64 T, .int .i64 X] 25)) (.cells #[.int .i64 1, .int .i64 eD, .int .i64 eL, .int .i64 eA] 47)
    have n3 := heap_alloc_new ((w.alloc (.cells #[.slice A n c, .int .i64 N, .int .i64 Q, .bool O, .int .i64 D, .int .i64 T, .int .i64 X] 25)).alloc (.cells #[.int .i64 1, .int .i64 eD, .int .i64 eL, .int .i64 eA] 47)) (.cells #[.slice none 0 0, .int .i64 0, .int .i64 0, .bool false, .int .i64 0, .int .i64 0, .int .i64 0] 25)
    simp only [World.size_alloc, hB, Nat.add_assoc, Nat.reduceAdd] at n1 n2 n3
    refine ⟨_, rfl, by simp [hB], ?_, ?_, ?_, n3⟩
    · subst hB
      exact (((Below.refl _ _).alloc (Nat.le_refl _) _).alloc (by simp) _).alloc (by simp; omega) _
    · exact (Lib.alloc_old _ _ _ (by simp; omega)).trans ((Lib.alloc_old _ _ _ (by simp; omega)).trans n1)
    · exact (Lib.alloc_old _ _ _ (by simp; omega)).trans n2
  have hgB : 0 < B := hB ▸ hp.2
  have hb0w : Below w.heap.size w w0 := hB ▸ hb0
  have hrd0 := hr.below hb0w
  have HP0 := Lib.hid (hp.below hb0w)
  have HC := Lib.hid (clone_any A c n P w0 hrd0 hn (by omega))
  have Hr0 := Lib.hid hrd0
  have Hn := Lib.hid hn
  have HB := Lib.hid hB
  have HB0 := Lib.hid hb0
  have Ha := Lib.hid ha
  obtain ⟨a0, -, -, -, -, -, -, za⟩ := seven k0
  have za0 := za 0
  have K0 := Lib.hid k0
  have K1 := Lib.hid k1
  have K2 := Lib.hid k2
  clear hr hrd0 hb0 hb0w hn ha hp k0 k1 k2 za hV
  go_enter Tryd.func17, Tryd.ntmps17
  go_wp2_with fail
  try simp only [hw0]
  clear hw0 hB a0 za0
  refine HC.out.mono ?_
  rintro e w1 ⟨A1, c1, rfl, hl1, hb1⟩
  have k0 := (hb1.block B (by omega)).trans K0.out
  have k1 := (hb1.block (B + 1) (by omega)).trans K1.out
  have k2 := (hb1.block (B + 2) (by omega)).trans K2.out
  obtain ⟨a0, a1, a2, a3, a4, a5, a6, za⟩ := seven k0
  obtain ⟨e0, e1, e2, e3, ze⟩ := four k1
  have za0 := za 0
  have hsz1 : B + 3 ≤ w1.heap.size := by have := hb1.size; omega
  rw [hs0] at hl1
  have hbs : Below w0.heap.size w0 (w1.setCell ⟨B, 0, none⟩ (.slice A1 n c1)) → True := fun _ => trivial
  obtain ⟨w2, hw2, hs2, g0, g1, g2, hl2, hb2, hp2, hrd2⟩ : ∃ w2, w1.setCell ⟨B, 0, none⟩ (.slice A1 n c1) = w2 ∧ w2.heap.size = w1.heap.size ∧ w2.heap[B]? = some (.cells #[.slice A1 n c1, .int .i64 N, .int .i64 Q, .bool O, .int .i64 D, .int .i64 T, .int .i64 X] 25 (0, 0)) ∧ w2.heap[B + 1]? = some (.cells #[.int .i64 1, .int .i64 eD, .int .i64 eL, .int .i64 eA] 47 (0, 0)) ∧ w2.heap[B + 2]? = some (.cells #[.slice none 0 0, .int .i64 0, .int .i64 0, .bool false, .int .i64 0, .int .i64 0, .int .i64 0] 25 (0, 0)) ∧
      Lie (fun k => k < B + 3) 40 3 (.slice A1 n c1) n (P.flatMap partCells) w2 ∧ Below B w w2 ∧ Pow w2 ∧ Rd w2 3 A1 n (P.flatMap partCells) := by
    have hl2 := own_set hl1 (show B < B + 3 by omega) 0 (.slice A1 n c1)
    exact ⟨_, rfl, by simp [World.setCell], by simp [World.setCell, Array.getElem?_modify, k0], (Below.heap_setCell _ _ _ _ (by simp)).trans k1, (Below.heap_setCell _ _ _ _ (by simp)).trans k2, hl2, (HB0.out.trans (hb1.mono (by omega))).setCell (p := ⟨B, 0, none⟩) (Nat.le_refl B) _, (HP0.out.below hb1).later (by simp [World.setCell]) (Below.heap_setCell _ _ _ _ (by simp only; omega)), hl2.rd⟩
  obtain ⟨b0, b1, b2, b3, b4, b5, b6, -⟩ := seven g0
  obtain ⟨d0, d1, d2, d3, -⟩ := four g1
  have HF2 := Lib.hid (mfind_any eD A1 c1 n ⟨P, N, Q, O, D, T, X⟩ w2 hrd2 Hn.out (by omega))
  unfold stVal at HF2
  simp only at HF2
  have HL2 := Lib.hid hl2
  have HB2 := Lib.hid hb2
  have HP2 := Lib.hid hp2
  have G0 := Lib.hid g0
  have G1 := Lib.hid g1
  have G2 := Lib.hid g2
  clear hl1 hb1 HC K0 K1 K2 k0 k1 k2 hl2 hb2 hp2 hrd2 g0 g1 g2 hbs HF Hr0 HP0 HB0 za ze
  go_wp2_with fail
  try simp only [hw2]
  clear hw2 a0 a1 a2 a3 a4 a5 a6 e0 e1 e2 e3 za0
  refine HF2.out.mono ?_
  rintro e w3 ⟨rfl, hb3⟩
  obtain ⟨pf, hpf⟩ : ∃ pf, findP P eD = pf := ⟨_, rfl⟩
  rw [hpf]
  obtain ⟨p, hpp⟩ : ∃ p, pf.getD p0 = p := ⟨_, rfl⟩
  obtain ⟨q, hq⟩ : ∃ q, pf.isSome = q := ⟨_, rfl⟩
  rw [hpp, hq]
  have Hpf := Lib.hid (And.intro hpf (And.intro hpp hq))
  obtain ⟨pD, pL, pF⟩ := p
  unfold partVal
  simp only
  have hb4 := Below.one w3 (.cells #[.int .i64 pD, .int .i64 pL, .string (S pF)] 40)
  have hb34 := hb3.trans (hb4.mono hb3.size)
  obtain ⟨W, hW, hs4, g0, g1, g2, g3, hl4, hb4', hp4⟩ : ∃ W, w3.alloc (.cells #[.int .i64 pD, .int .i64 pL, .string (S pF)] 40) = W ∧ B + 3 ≤ w3.heap.size ∧ W.heap[B]? = some (.cells #[.slice A1 n c1, .int .i64 N, .int .i64 Q, .bool O, .int .i64 D, .int .i64 T, .int .i64 X] 25 (0, 0)) ∧ W.heap[B + 1]? = some (.cells #[.int .i64 1, .int .i64 eD, .int .i64 eL, .int .i64 eA] 47 (0, 0)) ∧ W.heap[B + 2]? = some (.cells #[.slice none 0 0, .int .i64 0, .int .i64 0, .bool false, .int .i64 0, .int .i64 0, .int .i64 0] 25 (0, 0)) ∧
      W.heap[w3.heap.size]? = some (.cells #[.int .i64 pD, .int .i64 pL, .string (S pF)] 40 (0, 0)) ∧ Lie (fun k => k < B + 3) 40 3 (.slice A1 n c1) n (P.flatMap partCells) W ∧ Below B w W ∧ Pow W :=
    ⟨_, rfl, by have := hb3.size; omega, (hb34.block B (by omega)).trans G0.out, (hb34.block (B + 1) (by omega)).trans G1.out, (hb34.block (B + 2) (by omega)).trans G2.out, heap_alloc_new _ _, HL2.out.below hb34, HB2.out.trans (hb34.mono (by omega)), HP2.out.below hb34⟩
  have hWs : B + 3 < W.heap.size := by rw [← hW]; simp; omega
  have hq3 : w3.heap.size < W.heap.size := by rw [← hW]; simp
  obtain ⟨q3, hq3'⟩ : ∃ q3, w3.heap.size = q3 := ⟨_, rfl⟩
  rw [hq3'] at g3 hq3 hs4
  obtain ⟨f1, f2⟩ : W.cell? ⟨q3, 1, none⟩ = some (.int .i64 pL) ∧ True := ⟨by rw [Lib.cell_of_heap g3]; rfl, trivial⟩
  have HLW := Lib.hid hl4
  have HBW := Lib.hid hb4'
  have HPW := Lib.hid hp4
  have HG0 := Lib.hid g0
  have HG1 := Lib.hid g1
  have HG2 := Lib.hid g2
  clear hb3 hb4 hb34 HF2 G0 G1 G2 HL2 HB2 HP2 g3 hl4 hb4' hp4 b0 b1 b2 b3 b4 b5 b6 d0 d1 d2 d3 hpf hpp hq hsz1 hs2 f2
  obtain ⟨a0, a1, a2, a3, a4, a5, a6, za⟩ := seven g0
  obtain ⟨e0, e1, e2, e3, ze⟩ := four g1
  obtain ⟨r0, r1, r2, r3, r4, r5, r6, zr⟩ := seven g2
  have za0 := za 0
  have za1 := za 1
  have za2 := za 2
  have za3 := za 3
  have za4 := za 4
  have za5 := za 5
  have za6 := za 6
  have ze1 := ze 1
  have ze2 := ze 2
  have zr0 := zr 0
  have zr1 := zr 1
  have zr2 := zr 2
  have zr3 := zr 3
  have zr4 := zr 4
  have zr5 := zr 5
  have zr6 := zr 6
  clear za ze zr g0 g1 g2
  have hap := app1 (s := ⟨P, N, Q, O, D, T, X⟩) (e := ⟨1, eD, eL, eA⟩) rfl
  simp only at hap
  rw [Hpf.out.1, Hpf.out.2.2, dropS_eq] at hap
  have Hap := Lib.hid hap
  have HD := Lib.hid (delete_at eD (B + 1) (B + 3) A1 c1 n P W e1 (by omega) (by omega) HLW.out Hn.out (by omega))
  clear hap f1
  go_wp2_with fail
  refine HD.out.mono ?_
  rintro e w5 ⟨A5, c5, rfl, hr5, hb5, hf5⟩
  obtain ⟨m, hm⟩ : ∃ m, (P.filter (kp eD)).length = m := ⟨_, rfl⟩
  rw [hm] at hr5 ⊢
  have hpa5 : PAt (B + 3) A5 m (P.filter (kp eD)) w5 := ⟨hr5, hm, hf5⟩
  have g0 := (hb5.block B (by omega)).trans HG0.out
  have g1 := (hb5.block (B + 1) (by omega)).trans HG1.out
  have g2 := (hb5.block (B + 2) (by omega)).trans HG2.out
  clear a0 a1 a2 a3 a4 a5 a6 e0 e1 e2 e3 r0 r1 r2 r3 r4 r5 r6 za0 za1 za2 za3 za4 za5 za6 ze1 ze2 zr0 zr1 zr2 zr3 zr4 zr5 zr6
  obtain ⟨b0, -, -, -, -, -, -, zb⟩ := seven g0
  have zb0 := zb 0
  clear zb
  obtain ⟨W5, hW5, hWs5, g0, g1, g2, hpa5, hb5⟩ : ∃ W5, w5.setCell ⟨B, 0, none⟩ (.slice A5 m c5) = W5 ∧ B + 3 < W5.heap.size ∧ W5.heap[B]? = some (.cells #[.slice A5 m c5, .int .i64 N, .int .i64 Q, .bool O, .int .i64 D, .int .i64 T, .int .i64 X] 25 (0, 0)) ∧ W5.heap[B + 1]? = w5.heap[B + 1]? ∧ W5.heap[B + 2]? = some (.cells #[.slice none 0 0, .int .i64 0, .int .i64 0, .bool false, .int .i64 0, .int .i64 0, .int .i64 0] 25 (0, 0)) ∧ PAt (B + 3) A5 m _ W5 ∧ Below B w W5 :=
    ⟨_, rfl, by have := hb5.size; simp [World.setCell]; omega, by simp [World.setCell, Array.getElem?_modify, g0], Below.heap_setCell _ _ _ _ (by simp), (Below.heap_setCell _ _ _ _ (by simp)).trans g2, hpa5.set (by omega) _, (HBW.out.trans (hb5.mono (by omega))).setCell (p := ⟨B, 0, none⟩) (Nat.le_refl B) _⟩
  have g1 := g1.trans ((by assumption : w5.heap[B + 1]? = some _))
  obtain ⟨a0, a1, a2, a3, a4, a5, a6, za⟩ := seven g0
  obtain ⟨e0, e1, e2, e3, ze⟩ := four g1
  obtain ⟨r0, r1, r2, r3, r4, r5, r6, zr⟩ := seven g2
  have za0 := za 0
  have za1 := za 1
  have za2 := za 2
  have za3 := za 3
  have za4 := za 4
  have za5 := za 5
  have za6 := za 6
  have ze1 := ze 1
  have ze2 := ze 2
  have zr0 := zr 0
  have zr1 := zr 1
  have zr2 := zr 2
  have zr3 := zr 3
  have zr4 := zr 4
  have zr5 := zr 5
  have zr6 := zr 6
  have HG0 := Lib.hid g0
  have HG1 := Lib.hid g1
  have HG2 := Lib.hid g2
  clear za ze zr g0 g1 g2
  have HP5 := Lib.hid hpa5
  have HB5 := Lib.hid hb5
  clear hpa5 hb5
  cases q with
  | false =>
    have HV := Lib.hid (show V = (st0, 170) by rw [← HV0.out]; exact appV_none (by rw [Hap.out]; rfl))
    go_wp2_with fail
    refine bodyPost_ret (v := .tuple #[stVal none 0 0 st0, .int .i64 170]) (by rw [results_cell_tmp rfl]; go_simp; rfl) rfl ⟨none, 0, 0, by rw [HV.out]; rfl, by rw [HV.out]; exact PAt.nil _ _, ?_⟩
    rw [HB.out]
    exact (((((((HB5.out.setCell (p := ⟨B + 2, 0, none⟩) (by simp) _).setCell (p := ⟨B + 2, 1, none⟩) (by simp) _).setCell (p := ⟨B + 2, 2, none⟩) (by simp) _).setCell (p := ⟨B + 2, 3, none⟩) (by simp) _).setCell (p := ⟨B + 2, 4, none⟩) (by simp) _).setCell (p := ⟨B + 2, 5, none⟩) (by simp) _).setCell (p := ⟨B + 2, 6, none⟩) (by simp) _)
  | true =>
    have HVd := Lib.hid (show V = (if O = true ∧ D = eD then ⟨P.filter (kp eD), N, Q, false, 0, 0, 0⟩ else ⟨P.filter (kp eD), N, Q, O, D, T, X⟩, 0) by rw [← HV0.out]; exact appV_some (by rw [Hap.out]; rfl))
    cases O with
    | false =>
      have HV := Lib.hid (show V = (⟨P.filter (kp eD), N, Q, false, D, T, X⟩, 0) by rw [HVd.out, if_neg (by simp)])
      go_wp2_with fail
      refine bodyPost_ret (v := .tuple #[stVal (A5) (m) (c5) ⟨P.filter (kp eD), N, Q, false, D, T, X⟩, .int .i64 0]) (by rw [results_cell_tmp rfl]; go_simp; rfl) rfl ⟨A5, m, c5, by rw [HV.out]; rfl, ?_, ?_⟩
      · rw [HV.out, HB.out]
        exact (((((((HP5.out.set (b := B + 2) (j := 0) (by omega) _).set (b := B + 2) (j := 1) (by omega) _).set (b := B + 2) (j := 2) (by omega) _).set (b := B + 2) (j := 3) (by omega) _).set (b := B + 2) (j := 4) (by omega) _).set (b := B + 2) (j := 5) (by omega) _).set (b := B + 2) (j := 6) (by omega) _).mono (by omega)
      · rw [HB.out]
        exact (((((((HB5.out.setCell (p := ⟨B + 2, 0, none⟩) (by simp) _).setCell (p := ⟨B + 2, 1, none⟩) (by simp) _).setCell (p := ⟨B + 2, 2, none⟩) (by simp) _).setCell (p := ⟨B + 2, 3, none⟩) (by simp) _).setCell (p := ⟨B + 2, 4, none⟩) (by simp) _).setCell (p := ⟨B + 2, 5, none⟩) (by simp) _).setCell (p := ⟨B + 2, 6, none⟩) (by simp) _)
    | true =>
      by_cases hd : D = eD
      · have u1 : (D == eD) = true := beq_iff_eq.2 hd
        have HV := Lib.hid (show V = (⟨P.filter (kp eD), N, Q, false, 0, 0, 0⟩, 0) by rw [HVd.out, if_pos ⟨rfl, hd⟩])
        clear hd
        have HOF := off_any (A5) (m) c5 ⟨P.filter (kp eD), N, Q, true, D, T, X⟩ W5
        unfold stVal offS at HOF
        simp only at HOF
        have HO := Lib.hid HOF
        clear HOF
        go_wp2_with fail
        refine HO.out.mono ?_
        rintro e w9 ⟨rfl, hb9⟩
        have g0 := (hb9.block B (by omega)).trans HG0.out
        have g1 := (hb9.block (B + 1) (by omega)).trans HG1.out
        have g2 := (hb9.block (B + 2) (by omega)).trans HG2.out
        clear a0 a1 a2 a3 a4 a5 a6 e0 e1 e2 e3 r0 r1 r2 r3 r4 r5 r6 za0 za1 za2 za3 za4 za5 za6 ze1 ze2 zr0 zr1 zr2 zr3 zr4 zr5 zr6
        obtain ⟨a0, a1, a2, a3, a4, a5, a6, za⟩ := seven g0
        obtain ⟨e0, e1, e2, e3, ze⟩ := four g1
        obtain ⟨r0, r1, r2, r3, r4, r5, r6, zr⟩ := seven g2
        have za0 := za 0
        have za1 := za 1
        have za2 := za 2
        have za3 := za 3
        have za4 := za 4
        have za5 := za 5
        have za6 := za 6
        have ze1 := ze 1
        have ze2 := ze 2
        have zr0 := zr 0
        have zr1 := zr 1
        have zr2 := zr 2
        have zr3 := zr 3
        have zr4 := zr 4
        have zr5 := zr 5
        have zr6 := zr 6
        have HG0 := Lib.hid g0
        have HG1 := Lib.hid g1
        have HG2 := Lib.hid g2
        clear za ze zr g0 g1 g2
        have HP7 := Lib.hid (HP5.out.below hb9)
        have HB7 := Lib.hid (HB5.out.trans (hb9.mono (by omega)))
        clear hb9
        go_wp2_with fail
        refine bodyPost_ret (v := .tuple #[stVal (A5) (m) (c5) ⟨P.filter (kp eD), N, Q, false, 0, 0, 0⟩, .int .i64 0]) (by rw [results_cell_tmp rfl]; go_simp; rfl) rfl ⟨A5, m, c5, by rw [HV.out]; rfl, ?_, ?_⟩
        · rw [HV.out, HB.out]
          exact ((((((((((((((HP7.out.set (b := B) (j := 0) (by omega) _).set (b := B) (j := 1) (by omega) _).set (b := B) (j := 2) (by omega) _).set (b := B) (j := 3) (by omega) _).set (b := B) (j := 4) (by omega) _).set (b := B) (j := 5) (by omega) _).set (b := B) (j := 6) (by omega) _).set (b := B + 2) (j := 0) (by omega) _).set (b := B + 2) (j := 1) (by omega) _).set (b := B + 2) (j := 2) (by omega) _).set (b := B + 2) (j := 3) (by omega) _).set (b := B + 2) (j := 4) (by omega) _).set (b := B + 2) (j := 5) (by omega) _).set (b := B + 2) (j := 6) (by omega) _).mono (by omega)
        · rw [HB.out]
          exact ((((((((((((((HB7.out.setCell (p := ⟨B, 0, none⟩) (by simp) _).setCell (p := ⟨B, 1, none⟩) (by simp) _).setCell (p := ⟨B, 2, none⟩) (by simp) _).setCell (p := ⟨B, 3, none⟩) (by simp) _).setCell (p := ⟨B, 4, none⟩) (by simp) _).setCell (p := ⟨B, 5, none⟩) (by simp) _).setCell (p := ⟨B, 6, none⟩) (by simp) _).setCell (p := ⟨B + 2, 0, none⟩) (by simp) _).setCell (p := ⟨B + 2, 1, none⟩) (by simp) _).setCell (p := ⟨B + 2, 2, none⟩) (by simp) _).setCell (p := ⟨B + 2, 3, none⟩) (by simp) _).setCell (p := ⟨B + 2, 4, none⟩) (by simp) _).setCell (p := ⟨B + 2, 5, none⟩) (by simp) _).setCell (p := ⟨B + 2, 6, none⟩) (by simp) _)
      · have u1 : (D == eD) = false := beq_eq_false_iff_ne.2 hd
        have HV := Lib.hid (show V = (⟨P.filter (kp eD), N, Q, true, D, T, X⟩, 0) by rw [HVd.out, if_neg (fun h => hd h.2)])
        clear hd
        go_wp2_with fail
        refine bodyPost_ret (v := .tuple #[stVal (A5) (m) (c5) ⟨P.filter (kp eD), N, Q, true, D, T, X⟩, .int .i64 0]) (by rw [results_cell_tmp rfl]; go_simp; rfl) rfl ⟨A5, m, c5, by rw [HV.out]; rfl, ?_, ?_⟩
        · rw [HV.out, HB.out]
          exact (((((((HP5.out.set (b := B + 2) (j := 0) (by omega) _).set (b := B + 2) (j := 1) (by omega) _).set (b := B + 2) (j := 2) (by omega) _).set (b := B + 2) (j := 3) (by omega) _).set (b := B + 2) (j := 4) (by omega) _).set (b := B + 2) (j := 5) (by omega) _).set (b := B + 2) (j := 6) (by omega) _).mono (by omega)
        · rw [HB.out]
          exact (((((((HB5.out.setCell (p := ⟨B + 2, 0, none⟩) (by simp) _).setCell (p := ⟨B + 2, 1, none⟩) (by simp) _).setCell (p := ⟨B + 2, 2, none⟩) (by simp) _).setCell (p := ⟨B + 2, 3, none⟩) (by simp) _).setCell (p := ⟨B + 2, 4, none⟩) (by simp) _).setCell (p := ⟨B + 2, 5, none⟩) (by simp) _).setCell (p := ⟨B + 2, 6, none⟩) (by simp) _)

set_option linter.unusedSimpArgs false in
set_option maxRecDepth 100000 in
set_option maxHeartbeats 8000000 in
theorem mapply_2 (A : Option Addr) (n c : Nat) (s : St) (e : Ed) (w : World) (hr : Rd w 3 A n (s.Parts.flatMap partCells)) (hn : s.Parts.length = n) (hl : n ≤ 100000) (ha : asc s.Parts) (hN0 : 0 ≤ s.Next) (hN1 : s.Next ≤ 1099511627776) (hD0 : 0 ≤ s.Done) (hD1 : s.Done ≤ 5000) (hp : Pow w) (hk : e.Kind = 2) :
    Calls Tryd.prog 17 #[stVal A n c s, edVal e] w (StAt (appV s e) w.heap.size w) := by
  obtain ⟨B, hB⟩ : ∃ B, w.heap.size = B := ⟨_, rfl⟩
  obtain ⟨P, N, Q, O, D, T, X⟩ := s
  obtain ⟨eK, eD, eL, eA⟩ := e
  obtain rfl : eK = 2 := hk
  simp only at hr hn ha hN0 hN1 hD0 hD1
  obtain ⟨V, hV⟩ : ∃ V, appV ⟨P, N, Q, O, D, T, X⟩ ⟨2, eD, eL, eA⟩ = V := ⟨_, rfl⟩
  rw [hV]
  have HV0 := Lib.hid hV
  have HF := Lib.hid (fun w' hr' => mfind_any eD A c n ⟨P, N, Q, O, D, T, X⟩ w' hr' hn (by omega))
  unfold stVal edVal
  simp only
  obtain ⟨w0, hw0, hs0, hb0, k0, k1, k2⟩ : ∃ w0, ((w.alloc (.cells #[.slice A n c, .int .i64 N, .int .i64 Q, .bool O, .int .i64 D, .int .i64 T, .int .i64 X] 25)).alloc (.cells #[.int .i64 2, .int .i64 eD, .int .i64 eL, .int .i64 eA] 47)).alloc (.cells #[.slice none 0 0, .int .i64 0, .int .i64 0, .bool false, .int .i64 0, .int .i64 0, .int .i64 0] 25) = w0 ∧ w0.heap.size = B + 3 ∧ Below B w w0
      ∧ w0.heap[B]? = some (.cells #[.slice A n c, .int .i64 N, .int .i64 Q, .bool O, .int .i64 D, .int .i64 T, .int .i64 X] 25 (0, 0)) ∧ w0.heap[B + 1]? = some (.cells #[.int .i64 2, .int .i64 eD, .int .i64 eL, .int .i64 eA] 47 (0, 0)) ∧ w0.heap[B + 2]? = some (.cells #[.slice none 0 0, .int .i64 0, .int .i64 0, .bool false, .int .i64 0, .int .i64 0, .int .i64 0] 25 (0, 0)) := by
    have n1 := heap_alloc_new w (.cells #[.slice A n c, .int .i64 N, .int .i64 Q, .bool O, .int .i64 D, .int .i64 T, .int .i64 X] 25)
    have n2 := heap_alloc_new (w.alloc (.cells #[.slice A n c, .int .i64 N, .int .i64 Q, .bool O, .int .i64 D, .int .i64 T, .int .i64 X] 25)) (.cells #[.int .i64 2, .int .i64 eD, .int .i64 eL, .int .i64 eA] 47)
    have n3 := heap_alloc_new ((w.alloc (.cells #[.slice A n c, .int .i64 N, .int .i64 Q, .bool O, .int .i64 D, .int .i64 T, .int .i64 X] 25)).alloc (.cells #[.int .i64 2, .int .i64 eD, .int .i64 eL, .int .i64 eA] 47)) (.cells #[.slice none 0 0, .int .i64 0, .int .i64 0, .bool false, .int .i64 0, .int .i64 0, .int .i64 0] 25)
    simp only [World.size_alloc, hB, Nat.add_assoc, Nat.reduceAdd] at n1 n2 n3
    refine ⟨_, rfl, by simp [hB], ?_, ?_, ?_, n3⟩
    · subst hB
      exact (((Below.refl _ _).alloc (Nat.le_refl _) _).alloc (by simp) _).alloc (by simp; omega) _
    · exact (Lib.alloc_old _ _ _ (by simp; omega)).trans ((Lib.alloc_old _ _ _ (by simp; omega)).trans n1)
    · exact (Lib.alloc_old _ _ _ (by simp; omega)).trans n2
  have hgB : 0 < B := hB ▸ hp.2
  have hb0w : Below w.heap.size w w0 := hB ▸ hb0
  have hrd0 := hr.below hb0w
  have HP0 := Lib.hid (hp.below hb0w)
  have HC := Lib.hid (clone_any A c n P w0 hrd0 hn (by omega))
  have Hr0 := Lib.hid hrd0
  have Hn := Lib.hid hn
  have HB := Lib.hid hB
  have HB0 := Lib.hid hb0
  have Ha := Lib.hid ha
  obtain ⟨a0, -, -, -, -, -, -, za⟩ := seven k0
  have za0 := za 0
  have K0 := Lib.hid k0
  have K1 := Lib.hid k1
  have K2 := Lib.hid k2
  clear hr hrd0 hb0 hb0w hn ha hp k0 k1 k2 za hV
  go_enter Tryd.func17, Tryd.ntmps17
  go_wp2_with fail
  try simp only [hw0]
  clear hw0 hB a0 za0
  refine HC.out.mono ?_
  rintro e w1 ⟨A1, c1, rfl, hl1, hb1⟩
  have k0 := (hb1.block B (by omega)).trans K0.out
  have k1 := (hb1.block (B + 1) (by omega)).trans K1.out
  have k2 := (hb1.block (B + 2) (by omega)).trans K2.out
  obtain ⟨a0, a1, a2, a3, a4, a5, a6, za⟩ := seven k0
  obtain ⟨e0, e1, e2, e3, ze⟩ := four k1
  have za0 := za 0
  have hsz1 : B + 3 ≤ w1.heap.size := by have := hb1.size; omega
  rw [hs0] at hl1
  have hbs : Below w0.heap.size w0 (w1.setCell ⟨B, 0, none⟩ (.slice A1 n c1)) → True := fun _ => trivial
  obtain ⟨w2, hw2, hs2, g0, g1, g2, hl2, hb2, hp2, hrd2⟩ : ∃ w2, w1.setCell ⟨B, 0, none⟩ (.slice A1 n c1) = w2 ∧ w2.heap.size = w1.heap.size ∧ w2.heap[B]? = some (.cells #[.slice A1 n c1, .int .i64 N, .int .i64 Q, .bool O, .int .i64 D, .int .i64 T, .int .i64 X] 25 (0, 0)) ∧ w2.heap[B + 1]? = some (.cells #[.int .i64 2, .int .i64 eD, .int .i64 eL, .int .i64 eA] 47 (0, 0)) ∧ w2.heap[B + 2]? = some (.cells #[.slice none 0 0, .int .i64 0, .int .i64 0, .bool false, .int .i64 0, .int .i64 0, .int .i64 0] 25 (0, 0)) ∧
      Lie (fun k => k < B + 3) 40 3 (.slice A1 n c1) n (P.flatMap partCells) w2 ∧ Below B w w2 ∧ Pow w2 ∧ Rd w2 3 A1 n (P.flatMap partCells) := by
    have hl2 := own_set hl1 (show B < B + 3 by omega) 0 (.slice A1 n c1)
    exact ⟨_, rfl, by simp [World.setCell], by simp [World.setCell, Array.getElem?_modify, k0], (Below.heap_setCell _ _ _ _ (by simp)).trans k1, (Below.heap_setCell _ _ _ _ (by simp)).trans k2, hl2, (HB0.out.trans (hb1.mono (by omega))).setCell (p := ⟨B, 0, none⟩) (Nat.le_refl B) _, (HP0.out.below hb1).later (by simp [World.setCell]) (Below.heap_setCell _ _ _ _ (by simp only; omega)), hl2.rd⟩
  obtain ⟨b0, b1, b2, b3, b4, b5, b6, -⟩ := seven g0
  obtain ⟨d0, d1, d2, d3, -⟩ := four g1
  have HF2 := Lib.hid (mfind_any eD A1 c1 n ⟨P, N, Q, O, D, T, X⟩ w2 hrd2 Hn.out (by omega))
  unfold stVal at HF2
  simp only at HF2
  have HL2 := Lib.hid hl2
  have HB2 := Lib.hid hb2
  have HP2 := Lib.hid hp2
  have G0 := Lib.hid g0
  have G1 := Lib.hid g1
  have G2 := Lib.hid g2
  clear hl1 hb1 HC K0 K1 K2 k0 k1 k2 hl2 hb2 hp2 hrd2 g0 g1 g2 hbs HF Hr0 HP0 HB0 za ze
  go_wp2_with fail
  try simp only [hw2]
  clear hw2 a0 a1 a2 a3 a4 a5 a6 e0 e1 e2 e3 za0
  refine HF2.out.mono ?_
  rintro e w3 ⟨rfl, hb3⟩
  obtain ⟨pf, hpf⟩ : ∃ pf, findP P eD = pf := ⟨_, rfl⟩
  rw [hpf]
  obtain ⟨p, hpp⟩ : ∃ p, pf.getD p0 = p := ⟨_, rfl⟩
  obtain ⟨q, hq⟩ : ∃ q, pf.isSome = q := ⟨_, rfl⟩
  rw [hpp, hq]
  have Hpf := Lib.hid (And.intro hpf (And.intro hpp hq))
  obtain ⟨pD, pL, pF⟩ := p
  unfold partVal
  simp only
  have hb4 := Below.one w3 (.cells #[.int .i64 pD, .int .i64 pL, .string (S pF)] 40)
  have hb34 := hb3.trans (hb4.mono hb3.size)
  obtain ⟨W, hW, hs4, g0, g1, g2, g3, hl4, hb4', hp4⟩ : ∃ W, w3.alloc (.cells #[.int .i64 pD, .int .i64 pL, .string (S pF)] 40) = W ∧ B + 3 ≤ w3.heap.size ∧ W.heap[B]? = some (.cells #[.slice A1 n c1, .int .i64 N, .int .i64 Q, .bool O, .int .i64 D, .int .i64 T, .int .i64 X] 25 (0, 0)) ∧ W.heap[B + 1]? = some (.cells #[.int .i64 2, .int .i64 eD, .int .i64 eL, .int .i64 eA] 47 (0, 0)) ∧ W.heap[B + 2]? = some (.cells #[.slice none 0 0, .int .i64 0, .int .i64 0, .bool false, .int .i64 0, .int .i64 0, .int .i64 0] 25 (0, 0)) ∧
      W.heap[w3.heap.size]? = some (.cells #[.int .i64 pD, .int .i64 pL, .string (S pF)] 40 (0, 0)) ∧ Lie (fun k => k < B + 3) 40 3 (.slice A1 n c1) n (P.flatMap partCells) W ∧ Below B w W ∧ Pow W :=
    ⟨_, rfl, by have := hb3.size; omega, (hb34.block B (by omega)).trans G0.out, (hb34.block (B + 1) (by omega)).trans G1.out, (hb34.block (B + 2) (by omega)).trans G2.out, heap_alloc_new _ _, HL2.out.below hb34, HB2.out.trans (hb34.mono (by omega)), HP2.out.below hb34⟩
  have hWs : B + 3 < W.heap.size := by rw [← hW]; simp; omega
  have hq3 : w3.heap.size < W.heap.size := by rw [← hW]; simp
  obtain ⟨q3, hq3'⟩ : ∃ q3, w3.heap.size = q3 := ⟨_, rfl⟩
  rw [hq3'] at g3 hq3 hs4
  obtain ⟨f1, f2⟩ : W.cell? ⟨q3, 1, none⟩ = some (.int .i64 pL) ∧ True := ⟨by rw [Lib.cell_of_heap g3]; rfl, trivial⟩
  have HLW := Lib.hid hl4
  have HBW := Lib.hid hb4'
  have HPW := Lib.hid hp4
  have HG0 := Lib.hid g0
  have HG1 := Lib.hid g1
  have HG2 := Lib.hid g2
  clear hb3 hb4 hb34 HF2 G0 G1 G2 HL2 HB2 HP2 g3 hl4 hb4' hp4 b0 b1 b2 b3 b4 b5 b6 d0 d1 d2 d3 hpf hpp hq hsz1 hs2 f2
  obtain ⟨a0, a1, a2, a3, a4, a5, a6, za⟩ := seven g0
  obtain ⟨e0, e1, e2, e3, ze⟩ := four g1
  obtain ⟨r0, r1, r2, r3, r4, r5, r6, zr⟩ := seven g2
  have za0 := za 0
  have za1 := za 1
  have za2 := za 2
  have za3 := za 3
  have za4 := za 4
  have za5 := za 5
  have za6 := za 6
  have ze1 := ze 1
  have ze2 := ze 2
  have zr0 := zr 0
  have zr1 := zr 1
  have zr2 := zr 2
  have zr3 := zr 3
  have zr4 := zr 4
  have zr5 := zr 5
  have zr6 := zr 6
  clear za ze zr g0 g1 g2
  have hap := app2 (s := ⟨P, N, Q, O, D, T, X⟩) (e := ⟨2, eD, eL, eA⟩) rfl
  simp only at hap
  have HPA := Lib.hid (PAt.of HLW.out Hn.out)
  by_cases c1 : Q < eA ∧ eA ≤ 1099511627776
  · rw [if_pos c1] at hap
    have HV := Lib.hid (show V = (⟨P, N, eA, O, D, T, X⟩, 0) by rw [← HV0.out]; exact appV_some hap)
    have t1 : decide (Q < eA) = true := decide_eq_true c1.1
    have t2 : decide (eA ≤ 1099511627776) = true := decide_eq_true c1.2
    clear c1 hap
    cases O with
    | false =>
      go_wp2_with fail
      refine bodyPost_ret (v := .tuple #[stVal (A1) (n) (c1) ⟨P, N, eA, false, D, T, X⟩, .int .i64 0]) (by rw [results_cell_tmp rfl]; go_simp; rfl) rfl ⟨A1, n, c1, by rw [HV.out]; rfl, ?_, ?_⟩
      · rw [HV.out, HB.out]
        exact ((((((((HPA.out.set (b := B) (j := 2) (by omega) _).set (b := B + 2) (j := 0) (by omega) _).set (b := B + 2) (j := 1) (by omega) _).set (b := B + 2) (j := 2) (by omega) _).set (b := B + 2) (j := 3) (by omega) _).set (b := B + 2) (j := 4) (by omega) _).set (b := B + 2) (j := 5) (by omega) _).set (b := B + 2) (j := 6) (by omega) _).mono (by omega)
      · rw [HB.out]
        exact ((((((((HBW.out.setCell (p := ⟨B, 2, none⟩) (by simp) _).setCell (p := ⟨B + 2, 0, none⟩) (by simp) _).setCell (p := ⟨B + 2, 1, none⟩) (by simp) _).setCell (p := ⟨B + 2, 2, none⟩) (by simp) _).setCell (p := ⟨B + 2, 3, none⟩) (by simp) _).setCell (p := ⟨B + 2, 4, none⟩) (by simp) _).setCell (p := ⟨B + 2, 5, none⟩) (by simp) _).setCell (p := ⟨B + 2, 6, none⟩) (by simp) _)
    | true =>
      by_cases hd : D = eD
      · have u1 : (D == eD) = true := beq_iff_eq.2 hd
        clear hd
        go_wp2_with fail
        refine bodyPost_ret (v := .tuple #[stVal (A1) (n) (c1) ⟨P, N, eA, true, D, T, X⟩, .int .i64 0]) (by rw [results_cell_tmp rfl]; go_simp; rfl) rfl ⟨A1, n, c1, by rw [HV.out]; rfl, ?_, ?_⟩
        · rw [HV.out, HB.out]
          exact ((((((((HPA.out.set (b := B) (j := 2) (by omega) _).set (b := B + 2) (j := 0) (by omega) _).set (b := B + 2) (j := 1) (by omega) _).set (b := B + 2) (j := 2) (by omega) _).set (b := B + 2) (j := 3) (by omega) _).set (b := B + 2) (j := 4) (by omega) _).set (b := B + 2) (j := 5) (by omega) _).set (b := B + 2) (j := 6) (by omega) _).mono (by omega)
        · rw [HB.out]
          exact ((((((((HBW.out.setCell (p := ⟨B, 2, none⟩) (by simp) _).setCell (p := ⟨B + 2, 0, none⟩) (by simp) _).setCell (p := ⟨B + 2, 1, none⟩) (by simp) _).setCell (p := ⟨B + 2, 2, none⟩) (by simp) _).setCell (p := ⟨B + 2, 3, none⟩) (by simp) _).setCell (p := ⟨B + 2, 4, none⟩) (by simp) _).setCell (p := ⟨B + 2, 5, none⟩) (by simp) _).setCell (p := ⟨B + 2, 6, none⟩) (by simp) _)
      · have u1 : (D == eD) = false := beq_eq_false_iff_ne.2 hd
        clear hd
        go_wp2_with fail
        refine bodyPost_ret (v := .tuple #[stVal (A1) (n) (c1) ⟨P, N, eA, true, D, T, X⟩, .int .i64 0]) (by rw [results_cell_tmp rfl]; go_simp; rfl) rfl ⟨A1, n, c1, by rw [HV.out]; rfl, ?_, ?_⟩
        · rw [HV.out, HB.out]
          exact ((((((((HPA.out.set (b := B) (j := 2) (by omega) _).set (b := B + 2) (j := 0) (by omega) _).set (b := B + 2) (j := 1) (by omega) _).set (b := B + 2) (j := 2) (by omega) _).set (b := B + 2) (j := 3) (by omega) _).set (b := B + 2) (j := 4) (by omega) _).set (b := B + 2) (j := 5) (by omega) _).set (b := B + 2) (j := 6) (by omega) _).mono (by omega)
        · rw [HB.out]
          exact ((((((((HBW.out.setCell (p := ⟨B, 2, none⟩) (by simp) _).setCell (p := ⟨B + 2, 0, none⟩) (by simp) _).setCell (p := ⟨B + 2, 1, none⟩) (by simp) _).setCell (p := ⟨B + 2, 2, none⟩) (by simp) _).setCell (p := ⟨B + 2, 3, none⟩) (by simp) _).setCell (p := ⟨B + 2, 4, none⟩) (by simp) _).setCell (p := ⟨B + 2, 5, none⟩) (by simp) _).setCell (p := ⟨B + 2, 6, none⟩) (by simp) _)
  · rw [if_neg c1] at hap
    have HV := Lib.hid (show V = (st0, 170) by rw [← HV0.out]; exact appV_none hap)
    clear hap
    by_cases c2 : Q < eA
    · have t1 : decide (Q < eA) = true := decide_eq_true c2
      have t2 : decide (eA ≤ 1099511627776) = false := decide_eq_false fun h => c1 ⟨c2, h⟩
      clear c1 c2
      go_wp2_with fail
      refine bodyPost_ret (v := .tuple #[stVal none 0 0 st0, .int .i64 170]) (by rw [results_cell_tmp rfl]; go_simp; rfl) rfl ⟨none, 0, 0, by rw [HV.out]; rfl, by rw [HV.out]; exact PAt.nil _ _, ?_⟩
      rw [HB.out]
      exact ((((((((HBW.out.setCell (p := ⟨B, 2, none⟩) (by simp) _).setCell (p := ⟨B + 2, 0, none⟩) (by simp) _).setCell (p := ⟨B + 2, 1, none⟩) (by simp) _).setCell (p := ⟨B + 2, 2, none⟩) (by simp) _).setCell (p := ⟨B + 2, 3, none⟩) (by simp) _).setCell (p := ⟨B + 2, 4, none⟩) (by simp) _).setCell (p := ⟨B + 2, 5, none⟩) (by simp) _).setCell (p := ⟨B + 2, 6, none⟩) (by simp) _)
    · have t1 : decide (Q < eA) = false := decide_eq_false c2
      clear c1 c2
      go_wp2_with fail
      refine bodyPost_ret (v := .tuple #[stVal none 0 0 st0, .int .i64 170]) (by rw [results_cell_tmp rfl]; go_simp; rfl) rfl ⟨none, 0, 0, by rw [HV.out]; rfl, by rw [HV.out]; exact PAt.nil _ _, ?_⟩
      rw [HB.out]
      exact ((((((((HBW.out.setCell (p := ⟨B, 2, none⟩) (by simp) _).setCell (p := ⟨B + 2, 0, none⟩) (by simp) _).setCell (p := ⟨B + 2, 1, none⟩) (by simp) _).setCell (p := ⟨B + 2, 2, none⟩) (by simp) _).setCell (p := ⟨B + 2, 3, none⟩) (by simp) _).setCell (p := ⟨B + 2, 4, none⟩) (by simp) _).setCell (p := ⟨B + 2, 5, none⟩) (by simp) _).setCell (p := ⟨B + 2, 6, none⟩) (by simp) _)

set_option linter.unusedSimpArgs false in
set_option maxRecDepth 100000 in
set_option maxHeartbeats 8000000 in
theorem mapply_7 (A : Option Addr) (n c : Nat) (s : St) (e : Ed) (w : World) (hr : Rd w 3 A n (s.Parts.flatMap partCells)) (hn : s.Parts.length = n) (hl : n ≤ 100000) (ha : asc s.Parts) (hN0 : 0 ≤ s.Next) (hN1 : s.Next ≤ 1099511627776) (hD0 : 0 ≤ s.Done) (hD1 : s.Done ≤ 5000) (hp : Pow w) (hk : e.Kind ≠ 0 ∧ e.Kind ≠ 1 ∧ e.Kind ≠ 2 ∧ e.Kind ≠ 3 ∧ e.Kind ≠ 4 ∧ e.Kind ≠ 5 ∧ e.Kind ≠ 6) :
    Calls Tryd.prog 17 #[stVal A n c s, edVal e] w (StAt (appV s e) w.heap.size w) := by
  obtain ⟨B, hB⟩ : ∃ B, w.heap.size = B := ⟨_, rfl⟩
  obtain ⟨P, N, Q, O, D, T, X⟩ := s
  obtain ⟨eK, eD, eL, eA⟩ := e
  obtain ⟨h0, h1, h2, h3, h4, h5, h6⟩ := hk
  simp only at hr hn ha hN0 hN1 hD0 hD1
  obtain ⟨V, hV⟩ : ∃ V, appV ⟨P, N, Q, O, D, T, X⟩ ⟨eK, eD, eL, eA⟩ = V := ⟨_, rfl⟩
  rw [hV]
  have HV0 := Lib.hid hV
  have HF := Lib.hid (fun w' hr' => mfind_any eD A c n ⟨P, N, Q, O, D, T, X⟩ w' hr' hn (by omega))
  unfold stVal edVal
  simp only
  obtain ⟨w0, hw0, hs0, hb0, k0, k1, k2⟩ : ∃ w0, ((w.alloc (.cells #[.slice A n c, .int .i64 N, .int .i64 Q, .bool O, .int .i64 D, .int .i64 T, .int .i64 X] 25)).alloc (.cells #[.int .i64 eK, .int .i64 eD, .int .i64 eL, .int .i64 eA] 47)).alloc (.cells #[.slice none 0 0, .int .i64 0, .int .i64 0, .bool false, .int .i64 0, .int .i64 0, .int .i64 0] 25) = w0 ∧ w0.heap.size = B + 3 ∧ Below B w w0
      ∧ w0.heap[B]? = some (.cells #[.slice A n c, .int .i64 N, .int .i64 Q, .bool O, .int .i64 D, .int .i64 T, .int .i64 X] 25 (0, 0)) ∧ w0.heap[B + 1]? = some (.cells #[.int .i64 eK, .int .i64 eD, .int .i64 eL, .int .i64 eA] 47 (0, 0)) ∧ w0.heap[B + 2]? = some (.cells #[.slice none 0 0, .int .i64 0, .int .i64 0, .bool false, .int .i64 0, .int .i64 0, .int .i64 0] 25 (0, 0)) := by
    have n1 := heap_alloc_new w (.cells #[.slice A n c, .int .i64 N, .int .i64 Q, .bool O, .int .i64 D, .int .i64 T, .int .i64 X] 25)
    have n2 := heap_alloc_new (w.alloc (.cells #[.slice A n c, .int .i64 N, .int .i64 Q, .bool O, .int .i64 D, .int .i64 T, .int .i64 X] 25)) (.cells #[.int .i64 eK, .int .i64 eD, .int .i64 eL, .int .i64 eA] 47)
    have n3 := heap_alloc_new ((w.alloc (.cells #[.slice A n c, .int .i64 N, .int .i64 Q, .bool O, .int .i64 D, .int .i64 T, .int .i64 X] 25)).alloc (.cells #[.int .i64 eK, .int .i64 eD, .int .i64 eL, .int .i64 eA] 47)) (.cells #[.slice none 0 0, .int .i64 0, .int .i64 0, .bool false, .int .i64 0, .int .i64 0, .int .i64 0] 25)
    simp only [World.size_alloc, hB, Nat.add_assoc, Nat.reduceAdd] at n1 n2 n3
    refine ⟨_, rfl, by simp [hB], ?_, ?_, ?_, n3⟩
    · subst hB
      exact (((Below.refl _ _).alloc (Nat.le_refl _) _).alloc (by simp) _).alloc (by simp; omega) _
    · exact (Lib.alloc_old _ _ _ (by simp; omega)).trans ((Lib.alloc_old _ _ _ (by simp; omega)).trans n1)
    · exact (Lib.alloc_old _ _ _ (by simp; omega)).trans n2
  have hgB : 0 < B := hB ▸ hp.2
  have hb0w : Below w.heap.size w w0 := hB ▸ hb0
  have hrd0 := hr.below hb0w
  have HP0 := Lib.hid (hp.below hb0w)
  have HC := Lib.hid (clone_any A c n P w0 hrd0 hn (by omega))
  have Hr0 := Lib.hid hrd0
  have Hn := Lib.hid hn
  have HB := Lib.hid hB
  have HB0 := Lib.hid hb0
  have Ha := Lib.hid ha
  obtain ⟨a0, -, -, -, -, -, -, za⟩ := seven k0
  have za0 := za 0
  have K0 := Lib.hid k0
  have K1 := Lib.hid k1
  have K2 := Lib.hid k2
  clear hr hrd0 hb0 hb0w hn ha hp k0 k1 k2 za hV
  go_enter Tryd.func17, Tryd.ntmps17
  go_wp2_with fail
  try simp only [hw0]
  clear hw0 hB a0 za0
  refine HC.out.mono ?_
  rintro e w1 ⟨A1, c1, rfl, hl1, hb1⟩
  have k0 := (hb1.block B (by omega)).trans K0.out
  have k1 := (hb1.block (B + 1) (by omega)).trans K1.out
  have k2 := (hb1.block (B + 2) (by omega)).trans K2.out
  obtain ⟨a0, a1, a2, a3, a4, a5, a6, za⟩ := seven k0
  obtain ⟨e0, e1, e2, e3, ze⟩ := four k1
  have za0 := za 0
  have hsz1 : B + 3 ≤ w1.heap.size := by have := hb1.size; omega
  rw [hs0] at hl1
  have hbs : Below w0.heap.size w0 (w1.setCell ⟨B, 0, none⟩ (.slice A1 n c1)) → True := fun _ => trivial
  obtain ⟨w2, hw2, hs2, g0, g1, g2, hl2, hb2, hp2, hrd2⟩ : ∃ w2, w1.setCell ⟨B, 0, none⟩ (.slice A1 n c1) = w2 ∧ w2.heap.size = w1.heap.size ∧ w2.heap[B]? = some (.cells #[.slice A1 n c1, .int .i64 N, .int .i64 Q, .bool O, .int .i64 D, .int .i64 T, .int .i64 X] 25 (0, 0)) ∧ w2.heap[B + 1]? = some (.cells #[.int .i64 eK, .int .i64 eD, .int .i64 eL, .int .i64 eA] 47 (0, 0)) ∧ w2.heap[B + 2]? = some (.cells #[.slice none 0 0, .int .i64 0, .int .i64 0, .bool false, .int .i64 0, .int .i64 0, .int .i64 0] 25 (0, 0)) ∧
      Lie (fun k => k < B + 3) 40 3 (.slice A1 n c1) n (P.flatMap partCells) w2 ∧ Below B w w2 ∧ Pow w2 ∧ Rd w2 3 A1 n (P.flatMap partCells) := by
    have hl2 := own_set hl1 (show B < B + 3 by omega) 0 (.slice A1 n c1)
    exact ⟨_, rfl, by simp [World.setCell], by simp [World.setCell, Array.getElem?_modify, k0], (Below.heap_setCell _ _ _ _ (by simp)).trans k1, (Below.heap_setCell _ _ _ _ (by simp)).trans k2, hl2, (HB0.out.trans (hb1.mono (by omega))).setCell (p := ⟨B, 0, none⟩) (Nat.le_refl B) _, (HP0.out.below hb1).later (by simp [World.setCell]) (Below.heap_setCell _ _ _ _ (by simp only; omega)), hl2.rd⟩
  obtain ⟨b0, b1, b2, b3, b4, b5, b6, -⟩ := seven g0
  obtain ⟨d0, d1, d2, d3, -⟩ := four g1
  have HF2 := Lib.hid (mfind_any eD A1 c1 n ⟨P, N, Q, O, D, T, X⟩ w2 hrd2 Hn.out (by omega))
  unfold stVal at HF2
  simp only at HF2
  have HL2 := Lib.hid hl2
  have HB2 := Lib.hid hb2
  have HP2 := Lib.hid hp2
  have G0 := Lib.hid g0
  have G1 := Lib.hid g1
  have G2 := Lib.hid g2
  clear hl1 hb1 HC K0 K1 K2 k0 k1 k2 hl2 hb2 hp2 hrd2 g0 g1 g2 hbs HF Hr0 HP0 HB0 za ze
  go_wp2_with fail
  try simp only [hw2]
  clear hw2 a0 a1 a2 a3 a4 a5 a6 e0 e1 e2 e3 za0
  refine HF2.out.mono ?_
  rintro e w3 ⟨rfl, hb3⟩
  obtain ⟨pf, hpf⟩ : ∃ pf, findP P eD = pf := ⟨_, rfl⟩
  rw [hpf]
  obtain ⟨p, hpp⟩ : ∃ p, pf.getD p0 = p := ⟨_, rfl⟩
  obtain ⟨q, hq⟩ : ∃ q, pf.isSome = q := ⟨_, rfl⟩
  rw [hpp, hq]
  have Hpf := Lib.hid (And.intro hpf (And.intro hpp hq))
  obtain ⟨pD, pL, pF⟩ := p
  unfold partVal
  simp only
  have hb4 := Below.one w3 (.cells #[.int .i64 pD, .int .i64 pL, .string (S pF)] 40)
  have hb34 := hb3.trans (hb4.mono hb3.size)
  obtain ⟨W, hW, hs4, g0, g1, g2, g3, hl4, hb4', hp4⟩ : ∃ W, w3.alloc (.cells #[.int .i64 pD, .int .i64 pL, .string (S pF)] 40) = W ∧ B + 3 ≤ w3.heap.size ∧ W.heap[B]? = some (.cells #[.slice A1 n c1, .int .i64 N, .int .i64 Q, .bool O, .int .i64 D, .int .i64 T, .int .i64 X] 25 (0, 0)) ∧ W.heap[B + 1]? = some (.cells #[.int .i64 eK, .int .i64 eD, .int .i64 eL, .int .i64 eA] 47 (0, 0)) ∧ W.heap[B + 2]? = some (.cells #[.slice none 0 0, .int .i64 0, .int .i64 0, .bool false, .int .i64 0, .int .i64 0, .int .i64 0] 25 (0, 0)) ∧
      W.heap[w3.heap.size]? = some (.cells #[.int .i64 pD, .int .i64 pL, .string (S pF)] 40 (0, 0)) ∧ Lie (fun k => k < B + 3) 40 3 (.slice A1 n c1) n (P.flatMap partCells) W ∧ Below B w W ∧ Pow W :=
    ⟨_, rfl, by have := hb3.size; omega, (hb34.block B (by omega)).trans G0.out, (hb34.block (B + 1) (by omega)).trans G1.out, (hb34.block (B + 2) (by omega)).trans G2.out, heap_alloc_new _ _, HL2.out.below hb34, HB2.out.trans (hb34.mono (by omega)), HP2.out.below hb34⟩
  have hWs : B + 3 < W.heap.size := by rw [← hW]; simp; omega
  have hq3 : w3.heap.size < W.heap.size := by rw [← hW]; simp
  obtain ⟨q3, hq3'⟩ : ∃ q3, w3.heap.size = q3 := ⟨_, rfl⟩
  rw [hq3'] at g3 hq3 hs4
  obtain ⟨f1, f2⟩ : W.cell? ⟨q3, 1, none⟩ = some (.int .i64 pL) ∧ True := ⟨by rw [Lib.cell_of_heap g3]; rfl, trivial⟩
  have HLW := Lib.hid hl4
  have HBW := Lib.hid hb4'
  have HPW := Lib.hid hp4
  have HG0 := Lib.hid g0
  have HG1 := Lib.hid g1
  have HG2 := Lib.hid g2
  clear hb3 hb4 hb34 HF2 G0 G1 G2 HL2 HB2 HP2 g3 hl4 hb4' hp4 b0 b1 b2 b3 b4 b5 b6 d0 d1 d2 d3 hpf hpp hq hsz1 hs2 f2
  obtain ⟨a0, a1, a2, a3, a4, a5, a6, za⟩ := seven g0
  obtain ⟨e0, e1, e2, e3, ze⟩ := four g1
  obtain ⟨r0, r1, r2, r3, r4, r5, r6, zr⟩ := seven g2
  have za0 := za 0
  have za1 := za 1
  have za2 := za 2
  have za3 := za 3
  have za4 := za 4
  have za5 := za 5
  have za6 := za 6
  have ze1 := ze 1
  have ze2 := ze 2
  have zr0 := zr 0
  have zr1 := zr 1
  have zr2 := zr 2
  have zr3 := zr 3
  have zr4 := zr 4
  have zr5 := zr 5
  have zr6 := zr 6
  clear za ze zr g0 g1 g2
  have HV := Lib.hid (show V = (st0, 170) by rw [← HV0.out]; exact appV_none (app7 h0 h1 h2 h3 h4 h5 h6))
  have t0 : (eK == 0) = false := beq_eq_false_iff_ne.2 h0
  have t1 : (eK == 1) = false := beq_eq_false_iff_ne.2 h1
  have t2 : (eK == 2) = false := beq_eq_false_iff_ne.2 h2
  have t3 : (eK == 3) = false := beq_eq_false_iff_ne.2 h3
  have t4 : (eK == 4) = false := beq_eq_false_iff_ne.2 h4
  have t5 : (eK == 5) = false := beq_eq_false_iff_ne.2 h5
  have t6 : (eK == 6) = false := beq_eq_false_iff_ne.2 h6
  clear h0 h1 h2 h3 h4 h5 h6
  go_wp2_with fail
  refine bodyPost_ret (v := .tuple #[stVal none 0 0 st0, .int .i64 170]) (by rw [results_cell_tmp rfl]; go_simp; rfl) rfl ⟨none, 0, 0, by rw [HV.out]; rfl, by rw [HV.out]; exact PAt.nil _ _, ?_⟩
  rw [HB.out]
  exact (((((((HBW.out.setCell (p := ⟨B + 2, 0, none⟩) (by simp) _).setCell (p := ⟨B + 2, 1, none⟩) (by simp) _).setCell (p := ⟨B + 2, 2, none⟩) (by simp) _).setCell (p := ⟨B + 2, 3, none⟩) (by simp) _).setCell (p := ⟨B + 2, 4, none⟩) (by simp) _).setCell (p := ⟨B + 2, 5, none⟩) (by simp) _).setCell (p := ⟨B + 2, 6, none⟩) (by simp) _)
end Go.Proofs.YtbheoahpaidpmaaDoor
