/-
  The document's Apply.
-/
import Derived.Test.YtbheoahpaidpmaaDoorRManD
namespace Go.Proofs.YtbheoahpaidpmaaDoor
open Go Go.RowKit

set_option linter.unusedSimpArgs false in
set_option maxRecDepth 100000 in
set_option maxHeartbeats 8000000 in
theorem rapply_0 (A : Option Addr) (n c : Nat) (s : St) (e : Ed) (w : World) (hr : Rd w 3 A n (s.Parts.flatMap partCells)) (hn : s.Parts.length = n) (hl : n ≤ 100000) (hN0 : 0 ≤ s.Next) (hD0 : 0 ≤ s.Done) (hD1 : s.Done ≤ 5000) (hk : e.Kind = 0) :
    Calls Tryd.prog 18 #[stVal A n c s, edVal e] w (StAt (appV s e) w.heap.size w) := by
  obtain ⟨B, hB⟩ : ∃ B, w.heap.size = B := ⟨_, rfl⟩
  obtain ⟨P, N, Q, O, D, T, X⟩ := s
  obtain ⟨eK, eD, eL, eA⟩ := e
  obtain rfl : eK = 0 := hk
  simp only at hr hn hN0 hD0 hD1
  obtain ⟨V, hV⟩ : ∃ V, appV ⟨P, N, Q, O, D, T, X⟩ ⟨0, eD, eL, eA⟩ = V := ⟨_, rfl⟩
  rw [hV]
  have HV0 := Lib.hid hV
  have HOW := Lib.hid (fun w' hr' => rown_any A n c ⟨P, N, Q, O, D, T, X⟩ w' hr' (by omega))
  unfold stVal at HOW ⊢
  unfold edVal
  simp only at HOW ⊢
  obtain ⟨w0, hw0, hs0, hb0, k0, k1, k2⟩ : ∃ w0, ((w.alloc (.cells #[.slice A n c, .int .i64 N, .int .i64 Q, .bool O, .int .i64 D, .int .i64 T, .int .i64 X] 31)).alloc (.cells #[.int .i64 0, .int .i64 eD, .int .i64 eL, .int .i64 eA] 53)).alloc (.cells #[.slice none 0 0, .int .i64 0, .int .i64 0, .bool false, .int .i64 0, .int .i64 0, .int .i64 0] 31) = w0 ∧ w0.heap.size = B + 3 ∧ Below B w w0
      ∧ w0.heap[B]? = some (.cells #[.slice A n c, .int .i64 N, .int .i64 Q, .bool O, .int .i64 D, .int .i64 T, .int .i64 X] 31 (0, 0)) ∧ w0.heap[B + 1]? = some (.cells #[.int .i64 0, .int .i64 eD, .int .i64 eL, .int .i64 eA] 53 (0, 0)) ∧ w0.heap[B + 2]? = some (.cells #[.slice none 0 0, .int .i64 0, .int .i64 0, .bool false, .int .i64 0, .int .i64 0, .int .i64 0] 31 (0, 0)) := by
    have n1 := heap_alloc_new w (.cells #[.slice A n c, .int .i64 N, .int .i64 Q, .bool O, .int .i64 D, .int .i64 T, .int .i64 X] 31)
    have n2 := heap_alloc_new (w.alloc (.cells #[.slice A n c, .int .i64 N, .int .i64 Q, .bool O, .int .i64 D, .int .i64 T, .int .i64 X] 31)) (.cells #[.int .i64 0, .int .i64 eD, .int .i64 eL, .int .i64 eA] 53)
    have n3 := heap_alloc_new ((w.alloc (.cells #[.slice A n c, .int .i64 N, .int .i64 Q, .bool O, .int .i64 D, .int .i64 T, .int .i64 X] 31)).alloc (.cells #[.int .i64 0, .int .i64 eD, .int .i64 eL, .int .i64 eA] 53)) (.cells #[.slice none 0 0, .int .i64 0, .int .i64 0, .bool false, .int .i64 0, .int .i64 0, .int .i64 0] 31)
    simp only [World.size_alloc, hB, Nat.add_assoc, Nat.reduceAdd] at n1 n2 n3
    refine ⟨_, rfl, by simp [hB], ?_, ?_, ?_, n3⟩
    · subst hB
      exact (((Below.refl _ _).alloc (Nat.le_refl _) _).alloc (by simp) _).alloc (by simp; omega) _
    · exact (Lib.alloc_old _ _ _ (by simp; omega)).trans ((Lib.alloc_old _ _ _ (by simp; omega)).trans n1)
    · exact (Lib.alloc_old _ _ _ (by simp; omega)).trans n2
  have hrd0 := hr.below (hB ▸ hb0)
  have HC := Lib.hid (HOW.out w0 hrd0)
  have Hn := Lib.hid hn
  have HB := Lib.hid hB
  have HB0 := Lib.hid hb0
  obtain ⟨a0, a1, a2, a3, a4, a5, a6, za⟩ := seven k0
  have za0 := za 0
  have za1 := za 1
  have za2 := za 2
  have za3 := za 3
  have za4 := za 4
  have za5 := za 5
  have za6 := za 6
  clear za
  have K0 := Lib.hid k0
  have K1 := Lib.hid k1
  have K2 := Lib.hid k2
  clear hr hrd0 hb0 hn k0 k1 k2 hV HOW
  go_enter Tryd.func18, Tryd.ntmps18
  go_wp2_with fail
  try simp only [hw0]
  clear a0 a1 a2 a3 a4 a5 a6 za0 za1 za2 za3 za4 za5 za6
  clear hw0 hB
  refine HC.out.mono ?_
  rintro e w1 ⟨A1, c1, rfl, hp1, hb1⟩
  rw [hs0] at hp1 hb1
  have k0 := (hb1.block B (by omega)).trans K0.out
  have k1 := (hb1.block (B + 1) (by omega)).trans K1.out
  have k2 := (hb1.block (B + 2) (by omega)).trans K2.out
  obtain ⟨a0, a1, a2, a3, a4, a5, a6, za⟩ := seven k0
  have za0 := za 0
  have za1 := za 1
  have za2 := za 2
  have za3 := za 3
  have za4 := za 4
  have za5 := za 5
  have za6 := za 6
  clear za
  obtain ⟨w2, hw2, hs2, g0, g1, g2, hp2, hb2⟩ : ∃ w2, ((((((w1.setCell ⟨B, 0, none⟩ (.slice A1 n c1)).setCell ⟨B, 1, none⟩ (.int .i64 N)).setCell ⟨B, 2, none⟩ (.int .i64 Q)).setCell ⟨B, 3, none⟩ (.bool O)).setCell ⟨B, 4, none⟩ (.int .i64 D)).setCell ⟨B, 5, none⟩ (.int .i64 T)).setCell ⟨B, 6, none⟩ (.int .i64 X) = w2 ∧ B + 3 ≤ w2.heap.size ∧ w2.heap[B]? = some (.cells #[.slice A1 n c1, .int .i64 N, .int .i64 Q, .bool O, .int .i64 D, .int .i64 T, .int .i64 X] 31 (0, 0)) ∧ w2.heap[B + 1]? = some (.cells #[.int .i64 0, .int .i64 eD, .int .i64 eL, .int .i64 eA] 53 (0, 0)) ∧ w2.heap[B + 2]? = some (.cells #[.slice none 0 0, .int .i64 0, .int .i64 0, .bool false, .int .i64 0, .int .i64 0, .int .i64 0] 31 (0, 0)) ∧ PAt (B + 3) A1 n P w2 ∧ Below B w w2 := by
    refine ⟨_, rfl, by have := hb1.size; simp [World.setCell]; omega, by simp [World.setCell, Array.getElem?_modify, k0], ?_, ?_, ?_, ?_⟩
    · exact (Below.heap_setCell _ _ _ _ (by simp)).trans ((Below.heap_setCell _ _ _ _ (by simp)).trans ((Below.heap_setCell _ _ _ _ (by simp)).trans ((Below.heap_setCell _ _ _ _ (by simp)).trans ((Below.heap_setCell _ _ _ _ (by simp)).trans ((Below.heap_setCell _ _ _ _ (by simp)).trans ((Below.heap_setCell _ _ _ _ (by simp)).trans (k1)))))))
    · exact (Below.heap_setCell _ _ _ _ (by simp)).trans ((Below.heap_setCell _ _ _ _ (by simp)).trans ((Below.heap_setCell _ _ _ _ (by simp)).trans ((Below.heap_setCell _ _ _ _ (by simp)).trans ((Below.heap_setCell _ _ _ _ (by simp)).trans ((Below.heap_setCell _ _ _ _ (by simp)).trans ((Below.heap_setCell _ _ _ _ (by simp)).trans (k2)))))))
    · exact (((((((hp1.set (b := B) (j := 0) (by omega) _).set (b := B) (j := 1) (by omega) _).set (b := B) (j := 2) (by omega) _).set (b := B) (j := 3) (by omega) _).set (b := B) (j := 4) (by omega) _).set (b := B) (j := 5) (by omega) _).set (b := B) (j := 6) (by omega) _).mono (Nat.le_refl _)
    · exact ((((((((HB0.out.trans (hb1.mono (by omega))).setCell (p := ⟨B, 0, none⟩) (by simp) _).setCell (p := ⟨B, 1, none⟩) (by simp) _).setCell (p := ⟨B, 2, none⟩) (by simp) _).setCell (p := ⟨B, 3, none⟩) (by simp) _).setCell (p := ⟨B, 4, none⟩) (by simp) _).setCell (p := ⟨B, 5, none⟩) (by simp) _).setCell (p := ⟨B, 6, none⟩) (by simp) _)
  obtain ⟨b0, b1, b2, b3, b4, b5, b6, -⟩ := seven g0
  obtain ⟨d0, d1, d2, d3, -⟩ := four g1
  have HF2 := Lib.hid (rfind_any eD A1 c1 n ⟨P, N, Q, O, D, T, X⟩ w2 hp2.rd Hn.out (by omega))
  unfold stVal at HF2
  simp only at HF2
  have HL2 := Lib.hid hp2
  have HB2 := Lib.hid hb2
  have G0 := Lib.hid g0
  have G1 := Lib.hid g1
  have G2 := Lib.hid g2
  clear hp1 hb1 HC K0 K1 K2 k0 k1 k2 hp2 hb2 g0 g1 g2 HB0
  go_wp2_with fail
  try simp only [hw2]
  clear a0 a1 a2 a3 a4 a5 a6 za0 za1 za2 za3 za4 za5 za6
  clear hw2
  refine HF2.out.mono ?_
  rintro e w3 ⟨rfl, hb3⟩
  obtain ⟨pf, hpf⟩ : ∃ pf, findP P eD = pf := ⟨_, rfl⟩
  rw [hpf]
  obtain ⟨p, hpp⟩ : ∃ p, pf.getD p0 = p := ⟨_, rfl⟩
  obtain ⟨q, hq⟩ : ∃ q, pf.isSome = q := ⟨_, rfl⟩
  rw [hpp, hq]
  have Hpf := Lib.hid (And.intro hpf (And.intro hpp hq))
  obtain ⟨pD, pL, pF⟩ := p
  unfold partVal
  simp only
  have hb4 := Below.one w3 (.cells #[.int .i64 pD, .int .i64 pL, .string (S pF)] 43)
  have hb34 := hb3.trans (hb4.mono hb3.size)
  obtain ⟨W, hW, hs4, g0, g1, g2, g3, hl4, hb4'⟩ : ∃ W, w3.alloc (.cells #[.int .i64 pD, .int .i64 pL, .string (S pF)] 43) = W ∧ B + 3 ≤ w3.heap.size ∧ W.heap[B]? = some (.cells #[.slice A1 n c1, .int .i64 N, .int .i64 Q, .bool O, .int .i64 D, .int .i64 T, .int .i64 X] 31 (0, 0)) ∧ W.heap[B + 1]? = some (.cells #[.int .i64 0, .int .i64 eD, .int .i64 eL, .int .i64 eA] 53 (0, 0)) ∧ W.heap[B + 2]? = some (.cells #[.slice none 0 0, .int .i64 0, .int .i64 0, .bool false, .int .i64 0, .int .i64 0, .int .i64 0] 31 (0, 0)) ∧
      W.heap[w3.heap.size]? = some (.cells #[.int .i64 pD, .int .i64 pL, .string (S pF)] 43 (0, 0)) ∧ PAt (B + 3) A1 n P W ∧ Below B w W :=
    ⟨_, rfl, by have := hb3.size; omega, (hb34.block B (by omega)).trans G0.out, (hb34.block (B + 1) (by omega)).trans G1.out, (hb34.block (B + 2) (by omega)).trans G2.out, heap_alloc_new _ _, HL2.out.below hb34, HB2.out.trans (hb34.mono (by omega))⟩
  have hWs : B + 3 < W.heap.size := by rw [← hW]; simp; omega
  obtain ⟨q3, hq3'⟩ : ∃ q3, w3.heap.size = q3 := ⟨_, rfl⟩
  rw [hq3'] at g3 hs4
  obtain ⟨f1, f2⟩ : W.cell? ⟨q3, 1, none⟩ = some (.int .i64 pL) ∧ True := ⟨by rw [Lib.cell_of_heap g3]; rfl, trivial⟩
  have HPA := Lib.hid hl4
  have HBW := Lib.hid hb4'
  have HG0 := Lib.hid g0
  have HG1 := Lib.hid g1
  have HG2 := Lib.hid g2
  clear hb3 hb4 hb34 HF2 G0 G1 G2 HL2 HB2 g3 hl4 hb4' b0 b1 b2 b3 b4 b5 b6 d0 d1 d2 d3 hpf hpp hq hs2 f2
  obtain ⟨a0, a1, a2, a3, a4, a5, a6, za⟩ := seven g0
  have za0 := za 0
  have za1 := za 1
  have za2 := za 2
  have za3 := za 3
  have za4 := za 4
  have za5 := za 5
  have za6 := za 6
  clear za
  obtain ⟨e0, e1, e2, e3, ze⟩ := four g1
  obtain ⟨r0, r1, r2, r3, r4, r5, r6, zr⟩ := seven g2
  have zr0 := zr 0
  have zr1 := zr 1
  have zr2 := zr 2
  have zr3 := zr 3
  have zr4 := zr 4
  have zr5 := zr 5
  have zr6 := zr 6
  clear zr
  clear ze g0 g1 g2
  have hap := app0 (s := ⟨P, N, Q, O, D, T, X⟩) (e := ⟨0, eD, eL, eA⟩) rfl
  simp only at hap
  have hpv : putV ⟨P, N, Q, O, D, T, X⟩ eD eL = V := by
    rw [← HV0.out]
    unfold putV appV
    rw [hap]
    cases putS ⟨P, N, Q, O, D, T, X⟩ eD eL <;> rfl
  clear hap f1
  have HPU := rput_any eD eL A1 n c1 ⟨P, N, Q, O, D, T, X⟩ W HPA.out.rd Hn.out (by omega) hN0
  rw [hpv] at HPU
  unfold stVal at HPU
  simp only at HPU
  have HPT := Lib.hid HPU
  clear HPU
  go_wp2_with fail
  refine HPT.out.mono ?_
  rintro e w9 ⟨A9, n9, c9, rfl, hp9, hb9⟩
  have HP9 := Lib.hid hp9
  clear hp9
  have g2 := (hb9.block (B + 2) (by omega)).trans HG2.out
  clear a0 a1 a2 a3 a4 a5 a6 za0 za1 za2 za3 za4 za5 za6 r0 r1 r2 r3 r4 r5 r6 zr0 zr1 zr2 zr3 zr4 zr5 zr6
  obtain ⟨r0, r1, r2, r3, r4, r5, r6, zr⟩ := seven g2
  have zr0 := zr 0
  have zr1 := zr 1
  have zr2 := zr 2
  have zr3 := zr 3
  have zr4 := zr 4
  have zr5 := zr 5
  have zr6 := zr 6
  clear zr
  have HB9 := Lib.hid (HBW.out.trans (hb9.mono (by omega)))
  clear g2 hb9
  obtain ⟨⟨L9, N9, Q9, O9, D9, T9, X9⟩, v9⟩ := V
  unfold stVal
  simp only at HP9 ⊢
  go_wp2_with fail
  refine bodyPost_ret (v := .tuple #[stVal A9 n9 c9 ⟨L9, N9, Q9, O9, D9, T9, X9⟩, .int .i64 v9]) (by rw [results_cell_tmp rfl]; go_simp; rfl) rfl ⟨A9, n9, c9, rfl, ?_, ?_⟩
  · rw [HB.out]
    exact (((((((HP9.out.set (b := B + 2) (j := 0) (by omega) _).set (b := B + 2) (j := 1) (by omega) _).set (b := B + 2) (j := 2) (by omega) _).set (b := B + 2) (j := 3) (by omega) _).set (b := B + 2) (j := 4) (by omega) _).set (b := B + 2) (j := 5) (by omega) _).set (b := B + 2) (j := 6) (by omega) _).mono (by omega)
  · rw [HB.out]
    exact (((((((HB9.out.setCell (p := ⟨B + 2, 0, none⟩) (by simp) _).setCell (p := ⟨B + 2, 1, none⟩) (by simp) _).setCell (p := ⟨B + 2, 2, none⟩) (by simp) _).setCell (p := ⟨B + 2, 3, none⟩) (by simp) _).setCell (p := ⟨B + 2, 4, none⟩) (by simp) _).setCell (p := ⟨B + 2, 5, none⟩) (by simp) _).setCell (p := ⟨B + 2, 6, none⟩) (by simp) _)

set_option linter.unusedSimpArgs false in
set_option maxRecDepth 100000 in
set_option maxHeartbeats 8000000 in
theorem rapply_1 (A : Option Addr) (n c : Nat) (s : St) (e : Ed) (w : World) (hr : Rd w 3 A n (s.Parts.flatMap partCells)) (hn : s.Parts.length = n) (hl : n ≤ 100000) (hN0 : 0 ≤ s.Next) (hD0 : 0 ≤ s.Done) (hD1 : s.Done ≤ 5000) (hk : e.Kind = 1) :
    Calls Tryd.prog 18 #[stVal A n c s, edVal e] w (StAt (appV s e) w.heap.size w) := by
  obtain ⟨B, hB⟩ : ∃ B, w.heap.size = B := ⟨_, rfl⟩
  obtain ⟨P, N, Q, O, D, T, X⟩ := s
  obtain ⟨eK, eD, eL, eA⟩ := e
  obtain rfl : eK = 1 := hk
  simp only at hr hn hN0 hD0 hD1
  obtain ⟨V, hV⟩ : ∃ V, appV ⟨P, N, Q, O, D, T, X⟩ ⟨1, eD, eL, eA⟩ = V := ⟨_, rfl⟩
  rw [hV]
  have HV0 := Lib.hid hV
  have HOW := Lib.hid (fun w' hr' => rown_any A n c ⟨P, N, Q, O, D, T, X⟩ w' hr' (by omega))
  unfold stVal at HOW ⊢
  unfold edVal
  simp only at HOW ⊢
  obtain ⟨w0, hw0, hs0, hb0, k0, k1, k2⟩ : ∃ w0, ((w.alloc (.cells #[.slice A n c, .int .i64 N, .int .i64 Q, .bool O, .int .i64 D, .int .i64 T, .int .i64 X] 31)).alloc (.cells #[.int .i64 1, .int .i64 eD, .int .i64 eL, .int .i64 eA] 53)).alloc (.cells #[.slice none 0 0, .int .i64 0, .int .i64 0, .bool false, .int .i64 0, .int .i64 0, .int .i64 0] 31) = w0 ∧ w0.heap.size = B + 3 ∧ Below B w w0
      ∧ w0.heap[B]? = some (.cells #[.slice A n c, .int .i64 N, .int .i64 Q, .bool O, .int .i64 D, .int .i64 T, .int .i64 X] 31 (0, 0)) ∧ w0.heap[B + 1]? = some (.cells #[.int .i64 1, .int .i64 eD, .int .i64 eL, .int .i64 eA] 53 (0, 0)) ∧ w0.heap[B + 2]? = some (.cells #[.slice none 0 0, .int .i64 0, .int .i64 0, .bool false, .int .i64 0, .int .i64 0, .int .i64 0] 31 (0, 0)) := by
    have n1 := heap_alloc_new w (.cells #[.slice A n c, .int .i64 N, .int .i64 Q, .bool O, .int .i64 D, .int .i64 T, .int .i64 X] 31)
    have n2 := heap_alloc_new (w.alloc (.cells #[.slice A n c, .int .i64 N, .int .i64 Q, .bool O, .int .i64 D, .int .i64 T, .int .i64 X] 31)) (.cells #[.int .i64 1, .int .i64 eD, .int .i64 eL, .int .i64 eA] 53)
    have n3 := heap_alloc_new ((w.alloc (.cells #[.slice A n c, .int .i64 N, .int .i64 Q, .bool O, .int .i64 D, .int .i64 T, .int .i64 X] 31)).alloc (.cells #[.int .i64 1, .int .i64 eD, .int .i64 eL, .int .i64 eA] 53)) (.cells #[.slice none 0 0, .int .i64 0, .int .i64 0, .bool false, .int .i64 0, .int .i64 0, .int .i64 0] 31)
    simp only [World.size_alloc, hB, Nat.add_assoc, Nat.reduceAdd] at n1 n2 n3
    refine ⟨_, rfl, by simp [hB], ?_, ?_, ?_, n3⟩
    · subst hB
      exact (((Below.refl _ _).alloc (Nat.le_refl _) _).alloc (by simp) _).alloc (by simp; omega) _
    · exact (Lib.alloc_old _ _ _ (by simp; omega)).trans ((Lib.alloc_old _ _ _ (by simp; omega)).trans n1)
    · exact (Lib.alloc_old _ _ _ (by simp; omega)).trans n2
  have hrd0 := hr.below (hB ▸ hb0)
  have HC := Lib.hid (HOW.out w0 hrd0)
  have Hn := Lib.hid hn
  have HB := Lib.hid hB
  have HB0 := Lib.hid hb0
  obtain ⟨a0, a1, a2, a3, a4, a5, a6, za⟩ := seven k0
  have za0 := za 0
  have za1 := za 1
  have za2 := za 2
  have za3 := za 3
  have za4 := za 4
  have za5 := za 5
  have za6 := za 6
  clear za
  have K0 := Lib.hid k0
  have K1 := Lib.hid k1
  have K2 := Lib.hid k2
  clear hr hrd0 hb0 hn k0 k1 k2 hV HOW
  go_enter Tryd.func18, Tryd.ntmps18
  go_wp2_with fail
  try simp only [hw0]
  clear a0 a1 a2 a3 a4 a5 a6 za0 za1 za2 za3 za4 za5 za6
  clear hw0 hB
  refine HC.out.mono ?_
  rintro e w1 ⟨A1, c1, rfl, hp1, hb1⟩
  rw [hs0] at hp1 hb1
  have k0 := (hb1.block B (by omega)).trans K0.out
  have k1 := (hb1.block (B + 1) (by omega)).trans K1.out
  have k2 := (hb1.block (B + 2) (by omega)).trans K2.out
  obtain ⟨a0, a1, a2, a3, a4, a5, a6, za⟩ := seven k0
  have za0 := za 0
  have za1 := za 1
  have za2 := za 2
  have za3 := za 3
  have za4 := za 4
  have za5 := za 5
  have za6 := za 6
  clear za
  obtain ⟨w2, hw2, hs2, g0, g1, g2, hp2, hb2⟩ : ∃ w2, ((((((w1.setCell ⟨B, 0, none⟩ (.slice A1 n c1)).setCell ⟨B, 1, none⟩ (.int .i64 N)).setCell ⟨B, 2, none⟩ (.int .i64 Q)).setCell ⟨B, 3, none⟩ (.bool O)).setCell ⟨B, 4, none⟩ (.int .i64 D)).setCell ⟨B, 5, none⟩ (.int .i64 T)).setCell ⟨B, 6, none⟩ (.int .i64 X) = w2 ∧ B + 3 ≤ w2.heap.size ∧ w2.heap[B]? = some (.cells #[.slice A1 n c1, .int .i64 N, .int .i64 Q, .bool O, .int .i64 D, .int .i64 T, .int .i64 X] 31 (0, 0)) ∧ w2.heap[B + 1]? = some (.cells #[.int .i64 1, .int .i64 eD, .int .i64 eL, .int .i64 eA] 53 (0, 0)) ∧ w2.heap[B + 2]? = some (.cells #[.slice none 0 0, .int .i64 0, .int .i64 0, .bool false, .int .i64 0, .int .i64 0, .int .i64 0] 31 (0, 0)) ∧ PAt (B + 3) A1 n P w2 ∧ Below B w w2 := by
    refine ⟨_, rfl, by have := hb1.size; simp [World.setCell]; omega, by simp [World.setCell, Array.getElem?_modify, k0], ?_, ?_, ?_, ?_⟩
    · exact (Below.heap_setCell _ _ _ _ (by simp)).trans ((Below.heap_setCell _ _ _ _ (by simp)).trans ((Below.heap_setCell _ _ _ _ (by simp)).trans ((Below.heap_setCell _ _ _ _ (by simp)).trans ((Below.heap_setCell _ _ _ _ (by simp)).trans ((Below.heap_setCell _ _ _ _ (by simp)).trans ((Below.heap_setCell _ _ _ _ (by simp)).trans (k1)))))))
    · exact (Below.heap_setCell _ _ _ _ (by simp)).trans ((Below.heap_setCell _ _ _ _ (by simp)).trans ((Below.heap_setCell _ _ _ _ (by simp)).trans ((Below.heap_setCell _ _ _ _ (by simp)).trans ((Below.heap_setCell _ _ _ _ (by simp)).trans ((Below.heap_setCell _ _ _ _ (by simp)).trans ((Below.heap_setCell _ _ _ _ (by simp)).trans (k2)))))))
    · exact (((((((hp1.set (b := B) (j := 0) (by omega) _).set (b := B) (j := 1) (by omega) _).set (b := B) (j := 2) (by omega) _).set (b := B) (j := 3) (by omega) _).set (b := B) (j := 4) (by omega) _).set (b := B) (j := 5) (by omega) _).set (b := B) (j := 6) (by omega) _).mono (Nat.le_refl _)
    · exact ((((((((HB0.out.trans (hb1.mono (by omega))).setCell (p := ⟨B, 0, none⟩) (by simp) _).setCell (p := ⟨B, 1, none⟩) (by simp) _).setCell (p := ⟨B, 2, none⟩) (by simp) _).setCell (p := ⟨B, 3, none⟩) (by simp) _).setCell (p := ⟨B, 4, none⟩) (by simp) _).setCell (p := ⟨B, 5, none⟩) (by simp) _).setCell (p := ⟨B, 6, none⟩) (by simp) _)
  obtain ⟨b0, b1, b2, b3, b4, b5, b6, -⟩ := seven g0
  obtain ⟨d0, d1, d2, d3, -⟩ := four g1
  have HF2 := Lib.hid (rfind_any eD A1 c1 n ⟨P, N, Q, O, D, T, X⟩ w2 hp2.rd Hn.out (by omega))
  unfold stVal at HF2
  simp only at HF2
  have HL2 := Lib.hid hp2
  have HB2 := Lib.hid hb2
  have G0 := Lib.hid g0
  have G1 := Lib.hid g1
  have G2 := Lib.hid g2
  clear hp1 hb1 HC K0 K1 K2 k0 k1 k2 hp2 hb2 g0 g1 g2 HB0
  go_wp2_with fail
  try simp only [hw2]
  clear a0 a1 a2 a3 a4 a5 a6 za0 za1 za2 za3 za4 za5 za6
  clear hw2
  refine HF2.out.mono ?_
  rintro e w3 ⟨rfl, hb3⟩
  obtain ⟨pf, hpf⟩ : ∃ pf, findP P eD = pf := ⟨_, rfl⟩
  rw [hpf]
  obtain ⟨p, hpp⟩ : ∃ p, pf.getD p0 = p := ⟨_, rfl⟩
  obtain ⟨q, hq⟩ : ∃ q, pf.isSome = q := ⟨_, rfl⟩
  rw [hpp, hq]
  have Hpf := Lib.hid (And.intro hpf (And.intro hpp hq))
  obtain ⟨pD, pL, pF⟩ := p
  unfold partVal
  simp only
  have hb4 := Below.one w3 (.cells #[.int .i64 pD, .int .i64 pL, .string (S pF)] 43)
  have hb34 := hb3.trans (hb4.mono hb3.size)
  obtain ⟨W, hW, hs4, g0, g1, g2, g3, hl4, hb4'⟩ : ∃ W, w3.alloc (.cells #[.int .i64 pD, .int .i64 pL, .string (S pF)] 43) = W ∧ B + 3 ≤ w3.heap.size ∧ W.heap[B]? = some (.cells #[.slice A1 n c1, .int .i64 N, .int .i64 Q, .bool O, .int .i64 D, .int .i64 T, .int .i64 X] 31 (0, 0)) ∧ W.heap[B + 1]? = some (.cells #[.int .i64 1, .int .i64 eD, .int .i64 eL, .int .i64 eA] 53 (0, 0)) ∧ W.heap[B + 2]? = some (.cells #[.slice none 0 0, .int .i64 0, .int .i64 0, .bool false, .int .i64 0, .int .i64 0, .int .i64 0] 31 (0, 0)) ∧
      W.heap[w3.heap.size]? = some (.cells #[.int .i64 pD, .int .i64 pL, .string (S pF)] 43 (0, 0)) ∧ PAt (B + 3) A1 n P W ∧ Below B w W :=
    ⟨_, rfl, by have := hb3.size; omega, (hb34.block B (by omega)).trans G0.out, (hb34.block (B + 1) (by omega)).trans G1.out, (hb34.block (B + 2) (by omega)).trans G2.out, heap_alloc_new _ _, HL2.out.below hb34, HB2.out.trans (hb34.mono (by omega))⟩
  have hWs : B + 3 < W.heap.size := by rw [← hW]; simp; omega
  obtain ⟨q3, hq3'⟩ : ∃ q3, w3.heap.size = q3 := ⟨_, rfl⟩
  rw [hq3'] at g3 hs4
  obtain ⟨f1, f2⟩ : W.cell? ⟨q3, 1, none⟩ = some (.int .i64 pL) ∧ True := ⟨by rw [Lib.cell_of_heap g3]; rfl, trivial⟩
  have HPA := Lib.hid hl4
  have HBW := Lib.hid hb4'
  have HG0 := Lib.hid g0
  have HG1 := Lib.hid g1
  have HG2 := Lib.hid g2
  clear hb3 hb4 hb34 HF2 G0 G1 G2 HL2 HB2 g3 hl4 hb4' b0 b1 b2 b3 b4 b5 b6 d0 d1 d2 d3 hpf hpp hq hs2 f2
  obtain ⟨a0, a1, a2, a3, a4, a5, a6, za⟩ := seven g0
  have za0 := za 0
  have za1 := za 1
  have za2 := za 2
  have za3 := za 3
  have za4 := za 4
  have za5 := za 5
  have za6 := za 6
  clear za
  obtain ⟨e0, e1, e2, e3, ze⟩ := four g1
  obtain ⟨r0, r1, r2, r3, r4, r5, r6, zr⟩ := seven g2
  have zr0 := zr 0
  have zr1 := zr 1
  have zr2 := zr 2
  have zr3 := zr 3
  have zr4 := zr 4
  have zr5 := zr 5
  have zr6 := zr 6
  clear zr
  clear ze g0 g1 g2
  have hap := app1 (s := ⟨P, N, Q, O, D, T, X⟩) (e := ⟨1, eD, eL, eA⟩) rfl
  simp only at hap
  rw [Hpf.out.1] at hap
  clear f1
  cases pf with
  | none =>
    have HV := Lib.hid (show V = (st0, 170) by rw [← HV0.out]; exact appV_none (by rw [hap]; rfl))
    obtain rfl : false = q := Hpf.out.2.2
    clear hap
    go_wp2_with fail
    refine bodyPost_ret (v := .tuple #[stVal none 0 0 st0, .int .i64 170]) (by rw [results_cell_tmp rfl]; go_simp; rfl) rfl ⟨none, 0, 0, by rw [HV.out]; rfl, by rw [HV.out]; exact PAt.nil _ _, ?_⟩
    rw [HB.out]
    exact (((((((HBW.out.setCell (p := ⟨B + 2, 0, none⟩) (by simp) _).setCell (p := ⟨B + 2, 1, none⟩) (by simp) _).setCell (p := ⟨B + 2, 2, none⟩) (by simp) _).setCell (p := ⟨B + 2, 3, none⟩) (by simp) _).setCell (p := ⟨B + 2, 4, none⟩) (by simp) _).setCell (p := ⟨B + 2, 5, none⟩) (by simp) _).setCell (p := ⟨B + 2, 6, none⟩) (by simp) _)
  | some pp =>
    obtain rfl : true = q := Hpf.out.2.2
    rw [Option.isSome_some, if_pos rfl] at hap
    have HVD := Lib.hid (show V = (dropS ⟨P, N, Q, O, D, T, X⟩ eD, 0) by rw [← HV0.out]; exact appV_some hap)
    have HDU := rdrop_any eD A1 n c1 ⟨P, N, Q, O, D, T, X⟩ W HPA.out.rd Hn.out (by omega)
    unfold stVal at HDU
    simp only at HDU
    have HDT := Lib.hid HDU
    clear HDU hap
    go_wp2_with fail
    refine HDT.out.mono ?_
    rintro e w9 ⟨A9, n9, c9, rfl, hp9, hb9⟩
    have HP9 := Lib.hid hp9
    clear hp9
    have g2 := (hb9.block (B + 2) (by omega)).trans HG2.out
    clear a0 a1 a2 a3 a4 a5 a6 za0 za1 za2 za3 za4 za5 za6 r0 r1 r2 r3 r4 r5 r6 zr0 zr1 zr2 zr3 zr4 zr5 zr6
    obtain ⟨r0, r1, r2, r3, r4, r5, r6, zr⟩ := seven g2
    have zr0 := zr 0
    have zr1 := zr 1
    have zr2 := zr 2
    have zr3 := zr 3
    have zr4 := zr 4
    have zr5 := zr 5
    have zr6 := zr 6
    clear zr
    have HB9 := Lib.hid (HBW.out.trans (hb9.mono (by omega)))
    clear g2 hb9
    obtain ⟨U, hU⟩ : ∃ U, dropS ⟨P, N, Q, O, D, T, X⟩ eD = U := ⟨_, rfl⟩
    rw [hU] at HP9 HVD ⊢
    clear hU
    obtain ⟨L9, N9, Q9, O9, D9, T9, X9⟩ := U
    unfold stVal
    simp only at HP9 ⊢
    go_wp2_with fail
    refine bodyPost_ret (v := .tuple #[stVal A9 n9 c9 ⟨L9, N9, Q9, O9, D9, T9, X9⟩, .int .i64 0]) (by rw [results_cell_tmp rfl]; go_simp; rfl) rfl ⟨A9, n9, c9, by rw [HVD.out]; rfl, ?_, ?_⟩
    · rw [HVD.out, HB.out]
      exact (((((((HP9.out.set (b := B + 2) (j := 0) (by omega) _).set (b := B + 2) (j := 1) (by omega) _).set (b := B + 2) (j := 2) (by omega) _).set (b := B + 2) (j := 3) (by omega) _).set (b := B + 2) (j := 4) (by omega) _).set (b := B + 2) (j := 5) (by omega) _).set (b := B + 2) (j := 6) (by omega) _).mono (by omega)
    · rw [HB.out]
      exact (((((((HB9.out.setCell (p := ⟨B + 2, 0, none⟩) (by simp) _).setCell (p := ⟨B + 2, 1, none⟩) (by simp) _).setCell (p := ⟨B + 2, 2, none⟩) (by simp) _).setCell (p := ⟨B + 2, 3, none⟩) (by simp) _).setCell (p := ⟨B + 2, 4, none⟩) (by simp) _).setCell (p := ⟨B + 2, 5, none⟩) (by simp) _).setCell (p := ⟨B + 2, 6, none⟩) (by simp) _)

set_option linter.unusedSimpArgs false in
set_option maxRecDepth 100000 in
set_option maxHeartbeats 8000000 in
theorem rapply_2 (A : Option Addr) (n c : Nat) (s : St) (e : Ed) (w : World) (hr : Rd w 3 A n (s.Parts.flatMap partCells)) (hn : s.Parts.length = n) (hl : n ≤ 100000) (hN0 : 0 ≤ s.Next) (hD0 : 0 ≤ s.Done) (hD1 : s.Done ≤ 5000) (hk : e.Kind = 2) :
    Calls Tryd.prog 18 #[stVal A n c s, edVal e] w (StAt (appV s e) w.heap.size w) := by
  obtain ⟨B, hB⟩ : ∃ B, w.heap.size = B := ⟨_, rfl⟩
  obtain ⟨P, N, Q, O, D, T, X⟩ := s
  obtain ⟨eK, eD, eL, eA⟩ := e
  obtain rfl : eK = 2 := hk
  simp only at hr hn hN0 hD0 hD1
  obtain ⟨V, hV⟩ : ∃ V, appV ⟨P, N, Q, O, D, T, X⟩ ⟨2, eD, eL, eA⟩ = V := ⟨_, rfl⟩
  rw [hV]
  have HV0 := Lib.hid hV
  have HOW := Lib.hid (fun w' hr' => rown_any A n c ⟨P, N, Q, O, D, T, X⟩ w' hr' (by omega))
  unfold stVal at HOW ⊢
  unfold edVal
  simp only at HOW ⊢
  obtain ⟨w0, hw0, hs0, hb0, k0, k1, k2⟩ : ∃ w0, ((w.alloc (.cells #[.slice A n c, .int .i64 N, .int .i64 Q, .bool O, .int .i64 D, .int .i64 T, .int .i64 X] 31)).alloc (.cells #[.int .i64 2, .int .i64 eD, .int .i64 eL, .int .i64 eA] 53)).alloc (.cells #[.slice none 0 0, .int .i64 0, .int .i64 0, .bool false, .int .i64 0, .int .i64 0, .int .i64 0] 31) = w0 ∧ w0.heap.size = B + 3 ∧ Below B w w0
      ∧ w0.heap[B]? = some (.cells #[.slice A n c, .int .i64 N, .int .i64 Q, .bool O, .int .i64 D, .int .i64 T, .int .i64 X] 31 (0, 0)) ∧ w0.heap[B + 1]? = some (.cells #[.int .i64 2, .int .i64 eD, .int .i64 eL, .int .i64 eA] 53 (0, 0)) ∧ w0.heap[B + 2]? = some (.cells #[.slice none 0 0, .int .i64 0, .int .i64 0, .bool false, .int .i64 0, .int .i64 0, .int .i64 0] 31 (0, 0)) := by
    have n1 := heap_alloc_new w (.cells #[.slice A n c, .int .i64 N, .int .i64 Q, .bool O, .int .i64 D, .int .i64 T, .int .i64 X] 31)
    have n2 := heap_alloc_new (w.alloc (.cells #[.slice A n c, .int .i64 N, .int .i64 Q, .bool O, .int .i64 D, .int .i64 T, .int .i64 X] 31)) (.cells #[.int .i64 2, .int .i64 eD, .int .i64 eL, .int .i64 eA] 53)
    have n3 := heap_alloc_new ((w.alloc (.cells #[.slice A n c, .int .i64 N, .int .i64 Q, .bool O, .int .i64 D, .int .i64 T, .int .i64 X] 31)).alloc (.cells #[.int .i64 2, .int .i64 eD, .int .i64 eL, .int .i64 eA] 53)) (.cells #[.slice none 0 0, .int .i64 0, .int .i64 0, .bool false, .int .i64 0, .int .i64 0, .int .i64 0] 31)
    simp only [World.size_alloc, hB, Nat.add_assoc, Nat.reduceAdd] at n1 n2 n3
    refine ⟨_, rfl, by simp [hB], ?_, ?_, ?_, n3⟩
    · subst hB
      exact (((Below.refl _ _).alloc (Nat.le_refl _) _).alloc (by simp) _).alloc (by simp; omega) _
    · exact (Lib.alloc_old _ _ _ (by simp; omega)).trans ((Lib.alloc_old _ _ _ (by simp; omega)).trans n1)
    · exact (Lib.alloc_old _ _ _ (by simp; omega)).trans n2
  have hrd0 := hr.below (hB ▸ hb0)
  have HC := Lib.hid (HOW.out w0 hrd0)
  have Hn := Lib.hid hn
  have HB := Lib.hid hB
  have HB0 := Lib.hid hb0
  obtain ⟨a0, a1, a2, a3, a4, a5, a6, za⟩ := seven k0
  have za0 := za 0
  have za1 := za 1
  have za2 := za 2
  have za3 := za 3
  have za4 := za 4
  have za5 := za 5
  have za6 := za 6
  clear za
  have K0 := Lib.hid k0
  have K1 := Lib.hid k1
  have K2 := Lib.hid k2
  clear hr hrd0 hb0 hn k0 k1 k2 hV HOW
  go_enter Tryd.func18, Tryd.ntmps18
  go_wp2_with fail
  try simp only [hw0]
  clear a0 a1 a2 a3 a4 a5 a6 za0 za1 za2 za3 za4 za5 za6
  clear hw0 hB
  refine HC.out.mono ?_
  rintro e w1 ⟨A1, c1, rfl, hp1, hb1⟩
  rw [hs0] at hp1 hb1
  have k0 := (hb1.block B (by omega)).trans K0.out
  have k1 := (hb1.block (B + 1) (by omega)).trans K1.out
  have k2 := (hb1.block (B + 2) (by omega)).trans K2.out
  obtain ⟨a0, a1, a2, a3, a4, a5, a6, za⟩ := seven k0
  have za0 := za 0
  have za1 := za 1
  have za2 := za 2
  have za3 := za 3
  have za4 := za 4
  have za5 := za 5
  have za6 := za 6
  clear za
  obtain ⟨w2, hw2, hs2, g0, g1, g2, hp2, hb2⟩ : ∃ w2, ((((((w1.setCell ⟨B, 0, none⟩ (.slice A1 n c1)).setCell ⟨B, 1, none⟩ (.int .i64 N)).setCell ⟨B, 2, none⟩ (.int .i64 Q)).setCell ⟨B, 3, none⟩ (.bool O)).setCell ⟨B, 4, none⟩ (.int .i64 D)).setCell ⟨B, 5, none⟩ (.int .i64 T)).setCell ⟨B, 6, none⟩ (.int .i64 X) = w2 ∧ B + 3 ≤ w2.heap.size ∧ w2.heap[B]? = some (.cells #[.slice A1 n c1, .int .i64 N, .int .i64 Q, .bool O, .int .i64 D, .int .i64 T, .int .i64 X] 31 (0, 0)) ∧ w2.heap[B + 1]? = some (.cells #[.int .i64 2, .int .i64 eD, .int .i64 eL, .int .i64 eA] 53 (0, 0)) ∧ w2.heap[B + 2]? = some (.cells #[.slice none 0 0, .int .i64 0, .int .i64 0, .bool false, .int .i64 0, .int .i64 0, .int .i64 0] 31 (0, 0)) ∧ PAt (B + 3) A1 n P w2 ∧ Below B w w2 := by
    refine ⟨_, rfl, by have := hb1.size; simp [World.setCell]; omega, by simp [World.setCell, Array.getElem?_modify, k0], ?_, ?_, ?_, ?_⟩
    · exact (Below.heap_setCell _ _ _ _ (by simp)).trans ((Below.heap_setCell _ _ _ _ (by simp)).trans ((Below.heap_setCell _ _ _ _ (by simp)).trans ((Below.heap_setCell _ _ _ _ (by simp)).trans ((Below.heap_setCell _ _ _ _ (by simp)).trans ((Below.heap_setCell _ _ _ _ (by simp)).trans ((Below.heap_setCell _ _ _ _ (by simp)).trans (k1)))))))
    · exact (Below.heap_setCell _ _ _ _ (by simp)).trans ((Below.heap_setCell _ _ _ _ (by simp)).trans ((Below.heap_setCell _ _ _ _ (by simp)).trans ((Below.heap_setCell _ _ _ _ (by simp)).trans ((Below.heap_setCell _ _ _ _ (by simp)).trans ((Below.heap_setCell _ _ _ _ (by simp)).trans ((Below.heap_setCell _ _ _ _ (by simp)).trans (k2)))))))
    · exact (((((((hp1.set (b := B) (j := 0) (by omega) _).set (b := B) (j := 1) (by omega) _).set (b := B) (j := 2) (by omega) _).set (b := B) (j := 3) (by omega) _).set (b := B) (j := 4) (by omega) _).set (b := B) (j := 5) (by omega) _).set (b := B) (j := 6) (by omega) _).mono (Nat.le_refl _)
    · exact ((((((((HB0.out.trans (hb1.mono (by omega))).setCell (p := ⟨B, 0, none⟩) (by simp) _).setCell (p := ⟨B, 1, none⟩) (by simp) _).setCell (p := ⟨B, 2, none⟩) (by simp) _).setCell (p := ⟨B, 3, none⟩) (by simp) _).setCell (p := ⟨B, 4, none⟩) (by simp) _).setCell (p := ⟨B, 5, none⟩) (by simp) _).setCell (p := ⟨B, 6, none⟩) (by simp) _)
  obtain ⟨b0, b1, b2, b3, b4, b5, b6, -⟩ := seven g0
  obtain ⟨d0, d1, d2, d3, -⟩ := four g1
  have HF2 := Lib.hid (rfind_any eD A1 c1 n ⟨P, N, Q, O, D, T, X⟩ w2 hp2.rd Hn.out (by omega))
  unfold stVal at HF2
  simp only at HF2
  have HL2 := Lib.hid hp2
  have HB2 := Lib.hid hb2
  have G0 := Lib.hid g0
  have G1 := Lib.hid g1
  have G2 := Lib.hid g2
  clear hp1 hb1 HC K0 K1 K2 k0 k1 k2 hp2 hb2 g0 g1 g2 HB0
  go_wp2_with fail
  try simp only [hw2]
  clear a0 a1 a2 a3 a4 a5 a6 za0 za1 za2 za3 za4 za5 za6
  clear hw2
  refine HF2.out.mono ?_
  rintro e w3 ⟨rfl, hb3⟩
  obtain ⟨pf, hpf⟩ : ∃ pf, findP P eD = pf := ⟨_, rfl⟩
  rw [hpf]
  obtain ⟨p, hpp⟩ : ∃ p, pf.getD p0 = p := ⟨_, rfl⟩
  obtain ⟨q, hq⟩ : ∃ q, pf.isSome = q := ⟨_, rfl⟩
  rw [hpp, hq]
  have Hpf := Lib.hid (And.intro hpf (And.intro hpp hq))
  obtain ⟨pD, pL, pF⟩ := p
  unfold partVal
  simp only
  have hb4 := Below.one w3 (.cells #[.int .i64 pD, .int .i64 pL, .string (S pF)] 43)
  have hb34 := hb3.trans (hb4.mono hb3.size)
  obtain ⟨W, hW, hs4, g0, g1, g2, g3, hl4, hb4'⟩ : ∃ W, w3.alloc (.cells #[.int .i64 pD, .int .i64 pL, .string (S pF)] 43) = W ∧ B + 3 ≤ w3.heap.size ∧ W.heap[B]? = some (.cells #[.slice A1 n c1, .int .i64 N, .int .i64 Q, .bool O, .int .i64 D, .int .i64 T, .int .i64 X] 31 (0, 0)) ∧ W.heap[B + 1]? = some (.cells #[.int .i64 2, .int .i64 eD, .int .i64 eL, .int .i64 eA] 53 (0, 0)) ∧ W.heap[B + 2]? = some (.cells #[.slice none 0 0, .int .i64 0, .int .i64 0, .bool false, .int .i64 0, .int .i64 0, .int .i64 0] 31 (0, 0)) ∧
      W.heap[w3.heap.size]? = some (.cells #[.int .i64 pD, .int .i64 pL, .string (S pF)] 43 (0, 0)) ∧ PAt (B + 3) A1 n P W ∧ Below B w W :=
    ⟨_, rfl, by have := hb3.size; omega, (hb34.block B (by omega)).trans G0.out, (hb34.block (B + 1) (by omega)).trans G1.out, (hb34.block (B + 2) (by omega)).trans G2.out, heap_alloc_new _ _, HL2.out.below hb34, HB2.out.trans (hb34.mono (by omega))⟩
  have hWs : B + 3 < W.heap.size := by rw [← hW]; simp; omega
  obtain ⟨q3, hq3'⟩ : ∃ q3, w3.heap.size = q3 := ⟨_, rfl⟩
  rw [hq3'] at g3 hs4
  obtain ⟨f1, f2⟩ : W.cell? ⟨q3, 1, none⟩ = some (.int .i64 pL) ∧ True := ⟨by rw [Lib.cell_of_heap g3]; rfl, trivial⟩
  have HPA := Lib.hid hl4
  have HBW := Lib.hid hb4'
  have HG0 := Lib.hid g0
  have HG1 := Lib.hid g1
  have HG2 := Lib.hid g2
  clear hb3 hb4 hb34 HF2 G0 G1 G2 HL2 HB2 g3 hl4 hb4' b0 b1 b2 b3 b4 b5 b6 d0 d1 d2 d3 hpf hpp hq hs2 f2
  obtain ⟨a0, a1, a2, a3, a4, a5, a6, za⟩ := seven g0
  have za0 := za 0
  have za1 := za 1
  have za2 := za 2
  have za3 := za 3
  have za4 := za 4
  have za5 := za 5
  have za6 := za 6
  clear za
  obtain ⟨e0, e1, e2, e3, ze⟩ := four g1
  obtain ⟨r0, r1, r2, r3, r4, r5, r6, zr⟩ := seven g2
  have zr0 := zr 0
  have zr1 := zr 1
  have zr2 := zr 2
  have zr3 := zr 3
  have zr4 := zr 4
  have zr5 := zr 5
  have zr6 := zr 6
  clear zr
  clear ze g0 g1 g2
  have hap := app2 (s := ⟨P, N, Q, O, D, T, X⟩) (e := ⟨2, eD, eL, eA⟩) rfl
  simp only at hap
  clear f1
  by_cases c1' : Q < eA
  · have t1 : decide (Q < eA) = true := decide_eq_true c1'
    by_cases c2 : eA ≤ 1099511627776
    · rw [if_pos ⟨c1', c2⟩] at hap
      have HV := Lib.hid (show V = (⟨P, N, eA, O, D, T, X⟩, 0) by rw [← HV0.out]; exact appV_some hap)
      have t2 : decide (eA ≤ 1099511627776) = true := decide_eq_true c2
      clear hap c1' c2
      go_wp2_with fail
      refine bodyPost_ret (v := .tuple #[stVal A1 n c1 ⟨P, N, eA, O, D, T, X⟩, .int .i64 0]) (by rw [results_cell_tmp rfl]; go_simp; rfl) rfl ⟨A1, n, c1, by rw [HV.out]; rfl, ?_, ?_⟩
      · rw [HV.out, HB.out]
        exact ((((((((HPA.out.set (b := B) (j := 2) (by omega) _).set (b := B + 2) (j := 0) (by omega) _).set (b := B + 2) (j := 1) (by omega) _).set (b := B + 2) (j := 2) (by omega) _).set (b := B + 2) (j := 3) (by omega) _).set (b := B + 2) (j := 4) (by omega) _).set (b := B + 2) (j := 5) (by omega) _).set (b := B + 2) (j := 6) (by omega) _).mono (by omega)
      · rw [HB.out]
        exact ((((((((HBW.out.setCell (p := ⟨B, 2, none⟩) (by simp) _).setCell (p := ⟨B + 2, 0, none⟩) (by simp) _).setCell (p := ⟨B + 2, 1, none⟩) (by simp) _).setCell (p := ⟨B + 2, 2, none⟩) (by simp) _).setCell (p := ⟨B + 2, 3, none⟩) (by simp) _).setCell (p := ⟨B + 2, 4, none⟩) (by simp) _).setCell (p := ⟨B + 2, 5, none⟩) (by simp) _).setCell (p := ⟨B + 2, 6, none⟩) (by simp) _)
    · have HV := Lib.hid (show V = (st0, 170) by rw [← HV0.out]; exact appV_none (by rw [hap, if_neg (fun h => c2 h.2)]))
      have t2 : decide (eA ≤ 1099511627776) = false := decide_eq_false c2
      clear hap c1' c2
      go_wp2_with fail
      refine bodyPost_ret (v := .tuple #[stVal none 0 0 st0, .int .i64 170]) (by rw [results_cell_tmp rfl]; go_simp; rfl) rfl ⟨none, 0, 0, by rw [HV.out]; rfl, by rw [HV.out]; exact PAt.nil _ _, ?_⟩
      rw [HB.out]
      exact (((((((HBW.out.setCell (p := ⟨B + 2, 0, none⟩) (by simp) _).setCell (p := ⟨B + 2, 1, none⟩) (by simp) _).setCell (p := ⟨B + 2, 2, none⟩) (by simp) _).setCell (p := ⟨B + 2, 3, none⟩) (by simp) _).setCell (p := ⟨B + 2, 4, none⟩) (by simp) _).setCell (p := ⟨B + 2, 5, none⟩) (by simp) _).setCell (p := ⟨B + 2, 6, none⟩) (by simp) _)
  · have HV := Lib.hid (show V = (st0, 170) by rw [← HV0.out]; exact appV_none (by rw [hap, if_neg (fun h => c1' h.1)]))
    have t1 : decide (Q < eA) = false := decide_eq_false c1'
    clear hap c1'
    go_wp2_with fail
    refine bodyPost_ret (v := .tuple #[stVal none 0 0 st0, .int .i64 170]) (by rw [results_cell_tmp rfl]; go_simp; rfl) rfl ⟨none, 0, 0, by rw [HV.out]; rfl, by rw [HV.out]; exact PAt.nil _ _, ?_⟩
    rw [HB.out]
    exact (((((((HBW.out.setCell (p := ⟨B + 2, 0, none⟩) (by simp) _).setCell (p := ⟨B + 2, 1, none⟩) (by simp) _).setCell (p := ⟨B + 2, 2, none⟩) (by simp) _).setCell (p := ⟨B + 2, 3, none⟩) (by simp) _).setCell (p := ⟨B + 2, 4, none⟩) (by simp) _).setCell (p := ⟨B + 2, 5, none⟩) (by simp) _).setCell (p := ⟨B + 2, 6, none⟩) (by simp) _)
end Go.Proofs.YtbheoahpaidpmaaDoor
