/-
  What the walks of this claim stand on: ManAppA, ManAppB, ManAppC, ManAppD, ManAppE, ManApp, one behind the other.
-/
import Derived.Test.YtbheoahpaidpmaaDoorManAppK
/-! ManAppA -/
namespace Go.Proofs.YtbheoahpaidpmaaDoor
open Go Go.RowKit

set_option linter.unusedSimpArgs false in
set_option maxRecDepth 100000 in
set_option maxHeartbeats 8000000 in
theorem mapply_0 (A : Option Addr) (n c : Nat) (s : St) (e : Ed) (w : World) (hr : Rd w 3 A n (s.Parts.flatMap partCells)) (hn : s.Parts.length = n) (hl : n ≤ 100000) (ha : asc s.Parts) (hN0 : 0 ≤ s.Next) (hN1 : s.Next ≤ 1099511627776) (hD0 : 0 ≤ s.Done) (hD1 : s.Done ≤ 5000) (hp : Pow w) (hk : e.Kind = 0) :
    Calls Tryd.prog 17 #[stVal A n c s, edVal e] w (StAt (appV s e) w.heap.size w) := by
  obtain ⟨B, hB⟩ : ∃ B, w.heap.size = B := ⟨_, rfl⟩
  obtain ⟨P, N, Q, O, D, T, X⟩ := s
  obtain ⟨eK, eD, eL, eA⟩ := e
  obtain rfl : eK = 0 := hk
  simp only at hr hn ha hN0 hN1 hD0 hD1
  obtain ⟨V, hV⟩ : ∃ V, appV ⟨P, N, Q, O, D, T, X⟩ ⟨0, eD, eL, eA⟩ = V := ⟨_, rfl⟩
  rw [hV]
  have HV0 := Lib.hid hV
  have HF := Lib.hid (fun w' hr' => mfind_any eD A c n ⟨P, N, Q, O, D, T, X⟩ w' hr' hn (by omega))
  unfold stVal edVal
  simp only
  obtain ⟨w0, hw0, hs0, hb0, k0, k1, k2⟩ : ∃ w0, ((w.alloc (.cells #[.slice A n c, .int .i64 N, .int .i64 Q, .bool O, .int .i64 D, .int .i64 T, .int .i64 X] 25)).alloc (.cells #[.int .i64 0, .int .i64 eD, .int .i64 eL, .int .i64 eA] 47)).alloc (.cells #[.slice none 0 0, .int .i64 0, .int .i64 0, .bool false, .int .i64 0, .int .i64 0, .int .i64 0] 25) = w0 ∧ w0.heap.size = B + 3 ∧ Below B w w0
      ∧ w0.heap[B]? = some (.cells #[.slice A n c, .int .i64 N, .int .i64 Q, .bool O, .int .i64 D, .int .i64 T, .int .i64 X] 25 (0, 0)) ∧ w0.heap[B + 1]? = some (.cells #[.int .i64 0, .int .i64 eD, .int .i64 eL, .int .i64 eA] 47 (0, 0)) ∧ w0.heap[B + 2]? = some (.cells #[.slice none 0 0, .int .i64 0, .int .i64 0, .bool false, .int .i64 0, .int .i64 0, .int .i64 0] 25 (0, 0)) := by
    have n1 := heap_alloc_new w (.cells #[.slice A n c, .int .i64 N, .int .i64 Q, .bool O, .int .i64 D, .int .i64 T, .int .i64 X] 25)
    have n2 := heap_alloc_new (w.alloc (.cells #[.slice A n c, .int .i64 N, .int .i64 Q, .bool O, .int .i64 D, .int .i64 T, .int .i64 X] 25)) (.cells #[.int .i64 0, .int .i64 eD, .int .i64 eL, .int .i64 eA] 47)
    have n3 := heap_alloc_new ((w.alloc (.cells #[.slice A n c, .int .i64 N, .int .i64 Q, .bool O, .int .i64 D, .int .i64 T, .int .i64 X] 25)).alloc (.cells #[.int .i64 0, .int .i64 eD, .int .i64 eL, .int .i64 eA] 47)) (.cells #[.slice none 0 0, .int .i64 0, .int .i64 0, .bool false, .int .i64 0, .int .i64 0, .int .i64 0] 25)
    simp only [World.size_alloc, hB, Nat.add_assoc, Nat.reduceAdd] at n1 n2 n3
    refine ⟨_, rfl, by simp [hB], ?_, ?_, ?_, n3⟩
    · subst hB
      exact (((Below.refl _ _).alloc (Nat.le_refl _) _).alloc (by simp) _).alloc (by simp; omega) _
    · exact (Lib.alloc_old _ _ _ (by simp; omega)).trans ((Lib.alloc_old _ _ _ (by simp; omega)).trans n1)
    · exact (Lib.alloc_old _ _ _ (by simp; omega)).trans n2
  have hgB : 0 < B := hB ▸ hp.2
  have hb0w : Below w.heap.size w w0 := hB ▸ hb0
  have hrd0 := hr.below hb0w
  have HP0 := Lib.hid (hp.below hb0w)
  have HC := Lib.hid (clone_any A c n P w0 hrd0 hn (by omega))
  have Hr0 := Lib.hid hrd0
  have Hn := Lib.hid hn
  have HB := Lib.hid hB
  have HB0 := Lib.hid hb0
  have Ha := Lib.hid ha
  obtain ⟨a0, -, -, -, -, -, -, za⟩ := seven k0
  have za0 := za 0
  have K0 := Lib.hid k0
  have K1 := Lib.hid k1
  have K2 := Lib.hid k2
  clear hr hrd0 hb0 hb0w hn ha hp k0 k1 k2 za hV
  go_enter Tryd.func17, Tryd.ntmps17
  go_wp2_with fail
  try simp only [hw0]
  clear hw0 hB a0 za0
  refine HC.out.mono ?_
  rintro e w1 ⟨A1, c1, rfl, hl1, hb1⟩
  have k0 := (hb1.block B (by omega)).trans K0.out
  have k1 := (hb1.block (B + 1) (by omega)).trans K1.out
  have k2 := (hb1.block (B + 2) (by omega)).trans K2.out
  obtain ⟨a0, a1, a2, a3, a4, a5, a6, za⟩ := seven k0
  obtain ⟨e0, e1, e2, e3, ze⟩ := four k1
  have za0 := za 0
  have hsz1 : B + 3 ≤ w1.heap.size := by have := hb1.size; omega
  rw [hs0] at hl1
  have hbs : Below w0.heap.size w0 (w1.setCell ⟨B, 0, none⟩ (.slice A1 n c1)) → True := fun _ => trivial
  obtain ⟨w2, hw2, hs2, g0, g1, g2, hl2, hb2, hp2, hrd2⟩ : ∃ w2, w1.setCell ⟨B, 0, none⟩ (.slice A1 n c1) = w2 ∧ w2.heap.size = w1.heap.size ∧ w2.heap[B]? = some (.cells #[.slice A1 n c1, .int .i64 N, .int .i64 Q, .bool O, .int .i64 D, .int .i64 T, .int .i64 X] 25 (0, 0)) ∧ w2.heap[B + 1]? = some (.cells #[.int .i64 0, .int .i64 eD, .int .i64 eL, .int .i64 eA] 47 (0, 0)) ∧ w2.heap[B + 2]? = some (.cells #[.slice none 0 0, .int .i64 0, .int .i64 0, .bool false, .int .i64 0, .int .i64 0, .int .i64 0] 25 (0, 0)) ∧
      Lie (fun k => k < B + 3) 40 3 (.slice A1 n c1) n (P.flatMap partCells) w2 ∧ Below B w w2 ∧ Pow w2 ∧ Rd w2 3 A1 n (P.flatMap partCells) := by
    have hl2 := own_set hl1 (show B < B + 3 by omega) 0 (.slice A1 n c1)
    exact ⟨_, rfl, by simp [World.setCell], by simp [World.setCell, Array.getElem?_modify, k0], (Below.heap_setCell _ _ _ _ (by simp)).trans k1, (Below.heap_setCell _ _ _ _ (by simp)).trans k2, hl2, (HB0.out.trans (hb1.mono (by omega))).setCell (p := ⟨B, 0, none⟩) (Nat.le_refl B) _, (HP0.out.below hb1).later (by simp [World.setCell]) (Below.heap_setCell _ _ _ _ (by simp only; omega)), hl2.rd⟩
  obtain ⟨b0, b1, b2, b3, b4, b5, b6, -⟩ := seven g0
  obtain ⟨d0, d1, d2, d3, -⟩ := four g1
  have HF2 := Lib.hid (mfind_any eD A1 c1 n ⟨P, N, Q, O, D, T, X⟩ w2 hrd2 Hn.out (by omega))
  unfold stVal at HF2
  simp only at HF2
  have HL2 := Lib.hid hl2
  have HB2 := Lib.hid hb2
  have HP2 := Lib.hid hp2
  have G0 := Lib.hid g0
  have G1 := Lib.hid g1
  have G2 := Lib.hid g2
  clear hl1 hb1 HC K0 K1 K2 k0 k1 k2 hl2 hb2 hp2 hrd2 g0 g1 g2 hbs HF Hr0 HP0 HB0 za ze
  go_wp2_with fail
  try simp only [hw2]
  clear hw2 a0 a1 a2 a3 a4 a5 a6 e0 e1 e2 e3 za0
  refine HF2.out.mono ?_
  rintro e w3 ⟨rfl, hb3⟩
  obtain ⟨pf, hpf⟩ : ∃ pf, findP P eD = pf := ⟨_, rfl⟩
  rw [hpf]
  obtain ⟨p, hpp⟩ : ∃ p, pf.getD p0 = p := ⟨_, rfl⟩
  obtain ⟨q, hq⟩ : ∃ q, pf.isSome = q := ⟨_, rfl⟩
  rw [hpp, hq]
  have Hpf := Lib.hid (And.intro hpf (And.intro hpp hq))
  obtain ⟨pD, pL, pF⟩ := p
  unfold partVal
  simp only
  have hb4 := Below.one w3 (.cells #[.int .i64 pD, .int .i64 pL, .string (S pF)] 40)
  have hb34 := hb3.trans (hb4.mono hb3.size)
  obtain ⟨W, hW, hs4, g0, g1, g2, g3, hl4, hb4', hp4⟩ : ∃ W, w3.alloc (.cells #[.int .i64 pD, .int .i64 pL, .string (S pF)] 40) = W ∧ B + 3 ≤ w3.heap.size ∧ W.heap[B]? = some (.cells #[.slice A1 n c1, .int .i64 N, .int .i64 Q, .bool O, .int .i64 D, .int .i64 T, .int .i64 X] 25 (0, 0)) ∧ W.heap[B + 1]? = some (.cells #[.int .i64 0, .int .i64 eD, .int .i64 eL, .int .i64 eA] 47 (0, 0)) ∧ W.heap[B + 2]? = some (.cells #[.slice none 0 0, .int .i64 0, .int .i64 0, .bool false, .int .i64 0, .int .i64 0, .int .i64 0] 25 (0, 0)) ∧
      W.heap[w3.heap.size]? = some (.cells #[.int .i64 pD, .int .i64 pL, .string (S pF)] 40 (0, 0)) ∧ Lie (fun k => k < B + 3) 40 3 (.slice A1 n c1) n (P.flatMap partCells) W ∧ Below B w W ∧ Pow W :=
    ⟨_, rfl, by have := hb3.size; omega, (hb34.block B (by omega)).trans G0.out, (hb34.block (B + 1) (by omega)).trans G1.out, (hb34.block (B + 2) (by omega)).trans G2.out, heap_alloc_new _ _, HL2.out.below hb34, HB2.out.trans (hb34.mono (by omega)), HP2.out.below hb34⟩
  have hWs : B + 3 < W.heap.size := by rw [← hW]; simp; omega
  have hq3 : w3.heap.size < W.heap.size := by rw [← hW]; simp
  obtain ⟨q3, hq3'⟩ : ∃ q3, w3.heap.size = q3 := ⟨_, rfl⟩
  rw [hq3'] at g3 hq3 hs4
  obtain ⟨f1, f2⟩ : W.cell? ⟨q3, 1, none⟩ = some (.int .i64 pL) ∧ True := ⟨by rw [Lib.cell_of_heap g3]; rfl, trivial⟩
  have HLW := Lib.hid hl4
  have HBW := Lib.hid hb4'
  have HPW := Lib.hid hp4
  have HG0 := Lib.hid g0
  have HG1 := Lib.hid g1
  have HG2 := Lib.hid g2
  clear hb3 hb4 hb34 HF2 G0 G1 G2 HL2 HB2 HP2 g3 hl4 hb4' hp4 b0 b1 b2 b3 b4 b5 b6 d0 d1 d2 d3 hpf hpp hq hsz1 hs2 f2
  obtain ⟨a0, a1, a2, a3, a4, a5, a6, za⟩ := seven g0
  obtain ⟨e0, e1, e2, e3, ze⟩ := four g1
  obtain ⟨r0, r1, r2, r3, r4, r5, r6, zr⟩ := seven g2
  have za0 := za 0
  have za1 := za 1
  have za2 := za 2
  have za3 := za 3
  have za4 := za 4
  have za5 := za 5
  have za6 := za 6
  have ze1 := ze 1
  have ze2 := ze 2
  have zr0 := zr 0
  have zr1 := zr 1
  have zr2 := zr 2
  have zr3 := zr 3
  have zr4 := zr 4
  have zr5 := zr 5
  have zr6 := zr 6
  clear za ze zr g0 g1 g2
  have hap := app0 (s := ⟨P, N, Q, O, D, T, X⟩) (e := ⟨0, eD, eL, eA⟩) rfl
  simp only at hap
  have Hap := Lib.hid hap
  clear hap f1
  have HW1 := Lib.hid (fun w => within_any eD 17179869183 w)
  have HW2 := Lib.hid (fun w => within_any eL 1 w)
  rw [within_day] at HW1
  rw [within_bit] at HW2
  by_cases c1' : dayOk eD
  · rw [decide_eq_true c1'] at HW1
    by_cases c2 : bitOk eL
    · rw [decide_eq_true c2] at HW2
      by_cases c3 : N < 1099511627776
      · have HVd := Lib.hid (show V = (if O = true ∧ D = eD then ⟨insP ⟨eD, eL, fileB N⟩ (P.filter (kp eD)), N + 1, Q, false, 0, 0, 0⟩ else ⟨insP ⟨eD, eL, fileB N⟩ (P.filter (kp eD)), N + 1, Q, O, D, T, X⟩, 0) by rw [← HV0.out]; exact appV_some (by rw [Hap.out]; exact putS_ok c1' c2 c3))
        have hk := cntP_le eD P
        obtain ⟨k, hkk⟩ : ∃ k, cntP eD P = k := ⟨_, rfl⟩
        have hkn : k ≤ n := by rw [← Hn.out, ← hkk]; exact hk
        obtain ⟨th, hth⟩ : ∃ th, thereB eD P = th := ⟨_, rfl⟩
        have AT := at_any eD A1 c1 n P W HLW.out.rd Hn.out (by omega) Ha.out
        rw [hkk, hth] at AT
        have HAT := Lib.hid AT
        have Hkk := Lib.hid (And.intro hkk hth)
        have t1 : decide (N < 1099511627776) = true := decide_eq_true c3
        have m9 : IntKind.i64.wrap (N + 1) = N + 1 := by rw [IntKind.wrap_i64]; omega
        clear hk hkk hth AT c3 c1' c2
        go_wp2_with fail
        refine (HW1.out _).mono ?_
        rintro e w4 ⟨rfl, rfl⟩
        go_wp2_with fail
        refine (HW2.out _).mono ?_
        rintro e w4 ⟨rfl, rfl⟩
        go_wp2_with fail
        refine HAT.out.mono ?_
        rintro e w5 ⟨rfl, hb5⟩
        have hl6 := HLW.out.below hb5
        have hw5s : B + 3 < w5.heap.size := by have := hb5.size; omega
        have HB5a := Lib.hid (HBW.out.trans (hb5.mono (by omega)))
        have hp6 := HPW.out.below hb5
        have g0 := (hb5.block B (by omega)).trans HG0.out
        have g1 := (hb5.block (B + 1) (by omega)).trans HG1.out
        have g2 := (hb5.block (B + 2) (by omega)).trans HG2.out
        clear a0 a1 a2 a3 a4 a5 a6 e0 e1 e2 e3 r0 r1 r2 r3 r4 r5 r6 za0 za1 za2 za3 za4 za5 za6 ze1 ze2 zr0 zr1 zr2 zr3 zr4 zr5 zr6
        obtain ⟨a0, a1, a2, a3, a4, a5, a6, za⟩ := seven g0
        obtain ⟨e0, e1, e2, e3, ze⟩ := four g1
        obtain ⟨r0, r1, r2, r3, r4, r5, r6, zr⟩ := seven g2
        have za0 := za 0
        have za1 := za 1
        have za2 := za 2
        have za3 := za 3
        have za4 := za 4
        have za5 := za 5
        have za6 := za 6
        have ze1 := ze 1
        have ze2 := ze 2
        have zr0 := zr 0
        have zr1 := zr 1
        have zr2 := zr 2
        have zr3 := zr 3
        have zr4 := zr 4
        have zr5 := zr 5
        have zr6 := zr 6
        have HG0 := Lib.hid g0
        have HG1 := Lib.hid g1
        have HG2 := Lib.hid g2
        clear za ze zr g0 g1 g2
        clear hb5 HAT HW1 HW2
        cases th with
        | true =>
          have hkL : k < P.length := by
            have := Hkk.out.2
            unfold thereB at this
            split at this
            · rename_i h; rw [Hkk.out.1] at h; exact h
            · cases this
          have hkn' : k < n := by rw [← Hn.out]; exact hkL
          have hlL := Hn.out
          have hlist : insP ⟨eD, eL, fileB N⟩ (P.filter (kp eD)) = P.set k ⟨eD, eL, fileB N⟩ := by
            have h1 := Hkk.out.2
            unfold thereB at h1
            rw [dif_pos (by rw [Hkk.out.1]; exact hkL)] at h1
            have h2 := ins_set (p := ⟨eD, eL, fileB N⟩) Ha.out (by simp only; rw [Hkk.out.1]; exact hkL) (by simpa using h1)
            simp only [Hkk.out.1] at h2
            exact h2
          obtain ⟨g, rfl, -, -⟩ := hl6.own (by omega)
          obtain ⟨gb, off, hA, hgb, s0, s1, s2⟩ := part_at hl6.rd (i := k) hkL
          obtain ⟨rfl, rfl⟩ : g = gb ∧ 0 = off := by simpa using hA
          simp only [Nat.zero_add] at s0 s1 s2
          have y0 := hl6.cell (k * 3)
          have y1 := hl6.cell (k * 3 + 1)
          have y2 := hl6.cell (k * 3 + 2)
          generalize P[k] = old at s0 s1 s2
          have hki : (k : Int) < ((n : Nat) : Int) := by omega
          have hki2 : (k : Int) < (n : Int) + 1 := by omega
          have hki3 : k < n := hkn'
          have hgg : B + 3 ≤ g := Nat.not_lt.1 fun hk => hl6.2 g rfl hk
          have n1 : ¬ B = g := by omega
          have n2 : ¬ B + 1 = g := by omega
          have n3 : ¬ g = B := by omega
          have n4 : ¬ g = B + 1 := by omega
          have n5 : ¬ B + 2 = g := by omega
          have HFI := Lib.hid (fun w' (h : Below w5.heap.size w5 w') => file_any N (by omega) w' (hp6.below h))
          clear hA
          go_wp2_with fail
          go_region_held3 (fun w' => w'.cell? ⟨B, 0, none⟩ = some (.slice (some ⟨g, 0, none⟩) n c1) ∧ w'.cell? ⟨B, 1, none⟩ = some (.int .i64 N) ∧ w'.cell? ⟨B + 1, 1, none⟩ = some (.int .i64 eD) ∧ w'.cell? ⟨B + 1, 2, none⟩ = some (.int .i64 eL))
            (first | go_keep | (go_split_ands; refine ⟨?_, ?_, ?_, ?_⟩ <;> (refine keepc hb7 ?_; first | assumption | go_keep)) | (go_split_ands; refine ⟨?_, ?_, ?_, ?_⟩ <;> (go_simp; first | done | assumption)))
            (first | (go_at_call 19; refine (HFI.out _ (by first | exact Below.refl _ _ | exact (Below.refl _ _).drew | exact below_drewN (Below.refl _ _) _)).mono ?_; rintro e w7 ⟨rfl, hb7⟩; have hb7' := hb7.drewl; have q0 := keepc hb7' s0; have q1 := keepc hb7' s1; have q2 := keepc hb7' s2; have x0 := keepf2 hb7' s0 y0; have x1 := keepf2 hb7' s0 y1; have x2 := keepf2 hb7' s0 y2))
          have hl7 := hl6.below hb7'
          have hb7w : Below B w w7 := HB5a.out.trans (hb7'.mono (by omega))
          have hs7 := hb7'.size
          have g0 := (hb7'.block B (by omega)).trans HG0.out
          have g1 := (hb7'.block (B + 1) (by omega)).trans HG1.out
          have g2 := (hb7'.block (B + 2) (by omega)).trans HG2.out
          clear a0 a1 a2 a3 a4 a5 a6 e0 e1 e2 e3 r0 r1 r2 r3 r4 r5 r6 za0 za1 za2 za3 za4 za5 za6 ze1 ze2 zr0 zr1 zr2 zr3 zr4 zr5 zr6
          obtain ⟨-, b1, -, -, -, -, -, zb⟩ := seven g0
          have zb1 := zb 1
          clear zb
          obtain ⟨W8, hW8, hWs8, g0, g1, g2, hpa8, hb8⟩ : ∃ W8, ((w7.setCell ⟨g, k * 3, none⟩ (.int .i64 eD)).setCell ⟨g, k * 3 + 1, none⟩ (.int .i64 eL)).setCell ⟨g, k * 3 + 2, none⟩ (.string (S (fileB N))) = W8 ∧ B + 3 < W8.heap.size ∧ W8.heap[B]? = w7.heap[B]? ∧ W8.heap[B + 1]? = w7.heap[B + 1]? ∧ W8.heap[B + 2]? = w7.heap[B + 2]? ∧ PAt (B + 3) (some ⟨g, 0, none⟩) (n) ((P).set k ⟨eD, eL, fileB N⟩) W8 ∧ Below B w W8 := by
            refine ⟨_, rfl, by simp [World.setCell]; omega, ?_, ?_, ?_, ?_, ?_⟩
            · exact (Below.heap_setCell _ _ _ _ (by simp only; omega)).trans ((Below.heap_setCell _ _ _ _ (by simp only; omega)).trans (Below.heap_setCell _ _ _ _ (by simp only; omega)))
            · exact (Below.heap_setCell _ _ _ _ (by simp only; omega)).trans ((Below.heap_setCell _ _ _ _ (by simp only; omega)).trans (Below.heap_setCell _ _ _ _ (by simp only; omega)))
            · exact (Below.heap_setCell _ _ _ _ (by simp only; omega)).trans ((Below.heap_setCell _ _ _ _ (by simp only; omega)).trans (Below.heap_setCell _ _ _ _ (by simp only; omega)))
            · refine PAt.of (c := c1) ?_ (by rw [List.length_set]; exact hlL)
              rw [← parts_set k (P) ⟨eD, eL, fileB N⟩ hkL]
              exact ((hl7.store _).store _).store _
            · exact ((hb7w.setCell (p := ⟨g, k * 3, none⟩) (by simp only; omega) _).setCell (p := ⟨g, k * 3 + 1, none⟩) (by simp only; omega) _).setCell (p := ⟨g, k * 3 + 2, none⟩) (by simp only; omega) _
          have k0 := g0.trans (by assumption : w7.heap[B]? = some _)
          have k1 := g1.trans (by assumption : w7.heap[B + 1]? = some _)
          have k2 := g2.trans (by assumption : w7.heap[B + 2]? = some _)
          clear g0 g1 g2
          obtain ⟨-, v1, -, -, -, -, -, zv⟩ := seven k0
          have zv1 := zv 1
          clear zv
          obtain ⟨W5, hW5, hWs5, g0, g1, g2, hpa5, hb5⟩ : ∃ W5, W8.setCell ⟨B, 1, none⟩ (.int .i64 (N + 1)) = W5 ∧ B + 3 < W5.heap.size ∧ W5.heap[B]? = some (.cells #[.slice (some ⟨g, 0, none⟩) (n) c1, .int .i64 (N + 1), .int .i64 Q, .bool O, .int .i64 D, .int .i64 T, .int .i64 X] 25 (0, 0)) ∧ W5.heap[B + 1]? = W8.heap[B + 1]? ∧ W5.heap[B + 2]? = W8.heap[B + 2]? ∧ PAt (B + 3) (some ⟨g, 0, none⟩) (n) ((P).set k ⟨eD, eL, fileB N⟩) W5 ∧ Below B w W5 :=
            ⟨_, rfl, by simp [World.setCell]; omega, by simp [World.setCell, Array.getElem?_modify, k0], Below.heap_setCell _ _ _ _ (by simp), Below.heap_setCell _ _ _ _ (by simp), hpa8.set (by omega) _, hb8.setCell (p := ⟨B, 1, none⟩) (by simp) _⟩
          have g1 := g1.trans k1
          have g2 := g2.trans k2
          rw [hlist] at HVd
          obtain ⟨a0, a1, a2, a3, a4, a5, a6, za⟩ := seven g0
          obtain ⟨e0, e1, e2, e3, ze⟩ := four g1
          obtain ⟨r0, r1, r2, r3, r4, r5, r6, zr⟩ := seven g2
          have za0 := za 0
          have za1 := za 1
          have za2 := za 2
          have za3 := za 3
          have za4 := za 4
          have za5 := za 5
          have za6 := za 6
          have ze1 := ze 1
          have ze2 := ze 2
          have zr0 := zr 0
          have zr1 := zr 1
          have zr2 := zr 2
          have zr3 := zr 3
          have zr4 := zr 4
          have zr5 := zr 5
          have zr6 := zr 6
          have HG0 := Lib.hid g0
          have HG1 := Lib.hid g1
          have HG2 := Lib.hid g2
          clear za ze zr g0 g1 g2
          have HP5 := Lib.hid hpa5
          have HB5 := Lib.hid hb5
          clear hpa5 hb5 hpa8 hb8 hl7 hb7w q0 q1 q2 x0 x1 x2 s0 s1 s2 y0 y1 y2 k0 k1 k2
          cases O with
          | false =>
            have HV := Lib.hid (show V = (⟨(P).set k ⟨eD, eL, fileB N⟩, N + 1, Q, false, D, T, X⟩, 0) by rw [HVd.out, if_neg (by simp)])
            go_wp2_with fail
            refine bodyPost_ret (v := .tuple #[stVal ((some ⟨g, 0, none⟩)) (n) (c1) ⟨(P).set k ⟨eD, eL, fileB N⟩, N + 1, Q, false, D, T, X⟩, .int .i64 0]) (by rw [results_cell_tmp rfl]; go_simp; rfl) rfl ⟨(some ⟨g, 0, none⟩), n, c1, by rw [HV.out]; rfl, ?_, ?_⟩
            · rw [HV.out, HB.out]
              exact (((((((HP5.out.set (b := B + 2) (j := 0) (by omega) _).set (b := B + 2) (j := 1) (by omega) _).set (b := B + 2) (j := 2) (by omega) _).set (b := B + 2) (j := 3) (by omega) _).set (b := B + 2) (j := 4) (by omega) _).set (b := B + 2) (j := 5) (by omega) _).set (b := B + 2) (j := 6) (by omega) _).mono (by omega)
            · rw [HB.out]
              exact (((((((HB5.out.setCell (p := ⟨B + 2, 0, none⟩) (by simp) _).setCell (p := ⟨B + 2, 1, none⟩) (by simp) _).setCell (p := ⟨B + 2, 2, none⟩) (by simp) _).setCell (p := ⟨B + 2, 3, none⟩) (by simp) _).setCell (p := ⟨B + 2, 4, none⟩) (by simp) _).setCell (p := ⟨B + 2, 5, none⟩) (by simp) _).setCell (p := ⟨B + 2, 6, none⟩) (by simp) _)
          | true =>
            by_cases hd : D = eD
            · have u1 : (D == eD) = true := beq_iff_eq.2 hd
              have HV := Lib.hid (show V = (⟨(P).set k ⟨eD, eL, fileB N⟩, N + 1, Q, false, 0, 0, 0⟩, 0) by rw [HVd.out, if_pos ⟨rfl, hd⟩])
              clear hd
              have HOF := off_any ((some ⟨g, 0, none⟩)) (n) c1 ⟨(P).set k ⟨eD, eL, fileB N⟩, N + 1, Q, true, D, T, X⟩ W5
              unfold stVal offS at HOF
              simp only at HOF
              have HO := Lib.hid HOF
              clear HOF
              go_wp2_with fail
              refine HO.out.mono ?_
              rintro e w9 ⟨rfl, hb9⟩
              have g0 := (hb9.block B (by omega)).trans HG0.out
              have g1 := (hb9.block (B + 1) (by omega)).trans HG1.out
              have g2 := (hb9.block (B + 2) (by omega)).trans HG2.out
              clear a0 a1 a2 a3 a4 a5 a6 e0 e1 e2 e3 r0 r1 r2 r3 r4 r5 r6 za0 za1 za2 za3 za4 za5 za6 ze1 ze2 zr0 zr1 zr2 zr3 zr4 zr5 zr6
              obtain ⟨a0, a1, a2, a3, a4, a5, a6, za⟩ := seven g0
              obtain ⟨e0, e1, e2, e3, ze⟩ := four g1
              obtain ⟨r0, r1, r2, r3, r4, r5, r6, zr⟩ := seven g2
              have za0 := za 0
              have za1 := za 1
              have za2 := za 2
              have za3 := za 3
              have za4 := za 4
              have za5 := za 5
              have za6 := za 6
              have ze1 := ze 1
              have ze2 := ze 2
              have zr0 := zr 0
              have zr1 := zr 1
              have zr2 := zr 2
              have zr3 := zr 3
              have zr4 := zr 4
              have zr5 := zr 5
              have zr6 := zr 6
              have HG0 := Lib.hid g0
              have HG1 := Lib.hid g1
              have HG2 := Lib.hid g2
              clear za ze zr g0 g1 g2
              have HP7 := Lib.hid (HP5.out.below hb9)
              have HB7 := Lib.hid (HB5.out.trans (hb9.mono (by omega)))
              clear hb9
              go_wp2_with fail
              refine bodyPost_ret (v := .tuple #[stVal ((some ⟨g, 0, none⟩)) (n) (c1) ⟨(P).set k ⟨eD, eL, fileB N⟩, N + 1, Q, false, 0, 0, 0⟩, .int .i64 0]) (by rw [results_cell_tmp rfl]; go_simp; rfl) rfl ⟨(some ⟨g, 0, none⟩), n, c1, by rw [HV.out]; rfl, ?_, ?_⟩
              · rw [HV.out, HB.out]
                exact ((((((((((((((HP7.out.set (b := B) (j := 0) (by omega) _).set (b := B) (j := 1) (by omega) _).set (b := B) (j := 2) (by omega) _).set (b := B) (j := 3) (by omega) _).set (b := B) (j := 4) (by omega) _).set (b := B) (j := 5) (by omega) _).set (b := B) (j := 6) (by omega) _).set (b := B + 2) (j := 0) (by omega) _).set (b := B + 2) (j := 1) (by omega) _).set (b := B + 2) (j := 2) (by omega) _).set (b := B + 2) (j := 3) (by omega) _).set (b := B + 2) (j := 4) (by omega) _).set (b := B + 2) (j := 5) (by omega) _).set (b := B + 2) (j := 6) (by omega) _).mono (by omega)
              · rw [HB.out]
                exact ((((((((((((((HB7.out.setCell (p := ⟨B, 0, none⟩) (by simp) _).setCell (p := ⟨B, 1, none⟩) (by simp) _).setCell (p := ⟨B, 2, none⟩) (by simp) _).setCell (p := ⟨B, 3, none⟩) (by simp) _).setCell (p := ⟨B, 4, none⟩) (by simp) _).setCell (p := ⟨B, 5, none⟩) (by simp) _).setCell (p := ⟨B, 6, none⟩) (by simp) _).setCell (p := ⟨B + 2, 0, none⟩) (by simp) _).setCell (p := ⟨B + 2, 1, none⟩) (by simp) _).setCell (p := ⟨B + 2, 2, none⟩) (by simp) _).setCell (p := ⟨B + 2, 3, none⟩) (by simp) _).setCell (p := ⟨B + 2, 4, none⟩) (by simp) _).setCell (p := ⟨B + 2, 5, none⟩) (by simp) _).setCell (p := ⟨B + 2, 6, none⟩) (by simp) _)
            · have u1 : (D == eD) = false := beq_eq_false_iff_ne.2 hd
              have HV := Lib.hid (show V = (⟨(P).set k ⟨eD, eL, fileB N⟩, N + 1, Q, true, D, T, X⟩, 0) by rw [HVd.out, if_neg (fun h => hd h.2)])
              clear hd
              go_wp2_with fail
              refine bodyPost_ret (v := .tuple #[stVal ((some ⟨g, 0, none⟩)) (n) (c1) ⟨(P).set k ⟨eD, eL, fileB N⟩, N + 1, Q, true, D, T, X⟩, .int .i64 0]) (by rw [results_cell_tmp rfl]; go_simp; rfl) rfl ⟨(some ⟨g, 0, none⟩), n, c1, by rw [HV.out]; rfl, ?_, ?_⟩
              · rw [HV.out, HB.out]
                exact (((((((HP5.out.set (b := B + 2) (j := 0) (by omega) _).set (b := B + 2) (j := 1) (by omega) _).set (b := B + 2) (j := 2) (by omega) _).set (b := B + 2) (j := 3) (by omega) _).set (b := B + 2) (j := 4) (by omega) _).set (b := B + 2) (j := 5) (by omega) _).set (b := B + 2) (j := 6) (by omega) _).mono (by omega)
              · rw [HB.out]
                exact (((((((HB5.out.setCell (p := ⟨B + 2, 0, none⟩) (by simp) _).setCell (p := ⟨B + 2, 1, none⟩) (by simp) _).setCell (p := ⟨B + 2, 2, none⟩) (by simp) _).setCell (p := ⟨B + 2, 3, none⟩) (by simp) _).setCell (p := ⟨B + 2, 4, none⟩) (by simp) _).setCell (p := ⟨B + 2, 5, none⟩) (by simp) _).setCell (p := ⟨B + 2, 6, none⟩) (by simp) _)
        | false =>
          have hnot : ∀ x ∈ P, x.Day ≠ eD := fun x hx e => by
            obtain ⟨h1, h2⟩ := (there_iff Ha.out).1 ⟨x, hx, e⟩
            have h3 := Hkk.out.2
            unfold thereB at h3
            rw [dif_pos h1, h2] at h3
            simp at h3
          have hlist : insP ⟨eD, eL, fileB N⟩ (P.filter (kp eD)) = (P.take k ++ p0 :: P.drop k).set k ⟨eD, eL, fileB N⟩ := by
            have h2 := ins_new (p := ⟨eD, eL, fileB N⟩) Ha.out hnot
            simp only [Hkk.out.1] at h2
            refine Eq.trans h2 ?_
            rw [List.set_append_right _ _ (by rw [List.length_take]; omega)]
            have h3 : k - (P.take k).length = 0 := by rw [List.length_take, Hn.out]; omega
            rw [h3, List.set_cons_zero]
          have hone := Below.one w5 (.cells #[.int .i64 0, .int .i64 0, .string ⟨#[]⟩] 40)
          have hnc : n ≤ c1 := by
            rcases Nat.eq_zero_or_pos n with h | h
            · omega
            · obtain ⟨_, _, h2, _⟩ := hl6.own h
              exact h2
          have HIN := Lib.hid (insert_any (B + 3) A1 c1 n k w5.heap.size P (w5.alloc (.cells #[.int .i64 0, .int .i64 0, .string ⟨#[]⟩] 40)) (by simp; omega) (hl6.below hone) Hn.out (by omega) hkn (heap_alloc_new _ _) (fun g hg => by have := (hl6.1.lt g hg).2; omega) hnc)
          have m1 : min (k : Int) (n : Int) = k := by omega
          have m2 : (if (n : Int) < (k : Int) then (n : Int) else (k : Int)) = k := by split <;> omega
          clear hnot
          go_wp2_with fail
          refine HIN.out.mono ?_
          rintro e w6 ⟨A6, c6, rfl, hl6', hb6'⟩
          have hb6 : Below (B + 3) w5 w6 := (hone.mono (by omega)).trans hb6'
          have hp6'' := hp6.later hb6.size (hb6.block _ (by omega))
          have HB6a := Lib.hid (HB5a.out.trans (hb6.mono (by omega)))
          have hs6 := hb6.size
          clear hl6 HIN hone hb6' hp6 HB5a
          have g0 := (hb6.block B (by omega)).trans HG0.out
          have g1 := (hb6.block (B + 1) (by omega)).trans HG1.out
          have g2 := (hb6.block (B + 2) (by omega)).trans HG2.out
          clear a0 a1 a2 a3 a4 a5 a6 e0 e1 e2 e3 r0 r1 r2 r3 r4 r5 r6 za0 za1 za2 za3 za4 za5 za6 ze1 ze2 zr0 zr1 zr2 zr3 zr4 zr5 zr6
          obtain ⟨b0, -, -, -, -, -, -, zb⟩ := seven g0
          have zb0 := zb 0
          clear zb
          obtain ⟨W6, hW6, hs66, h0, h1, h2, hl6, HB5a, hp6⟩ : ∃ W6, w6.setCell ⟨B, 0, none⟩ (.slice A6 (n + 1) c6) = W6 ∧ W6.heap.size = w6.heap.size ∧ W6.heap[B]? = some (.cells #[.slice A6 (n + 1) c6, .int .i64 N, .int .i64 Q, .bool O, .int .i64 D, .int .i64 T, .int .i64 X] 25 (0, 0)) ∧ W6.heap[B + 1]? = w6.heap[B + 1]? ∧ W6.heap[B + 2]? = w6.heap[B + 2]? ∧ Lie (fun k => k < B + 3) 40 3 (.slice A6 (n + 1) c6) (n + 1) ((P.take k ++ p0 :: P.drop k).flatMap partCells) W6 ∧ Below B w W6 ∧ Pow W6 :=
            ⟨_, rfl, by simp [World.setCell], by simp [World.setCell, Array.getElem?_modify, g0], Below.heap_setCell _ _ _ _ (by simp), Below.heap_setCell _ _ _ _ (by simp), own_set hl6' (show B < B + 3 by omega) 0 _, HB6a.out.setCell (p := ⟨B, 0, none⟩) (Nat.le_refl B) _, hp6''.later (by simp [World.setCell]) (Below.heap_setCell _ _ _ _ (by simp only; omega))⟩
          have g1' := h1.trans g1
          have g2' := h2.trans g2
          have HB5a := Lib.hid HB5a
          clear g0 g1 g2 h1 h2 hl6' hb6 hp6'' HB6a
          have g0 := h0
          have g1 := g1'
          have g2 := g2'
          clear h0 g1' g2'
          obtain ⟨a0, a1, a2, a3, a4, a5, a6, za⟩ := seven g0
          obtain ⟨e0, e1, e2, e3, ze⟩ := four g1
          obtain ⟨r0, r1, r2, r3, r4, r5, r6, zr⟩ := seven g2
          have za0 := za 0
          have za1 := za 1
          have za2 := za 2
          have za3 := za 3
          have za4 := za 4
          have za5 := za 5
          have za6 := za 6
          have ze1 := ze 1
          have ze2 := ze 2
          have zr0 := zr 0
          have zr1 := zr 1
          have zr2 := zr 2
          have zr3 := zr 3
          have zr4 := zr 4
          have zr5 := zr 5
          have zr6 := zr 6
          have HG0 := Lib.hid g0
          have HG1 := Lib.hid g1
          have HG2 := Lib.hid g2
          clear za ze zr g0 g1 g2
          have hkL : k < (P.take k ++ p0 :: P.drop k).length := by rw [List.length_append, List.length_take, List.length_cons, List.length_drop, Hn.out]; omega
          have hlL : (P.take k ++ p0 :: P.drop k).length = n + 1 := by rw [List.length_append, List.length_take, List.length_cons, List.length_drop, Hn.out]; omega
          have hkn' : k < n + 1 := by omega
          have hw5s : B + 3 < W6.heap.size := by omega
          obtain ⟨g, rfl, -, -⟩ := hl6.own (by omega)
          obtain ⟨gb, off, hA, hgb, s0, s1, s2⟩ := part_at hl6.rd (i := k) hkL
          obtain ⟨rfl, rfl⟩ : g = gb ∧ 0 = off := by simpa using hA
          simp only [Nat.zero_add] at s0 s1 s2
          have y0 := hl6.cell (k * 3)
          have y1 := hl6.cell (k * 3 + 1)
          have y2 := hl6.cell (k * 3 + 2)
          generalize (P.take k ++ p0 :: P.drop k)[k] = old at s0 s1 s2
          have hki : (k : Int) < (((n + 1) : Nat) : Int) := by omega
          have hki2 : (k : Int) < (n : Int) + 1 := by omega
          have hki3 : k < (n + 1) := hkn'
          have hgg : B + 3 ≤ g := Nat.not_lt.1 fun hk => hl6.2 g rfl hk
          have n1 : ¬ B = g := by omega
          have n2 : ¬ B + 1 = g := by omega
          have n3 : ¬ g = B := by omega
          have n4 : ¬ g = B + 1 := by omega
          have n5 : ¬ B + 2 = g := by omega
          have HFI := Lib.hid (fun w' (h : Below W6.heap.size W6 w') => file_any N (by omega) w' (hp6.below h))
          clear hA
          go_wp2_with fail
          go_region_held3 (fun w' => w'.cell? ⟨B, 0, none⟩ = some (.slice (some ⟨g, 0, none⟩) (n + 1) c6) ∧ w'.cell? ⟨B, 1, none⟩ = some (.int .i64 N) ∧ w'.cell? ⟨B + 1, 1, none⟩ = some (.int .i64 eD) ∧ w'.cell? ⟨B + 1, 2, none⟩ = some (.int .i64 eL))
            (first | go_keep | (go_split_ands; refine ⟨?_, ?_, ?_, ?_⟩ <;> (refine keepc hb7 ?_; first | assumption | go_keep)) | (go_split_ands; refine ⟨?_, ?_, ?_, ?_⟩ <;> (go_simp; first | done | assumption)))
            (first | (go_at_call 19; refine (HFI.out _ (by first | exact Below.refl _ _ | exact (Below.refl _ _).drew | exact below_drewN (Below.refl _ _) _)).mono ?_; rintro e w7 ⟨rfl, hb7⟩; have hb7' := hb7.drewl; have q0 := keepc hb7' s0; have q1 := keepc hb7' s1; have q2 := keepc hb7' s2; have x0 := keepf2 hb7' s0 y0; have x1 := keepf2 hb7' s0 y1; have x2 := keepf2 hb7' s0 y2))
          have hl7 := hl6.below hb7'
          have hb7w : Below B w w7 := HB5a.out.trans (hb7'.mono (by omega))
          have hs7 := hb7'.size
          have g0 := (hb7'.block B (by omega)).trans HG0.out
          have g1 := (hb7'.block (B + 1) (by omega)).trans HG1.out
          have g2 := (hb7'.block (B + 2) (by omega)).trans HG2.out
          clear a0 a1 a2 a3 a4 a5 a6 e0 e1 e2 e3 r0 r1 r2 r3 r4 r5 r6 za0 za1 za2 za3 za4 za5 za6 ze1 ze2 zr0 zr1 zr2 zr3 zr4 zr5 zr6
          obtain ⟨-, b1, -, -, -, -, -, zb⟩ := seven g0
          have zb1 := zb 1
          clear zb
          obtain ⟨W8, hW8, hWs8, g0, g1, g2, hpa8, hb8⟩ : ∃ W8, ((w7.setCell ⟨g, k * 3, none⟩ (.int .i64 eD)).setCell ⟨g, k * 3 + 1, none⟩ (.int .i64 eL)).setCell ⟨g, k * 3 + 2, none⟩ (.string (S (fileB N))) = W8 ∧ B + 3 < W8.heap.size ∧ W8.heap[B]? = w7.heap[B]? ∧ W8.heap[B + 1]? = w7.heap[B + 1]? ∧ W8.heap[B + 2]? = w7.heap[B + 2]? ∧ PAt (B + 3) (some ⟨g, 0, none⟩) ((n + 1)) (((P.take k ++ p0 :: P.drop k)).set k ⟨eD, eL, fileB N⟩) W8 ∧ Below B w W8 := by
            refine ⟨_, rfl, by simp [World.setCell]; omega, ?_, ?_, ?_, ?_, ?_⟩
            · exact (Below.heap_setCell _ _ _ _ (by simp only; omega)).trans ((Below.heap_setCell _ _ _ _ (by simp only; omega)).trans (Below.heap_setCell _ _ _ _ (by simp only; omega)))
            · exact (Below.heap_setCell _ _ _ _ (by simp only; omega)).trans ((Below.heap_setCell _ _ _ _ (by simp only; omega)).trans (Below.heap_setCell _ _ _ _ (by simp only; omega)))
            · exact (Below.heap_setCell _ _ _ _ (by simp only; omega)).trans ((Below.heap_setCell _ _ _ _ (by simp only; omega)).trans (Below.heap_setCell _ _ _ _ (by simp only; omega)))
            · refine PAt.of (c := c6) ?_ (by rw [List.length_set]; exact hlL)
              rw [← parts_set k ((P.take k ++ p0 :: P.drop k)) ⟨eD, eL, fileB N⟩ hkL]
              exact ((hl7.store _).store _).store _
            · exact ((hb7w.setCell (p := ⟨g, k * 3, none⟩) (by simp only; omega) _).setCell (p := ⟨g, k * 3 + 1, none⟩) (by simp only; omega) _).setCell (p := ⟨g, k * 3 + 2, none⟩) (by simp only; omega) _
          have k0 := g0.trans (by assumption : w7.heap[B]? = some _)
          have k1 := g1.trans (by assumption : w7.heap[B + 1]? = some _)
          have k2 := g2.trans (by assumption : w7.heap[B + 2]? = some _)
          clear g0 g1 g2
          obtain ⟨-, v1, -, -, -, -, -, zv⟩ := seven k0
          have zv1 := zv 1
          clear zv
          obtain ⟨W5, hW5, hWs5, g0, g1, g2, hpa5, hb5⟩ : ∃ W5, W8.setCell ⟨B, 1, none⟩ (.int .i64 (N + 1)) = W5 ∧ B + 3 < W5.heap.size ∧ W5.heap[B]? = some (.cells #[.slice (some ⟨g, 0, none⟩) ((n + 1)) c6, .int .i64 (N + 1), .int .i64 Q, .bool O, .int .i64 D, .int .i64 T, .int .i64 X] 25 (0, 0)) ∧ W5.heap[B + 1]? = W8.heap[B + 1]? ∧ W5.heap[B + 2]? = W8.heap[B + 2]? ∧ PAt (B + 3) (some ⟨g, 0, none⟩) ((n + 1)) (((P.take k ++ p0 :: P.drop k)).set k ⟨eD, eL, fileB N⟩) W5 ∧ Below B w W5 :=
            ⟨_, rfl, by simp [World.setCell]; omega, by simp [World.setCell, Array.getElem?_modify, k0], Below.heap_setCell _ _ _ _ (by simp), Below.heap_setCell _ _ _ _ (by simp), hpa8.set (by omega) _, hb8.setCell (p := ⟨B, 1, none⟩) (by simp) _⟩
          have g1 := g1.trans k1
          have g2 := g2.trans k2
          rw [hlist] at HVd
          obtain ⟨a0, a1, a2, a3, a4, a5, a6, za⟩ := seven g0
          obtain ⟨e0, e1, e2, e3, ze⟩ := four g1
          obtain ⟨r0, r1, r2, r3, r4, r5, r6, zr⟩ := seven g2
          have za0 := za 0
          have za1 := za 1
          have za2 := za 2
          have za3 := za 3
          have za4 := za 4
          have za5 := za 5
          have za6 := za 6
          have ze1 := ze 1
          have ze2 := ze 2
          have zr0 := zr 0
          have zr1 := zr 1
          have zr2 := zr 2
          have zr3 := zr 3
          have zr4 := zr 4
          have zr5 := zr 5
          have zr6 := zr 6
          have HG0 := Lib.hid g0
          have HG1 := Lib.hid g1
          have HG2 := Lib.hid g2
          clear za ze zr g0 g1 g2
          have HP5 := Lib.hid hpa5
          have HB5 := Lib.hid hb5
          clear hpa5 hb5 hpa8 hb8 hl7 hb7w q0 q1 q2 x0 x1 x2 s0 s1 s2 y0 y1 y2 k0 k1 k2
          cases O with
          | false =>
            have HV := Lib.hid (show V = (⟨((P.take k ++ p0 :: P.drop k)).set k ⟨eD, eL, fileB N⟩, N + 1, Q, false, D, T, X⟩, 0) by rw [HVd.out, if_neg (by simp)])
            go_wp2_with fail
            refine bodyPost_ret (v := .tuple #[stVal ((some ⟨g, 0, none⟩)) ((n + 1)) (c6) ⟨((P.take k ++ p0 :: P.drop k)).set k ⟨eD, eL, fileB N⟩, N + 1, Q, false, D, T, X⟩, .int .i64 0]) (by rw [results_cell_tmp rfl]; go_simp; rfl) rfl ⟨(some ⟨g, 0, none⟩), (n + 1), c6, by rw [HV.out]; rfl, ?_, ?_⟩
            · rw [HV.out, HB.out]
              exact (((((((HP5.out.set (b := B + 2) (j := 0) (by omega) _).set (b := B + 2) (j := 1) (by omega) _).set (b := B + 2) (j := 2) (by omega) _).set (b := B + 2) (j := 3) (by omega) _).set (b := B + 2) (j := 4) (by omega) _).set (b := B + 2) (j := 5) (by omega) _).set (b := B + 2) (j := 6) (by omega) _).mono (by omega)
            · rw [HB.out]
              exact (((((((HB5.out.setCell (p := ⟨B + 2, 0, none⟩) (by simp) _).setCell (p := ⟨B + 2, 1, none⟩) (by simp) _).setCell (p := ⟨B + 2, 2, none⟩) (by simp) _).setCell (p := ⟨B + 2, 3, none⟩) (by simp) _).setCell (p := ⟨B + 2, 4, none⟩) (by simp) _).setCell (p := ⟨B + 2, 5, none⟩) (by simp) _).setCell (p := ⟨B + 2, 6, none⟩) (by simp) _)
          | true =>
            by_cases hd : D = eD
            · have u1 : (D == eD) = true := beq_iff_eq.2 hd
              have HV := Lib.hid (show V = (⟨((P.take k ++ p0 :: P.drop k)).set k ⟨eD, eL, fileB N⟩, N + 1, Q, false, 0, 0, 0⟩, 0) by rw [HVd.out, if_pos ⟨rfl, hd⟩])
              clear hd
              have HOF := off_any ((some ⟨g, 0, none⟩)) ((n + 1)) c6 ⟨((P.take k ++ p0 :: P.drop k)).set k ⟨eD, eL, fileB N⟩, N + 1, Q, true, D, T, X⟩ W5
              unfold stVal offS at HOF
              simp only at HOF
              have HO := Lib.hid HOF
              clear HOF
              go_wp2_with fail
              refine HO.out.mono ?_
              rintro e w9 ⟨rfl, hb9⟩
              have g0 := (hb9.block B (by omega)).trans HG0.out
              have g1 := (hb9.block (B + 1) (by omega)).trans HG1.out
              have g2 := (hb9.block (B + 2) (by omega)).trans HG2.out
              clear a0 a1 a2 a3 a4 a5 a6 e0 e1 e2 e3 r0 r1 r2 r3 r4 r5 r6 za0 za1 za2 za3 za4 za5 za6 ze1 ze2 zr0 zr1 zr2 zr3 zr4 zr5 zr6
              obtain ⟨a0, a1, a2, a3, a4, a5, a6, za⟩ := seven g0
              obtain ⟨e0, e1, e2, e3, ze⟩ := four g1
              obtain ⟨r0, r1, r2, r3, r4, r5, r6, zr⟩ := seven g2
              have za0 := za 0
              have za1 := za 1
              have za2 := za 2
              have za3 := za 3
              have za4 := za 4
              have za5 := za 5
              have za6 := za 6
              have ze1 := ze 1
              have ze2 := ze 2
              have zr0 := zr 0
              have zr1 := zr 1
              have zr2 := zr 2
              have zr3 := zr 3
              have zr4 := zr 4
              have zr5 := zr 5
              have zr6 := zr 6
              have HG0 := Lib.hid g0
              have HG1 := Lib.hid g1
              have HG2 := Lib.hid g2
              clear za ze zr g0 g1 g2
              have HP7 := Lib.hid (HP5.out.below hb9)
              have HB7 := Lib.hid (HB5.out.trans (hb9.mono (by omega)))
              clear hb9
              go_wp2_with fail
              refine bodyPost_ret (v := .tuple #[stVal ((some ⟨g, 0, none⟩)) ((n + 1)) (c6) ⟨((P.take k ++ p0 :: P.drop k)).set k ⟨eD, eL, fileB N⟩, N + 1, Q, false, 0, 0, 0⟩, .int .i64 0]) (by rw [results_cell_tmp rfl]; go_simp; rfl) rfl ⟨(some ⟨g, 0, none⟩), (n + 1), c6, by rw [HV.out]; rfl, ?_, ?_⟩
              · rw [HV.out, HB.out]
                exact ((((((((((((((HP7.out.set (b := B) (j := 0) (by omega) _).set (b := B) (j := 1) (by omega) _).set (b := B) (j := 2) (by omega) _).set (b := B) (j := 3) (by omega) _).set (b := B) (j := 4) (by omega) _).set (b := B) (j := 5) (by omega) _).set (b := B) (j := 6) (by omega) _).set (b := B + 2) (j := 0) (by omega) _).set (b := B + 2) (j := 1) (by omega) _).set (b := B + 2) (j := 2) (by omega) _).set (b := B + 2) (j := 3) (by omega) _).set (b := B + 2) (j := 4) (by omega) _).set (b := B + 2) (j := 5) (by omega) _).set (b := B + 2) (j := 6) (by omega) _).mono (by omega)
              · rw [HB.out]
                exact ((((((((((((((HB7.out.setCell (p := ⟨B, 0, none⟩) (by simp) _).setCell (p := ⟨B, 1, none⟩) (by simp) _).setCell (p := ⟨B, 2, none⟩) (by simp) _).setCell (p := ⟨B, 3, none⟩) (by simp) _).setCell (p := ⟨B, 4, none⟩) (by simp) _).setCell (p := ⟨B, 5, none⟩) (by simp) _).setCell (p := ⟨B, 6, none⟩) (by simp) _).setCell (p := ⟨B + 2, 0, none⟩) (by simp) _).setCell (p := ⟨B + 2, 1, none⟩) (by simp) _).setCell (p := ⟨B + 2, 2, none⟩) (by simp) _).setCell (p := ⟨B + 2, 3, none⟩) (by simp) _).setCell (p := ⟨B + 2, 4, none⟩) (by simp) _).setCell (p := ⟨B + 2, 5, none⟩) (by simp) _).setCell (p := ⟨B + 2, 6, none⟩) (by simp) _)
            · have u1 : (D == eD) = false := beq_eq_false_iff_ne.2 hd
              have HV := Lib.hid (show V = (⟨((P.take k ++ p0 :: P.drop k)).set k ⟨eD, eL, fileB N⟩, N + 1, Q, true, D, T, X⟩, 0) by rw [HVd.out, if_neg (fun h => hd h.2)])
              clear hd
              go_wp2_with fail
              refine bodyPost_ret (v := .tuple #[stVal ((some ⟨g, 0, none⟩)) ((n + 1)) (c6) ⟨((P.take k ++ p0 :: P.drop k)).set k ⟨eD, eL, fileB N⟩, N + 1, Q, true, D, T, X⟩, .int .i64 0]) (by rw [results_cell_tmp rfl]; go_simp; rfl) rfl ⟨(some ⟨g, 0, none⟩), (n + 1), c6, by rw [HV.out]; rfl, ?_, ?_⟩
              · rw [HV.out, HB.out]
                exact (((((((HP5.out.set (b := B + 2) (j := 0) (by omega) _).set (b := B + 2) (j := 1) (by omega) _).set (b := B + 2) (j := 2) (by omega) _).set (b := B + 2) (j := 3) (by omega) _).set (b := B + 2) (j := 4) (by omega) _).set (b := B + 2) (j := 5) (by omega) _).set (b := B + 2) (j := 6) (by omega) _).mono (by omega)
              · rw [HB.out]
                exact (((((((HB5.out.setCell (p := ⟨B + 2, 0, none⟩) (by simp) _).setCell (p := ⟨B + 2, 1, none⟩) (by simp) _).setCell (p := ⟨B + 2, 2, none⟩) (by simp) _).setCell (p := ⟨B + 2, 3, none⟩) (by simp) _).setCell (p := ⟨B + 2, 4, none⟩) (by simp) _).setCell (p := ⟨B + 2, 5, none⟩) (by simp) _).setCell (p := ⟨B + 2, 6, none⟩) (by simp) _)
      · have HV := Lib.hid (show V = (st0, 170) by rw [← HV0.out]; exact appV_none (by rw [Hap.out]; exact putS_no fun h => c3 h.2.2))
        have t1 : decide (N < 1099511627776) = false := decide_eq_false c3
        clear c1' c2 c3
        go_wp2_with fail
        refine (HW1.out _).mono ?_
        rintro e w4 ⟨rfl, rfl⟩
        go_wp2_with fail
        refine (HW2.out _).mono ?_
        rintro e w4 ⟨rfl, rfl⟩
        go_wp2_with fail
        refine bodyPost_ret (v := .tuple #[stVal none 0 0 st0, .int .i64 170]) (by rw [results_cell_tmp rfl]; go_simp; rfl) rfl ⟨none, 0, 0, by rw [HV.out]; rfl, by rw [HV.out]; exact PAt.nil _ _, ?_⟩
        rw [HB.out]
        exact (((((((HBW.out.setCell (p := ⟨B + 2, 0, none⟩) (by simp) _).setCell (p := ⟨B + 2, 1, none⟩) (by simp) _).setCell (p := ⟨B + 2, 2, none⟩) (by simp) _).setCell (p := ⟨B + 2, 3, none⟩) (by simp) _).setCell (p := ⟨B + 2, 4, none⟩) (by simp) _).setCell (p := ⟨B + 2, 5, none⟩) (by simp) _).setCell (p := ⟨B + 2, 6, none⟩) (by simp) _)
    · have HV := Lib.hid (show V = (st0, 170) by rw [← HV0.out]; exact appV_none (by rw [Hap.out]; exact putS_no fun h => c2 h.2.1))
      rw [decide_eq_false c2] at HW2
      clear c1' c2
      go_wp2_with fail
      refine (HW1.out _).mono ?_
      rintro e w4 ⟨rfl, rfl⟩
      go_wp2_with fail
      refine (HW2.out _).mono ?_
      rintro e w4 ⟨rfl, rfl⟩
      go_wp2_with fail
      refine bodyPost_ret (v := .tuple #[stVal none 0 0 st0, .int .i64 170]) (by rw [results_cell_tmp rfl]; go_simp; rfl) rfl ⟨none, 0, 0, by rw [HV.out]; rfl, by rw [HV.out]; exact PAt.nil _ _, ?_⟩
      rw [HB.out]
      exact (((((((HBW.out.setCell (p := ⟨B + 2, 0, none⟩) (by simp) _).setCell (p := ⟨B + 2, 1, none⟩) (by simp) _).setCell (p := ⟨B + 2, 2, none⟩) (by simp) _).setCell (p := ⟨B + 2, 3, none⟩) (by simp) _).setCell (p := ⟨B + 2, 4, none⟩) (by simp) _).setCell (p := ⟨B + 2, 5, none⟩) (by simp) _).setCell (p := ⟨B + 2, 6, none⟩) (by simp) _)
  · have HV := Lib.hid (show V = (st0, 170) by rw [← HV0.out]; exact appV_none (by rw [Hap.out]; exact putS_no fun h => c1' h.1))
    rw [decide_eq_false c1'] at HW1
    clear c1'
    go_wp2_with fail
    refine (HW1.out _).mono ?_
    rintro e w4 ⟨rfl, rfl⟩
    go_wp2_with fail
    refine bodyPost_ret (v := .tuple #[stVal none 0 0 st0, .int .i64 170]) (by rw [results_cell_tmp rfl]; go_simp; rfl) rfl ⟨none, 0, 0, by rw [HV.out]; rfl, by rw [HV.out]; exact PAt.nil _ _, ?_⟩
    rw [HB.out]
    exact (((((((HBW.out.setCell (p := ⟨B + 2, 0, none⟩) (by simp) _).setCell (p := ⟨B + 2, 1, none⟩) (by simp) _).setCell (p := ⟨B + 2, 2, none⟩) (by simp) _).setCell (p := ⟨B + 2, 3, none⟩) (by simp) _).setCell (p := ⟨B + 2, 4, none⟩) (by simp) _).setCell (p := ⟨B + 2, 5, none⟩) (by simp) _).setCell (p := ⟨B + 2, 6, none⟩) (by simp) _)
end Go.Proofs.YtbheoahpaidpmaaDoor

/-! ManAppB -/
namespace Go.Proofs.YtbheoahpaidpmaaDoor
open Go Go.RowKit

set_option linter.unusedSimpArgs false in
set_option maxRecDepth 100000 in
set_option maxHeartbeats 8000000 in
theorem mapply_5 (A : Option Addr) (n c : Nat) (s : St) (e : Ed) (w : World) (hr : Rd w 3 A n (s.Parts.flatMap partCells)) (hn : s.Parts.length = n) (hl : n ≤ 100000) (ha : asc s.Parts) (hN0 : 0 ≤ s.Next) (hN1 : s.Next ≤ 1099511627776) (hD0 : 0 ≤ s.Done) (hD1 : s.Done ≤ 5000) (hp : Pow w) (hk : e.Kind = 5) :
    Calls Tryd.prog 17 #[stVal A n c s, edVal e] w (StAt (appV s e) w.heap.size w) := by
  obtain ⟨B, hB⟩ : ∃ B, w.heap.size = B := ⟨_, rfl⟩
  obtain ⟨P, N, Q, O, D, T, X⟩ := s
  obtain ⟨eK, eD, eL, eA⟩ := e
  obtain rfl : eK = 5 := hk
  simp only at hr hn ha hN0 hN1 hD0 hD1
  obtain ⟨V, hV⟩ : ∃ V, appV ⟨P, N, Q, O, D, T, X⟩ ⟨5, eD, eL, eA⟩ = V := ⟨_, rfl⟩
  rw [hV]
  have HV0 := Lib.hid hV
  have HF := Lib.hid (fun w' hr' => mfind_any eD A c n ⟨P, N, Q, O, D, T, X⟩ w' hr' hn (by omega))
  unfold stVal edVal
  simp only
  obtain ⟨w0, hw0, hs0, hb0, k0, k1, k2⟩ : ∃ w0, ((w.alloc (.cells #[.slice A n c, .int .i64 N, .int .i64 Q, .bool O, .int .i64 D, .int .i64 T, .int .i64 X] 25)).alloc (.cells #[.int .i64 5, .int .i64 eD, .int .i64 eL, .int .i64 eA] 47)).alloc (.cells #[.slice none 0 0, .int .i64 0, .int .i64 0, .bool false, .int .i64 0, .int .i64 0, .int .i64 0] 25) = w0 ∧ w0.heap.size = B + 3 ∧ Below B w w0
      ∧ w0.heap[B]? = some (.cells #[.slice A n c, .int .i64 N, .int .i64 Q, .bool O, .int .i64 D, .int .i64 T, .int .i64 X] 25 (0, 0)) ∧ w0.heap[B + 1]? = some (.cells #[.int .i64 5, .int .i64 eD, .int .i64 eL, .int .i64 eA] 47 (0, 0)) ∧ w0.heap[B + 2]? = some (.cells #[.slice none 0 0, .int .i64 0, .int .i64 0, .bool false, .int .i64 0, .int .i64 0, .int .i64 0] 25 (0, 0)) := by
    have n1 := heap_alloc_new w (.cells #[.slice A n c, .int .i64 N, .int .i64 Q, .bool O, .int .i64 D, .int .i64 T, .int .i64 X] 25)
    have n2 := heap_alloc_new (w.alloc (.cells #[.slice A n c, .int .i64 N, .int .i64 Q, .bool O, .int .i64 D, .int .i64 T, .int .i64 X] 25)) (.cells #[.int .i64 5, .int .i64 eD, .int .i64 eL, .int .i64 eA] 47)
    have n3 := heap_alloc_new ((w.alloc (.cells #[.slice A n c, .int .i64 N, .int .i64 Q, .bool O, .int .i64 D, .int .i64 T, .int .i64 X] 25)).alloc (.cells #[.int .i64 5, .int .i64 eD, .int .i64 eL, .int .i64 eA] 47)) (.cells #[.slice none 0 0, .int .i64 0, .int .i64 0, .bool false, .int .i64 0, .int .i64 0, .int .i64 0] 25)
    simp only [World.size_alloc, hB, Nat.add_assoc, Nat.reduceAdd] at n1 n2 n3
    refine ⟨_, rfl, by simp [hB], ?_, ?_, ?_, n3⟩
    · subst hB
      exact (((Below.refl _ _).alloc (Nat.le_refl _) _).alloc (by simp) _).alloc (by simp; omega) _
    · exact (Lib.alloc_old _ _ _ (by simp; omega)).trans ((Lib.alloc_old _ _ _ (by simp; omega)).trans n1)
    · exact (Lib.alloc_old _ _ _ (by simp; omega)).trans n2
  have hgB : 0 < B := hB ▸ hp.2
  have hb0w : Below w.heap.size w w0 := hB ▸ hb0
  have hrd0 := hr.below hb0w
  have HP0 := Lib.hid (hp.below hb0w)
  have HC := Lib.hid (clone_any A c n P w0 hrd0 hn (by omega))
  have Hr0 := Lib.hid hrd0
  have Hn := Lib.hid hn
  have HB := Lib.hid hB
  have HB0 := Lib.hid hb0
  have Ha := Lib.hid ha
  obtain ⟨a0, -, -, -, -, -, -, za⟩ := seven k0
  have za0 := za 0
  have K0 := Lib.hid k0
  have K1 := Lib.hid k1
  have K2 := Lib.hid k2
  clear hr hrd0 hb0 hb0w hn ha hp k0 k1 k2 za hV
  go_enter Tryd.func17, Tryd.ntmps17
  go_wp2_with fail
  try simp only [hw0]
  clear hw0 hB a0 za0
  refine HC.out.mono ?_
  rintro e w1 ⟨A1, c1, rfl, hl1, hb1⟩
  have k0 := (hb1.block B (by omega)).trans K0.out
  have k1 := (hb1.block (B + 1) (by omega)).trans K1.out
  have k2 := (hb1.block (B + 2) (by omega)).trans K2.out
  obtain ⟨a0, a1, a2, a3, a4, a5, a6, za⟩ := seven k0
  obtain ⟨e0, e1, e2, e3, ze⟩ := four k1
  have za0 := za 0
  have hsz1 : B + 3 ≤ w1.heap.size := by have := hb1.size; omega
  rw [hs0] at hl1
  have hbs : Below w0.heap.size w0 (w1.setCell ⟨B, 0, none⟩ (.slice A1 n c1)) → True := fun _ => trivial
  obtain ⟨w2, hw2, hs2, g0, g1, g2, hl2, hb2, hp2, hrd2⟩ : ∃ w2, w1.setCell ⟨B, 0, none⟩ (.slice A1 n c1) = w2 ∧ w2.heap.size = w1.heap.size ∧ w2.heap[B]? = some (.cells #[.slice A1 n c1, .int .i64 N, .int .i64 Q, .bool O, .int .i64 D, .int .i64 T, .int .i64 X] 25 (0, 0)) ∧ w2.heap[B + 1]? = some (.cells #[.int .i64 5, .int .i64 eD, .int .i64 eL, .int .i64 eA] 47 (0, 0)) ∧ w2.heap[B + 2]? = some (.cells #[.slice none 0 0, .int .i64 0, .int .i64 0, .bool false, .int .i64 0, .int .i64 0, .int .i64 0] 25 (0, 0)) ∧
      Lie (fun k => k < B + 3) 40 3 (.slice A1 n c1) n (P.flatMap partCells) w2 ∧ Below B w w2 ∧ Pow w2 ∧ Rd w2 3 A1 n (P.flatMap partCells) := by
    have hl2 := own_set hl1 (show B < B + 3 by omega) 0 (.slice A1 n c1)
    exact ⟨_, rfl, by simp [World.setCell], by simp [World.setCell, Array.getElem?_modify, k0], (Below.heap_setCell _ _ _ _ (by simp)).trans k1, (Below.heap_setCell _ _ _ _ (by simp)).trans k2, hl2, (HB0.out.trans (hb1.mono (by omega))).setCell (p := ⟨B, 0, none⟩) (Nat.le_refl B) _, (HP0.out.below hb1).later (by simp [World.setCell]) (Below.heap_setCell _ _ _ _ (by simp only; omega)), hl2.rd⟩
  obtain ⟨b0, b1, b2, b3, b4, b5, b6, -⟩ := seven g0
  obtain ⟨d0, d1, d2, d3, -⟩ := four g1
  have HF2 := Lib.hid (mfind_any eD A1 c1 n ⟨P, N, Q, O, D, T, X⟩ w2 hrd2 Hn.out (by omega))
  unfold stVal at HF2
  simp only at HF2
  have HL2 := Lib.hid hl2
  have HB2 := Lib.hid hb2
  have HP2 := Lib.hid hp2
  have G0 := Lib.hid g0
  have G1 := Lib.hid g1
  have G2 := Lib.hid g2
  clear hl1 hb1 HC K0 K1 K2 k0 k1 k2 hl2 hb2 hp2 hrd2 g0 g1 g2 hbs HF Hr0 HP0 HB0 za ze
  go_wp2_with fail
  try simp only [hw2]
  clear hw2 a0 a1 a2 a3 a4 a5 a6 e0 e1 e2 e3 za0
  refine HF2.out.mono ?_
  rintro e w3 ⟨rfl, hb3⟩
  obtain ⟨pf, hpf⟩ : ∃ pf, findP P eD = pf := ⟨_, rfl⟩
  rw [hpf]
  obtain ⟨p, hpp⟩ : ∃ p, pf.getD p0 = p := ⟨_, rfl⟩
  obtain ⟨q, hq⟩ : ∃ q, pf.isSome = q := ⟨_, rfl⟩
  rw [hpp, hq]
  have Hpf := Lib.hid (And.intro hpf (And.intro hpp hq))
  obtain ⟨pD, pL, pF⟩ := p
  unfold partVal
  simp only
  have hb4 := Below.one w3 (.cells #[.int .i64 pD, .int .i64 pL, .string (S pF)] 40)
  have hb34 := hb3.trans (hb4.mono hb3.size)
  obtain ⟨W, hW, hs4, g0, g1, g2, g3, hl4, hb4', hp4⟩ : ∃ W, w3.alloc (.cells #[.int .i64 pD, .int .i64 pL, .string (S pF)] 40) = W ∧ B + 3 ≤ w3.heap.size ∧ W.heap[B]? = some (.cells #[.slice A1 n c1, .int .i64 N, .int .i64 Q, .bool O, .int .i64 D, .int .i64 T, .int .i64 X] 25 (0, 0)) ∧ W.heap[B + 1]? = some (.cells #[.int .i64 5, .int .i64 eD, .int .i64 eL, .int .i64 eA] 47 (0, 0)) ∧ W.heap[B + 2]? = some (.cells #[.slice none 0 0, .int .i64 0, .int .i64 0, .bool false, .int .i64 0, .int .i64 0, .int .i64 0] 25 (0, 0)) ∧
      W.heap[w3.heap.size]? = some (.cells #[.int .i64 pD, .int .i64 pL, .string (S pF)] 40 (0, 0)) ∧ Lie (fun k => k < B + 3) 40 3 (.slice A1 n c1) n (P.flatMap partCells) W ∧ Below B w W ∧ Pow W :=
    ⟨_, rfl, by have := hb3.size; omega, (hb34.block B (by omega)).trans G0.out, (hb34.block (B + 1) (by omega)).trans G1.out, (hb34.block (B + 2) (by omega)).trans G2.out, heap_alloc_new _ _, HL2.out.below hb34, HB2.out.trans (hb34.mono (by omega)), HP2.out.below hb34⟩
  have hWs : B + 3 < W.heap.size := by rw [← hW]; simp; omega
  have hq3 : w3.heap.size < W.heap.size := by rw [← hW]; simp
  obtain ⟨q3, hq3'⟩ : ∃ q3, w3.heap.size = q3 := ⟨_, rfl⟩
  rw [hq3'] at g3 hq3 hs4
  obtain ⟨f1, f2⟩ : W.cell? ⟨q3, 1, none⟩ = some (.int .i64 pL) ∧ True := ⟨by rw [Lib.cell_of_heap g3]; rfl, trivial⟩
  have HLW := Lib.hid hl4
  have HBW := Lib.hid hb4'
  have HPW := Lib.hid hp4
  have HG0 := Lib.hid g0
  have HG1 := Lib.hid g1
  have HG2 := Lib.hid g2
  clear hb3 hb4 hb34 HF2 G0 G1 G2 HL2 HB2 HP2 g3 hl4 hb4' hp4 b0 b1 b2 b3 b4 b5 b6 d0 d1 d2 d3 hpf hpp hq hsz1 hs2 f2
  obtain ⟨a0, a1, a2, a3, a4, a5, a6, za⟩ := seven g0
  obtain ⟨e0, e1, e2, e3, ze⟩ := four g1
  obtain ⟨r0, r1, r2, r3, r4, r5, r6, zr⟩ := seven g2
  have za0 := za 0
  have za1 := za 1
  have za2 := za 2
  have za3 := za 3
  have za4 := za 4
  have za5 := za 5
  have za6 := za 6
  have ze1 := ze 1
  have ze2 := ze 2
  have zr0 := zr 0
  have zr1 := zr 1
  have zr2 := zr 2
  have zr3 := zr 3
  have zr4 := zr 4
  have zr5 := zr 5
  have zr6 := zr 6
  clear za ze zr g0 g1 g2
  have hap := app5 (s := ⟨P, N, Q, O, D, T, X⟩) (e := ⟨5, eD, eL, eA⟩) rfl
  simp only at hap
  have Hap0 := Lib.hid hap
  clear hap f1
  cases O with
  | false =>
    have HV := Lib.hid (show V = (st0, 170) by rw [← HV0.out]; exact appV_none (by rw [Hap0.out]; rfl))
    go_wp2_with fail
    refine bodyPost_ret (v := .tuple #[stVal none 0 0 st0, .int .i64 170]) (by rw [results_cell_tmp rfl]; go_simp; rfl) rfl ⟨none, 0, 0, by rw [HV.out]; rfl, by rw [HV.out]; exact PAt.nil _ _, ?_⟩
    rw [HB.out]
    exact (((((((HBW.out.setCell (p := ⟨B + 2, 0, none⟩) (by simp) _).setCell (p := ⟨B + 2, 1, none⟩) (by simp) _).setCell (p := ⟨B + 2, 2, none⟩) (by simp) _).setCell (p := ⟨B + 2, 3, none⟩) (by simp) _).setCell (p := ⟨B + 2, 4, none⟩) (by simp) _).setCell (p := ⟨B + 2, 5, none⟩) (by simp) _).setCell (p := ⟨B + 2, 6, none⟩) (by simp) _)
  | true =>
    have Hap := Lib.hid (show applyS ⟨P, N, Q, true, D, T, X⟩ ⟨5, eD, eL, eA⟩ = putS ⟨P, N, Q, true, D, T, X⟩ D T from Hap0.out)
    obtain ⟨W, hW', hWs', g0, g1, g2, hl', hb', hp'⟩ : ∃ W', ((W.setCell ⟨B + 1, 1, none⟩ (.int .i64 D)).setCell ⟨B + 1, 2, none⟩ (.int .i64 T)).drew = W' ∧ B + 3 < W'.heap.size ∧ W'.heap[B]? = some (.cells #[.slice A1 n c1, .int .i64 N, .int .i64 Q, .bool true, .int .i64 D, .int .i64 T, .int .i64 X] 25 (0, 0)) ∧ W'.heap[B + 1]? = some (.cells #[.int .i64 5, .int .i64 D, .int .i64 T, .int .i64 eA] 47 (0, 0)) ∧ W'.heap[B + 2]? = some (.cells #[.slice none 0 0, .int .i64 0, .int .i64 0, .bool false, .int .i64 0, .int .i64 0, .int .i64 0] 25 (0, 0)) ∧
        Lie (fun k => k < B + 3) 40 3 (.slice A1 n c1) n (P.flatMap partCells) W' ∧ Below B w W' ∧ Pow W' := by
      have k1 := HG1.out
      refine ⟨_, rfl, by simp [World.setCell, World.drew]; omega, ?_, ?_, ?_, ?_, ?_, ?_⟩
      · exact (Below.heap_setCell _ _ _ _ (by simp)).trans ((Below.heap_setCell _ _ _ _ (by simp)).trans HG0.out)
      · show ((W.setCell ⟨B + 1, 1, none⟩ (.int .i64 D)).setCell ⟨B + 1, 2, none⟩ (.int .i64 T)).heap[B + 1]? = _
        simp [World.setCell, Array.getElem?_modify, k1]
      · exact (Below.heap_setCell _ _ _ _ (by simp)).trans ((Below.heap_setCell _ _ _ _ (by simp)).trans HG2.out)
      · exact own_set (own_set HLW.out (show B + 1 < B + 3 by omega) 1 _) (show B + 1 < B + 3 by omega) 2 _
      · exact ((HBW.out.setCell (p := ⟨B + 1, 1, none⟩) (by simp) _).setCell (p := ⟨B + 1, 2, none⟩) (by simp) _).drew
      · exact HPW.out.later (by simp [World.setCell, World.drew]) ((Below.heap_setCell _ _ _ _ (by simp only; omega)).trans (Below.heap_setCell _ _ _ _ (by simp only; omega)))
    go_wp2_with fail
    go_region
    all_goals
      try simp only [hW']
      clear hW' HLW HBW HPW HG0 HG1 HG2 hWs hW
      clear a0 a1 a2 a3 a4 a5 a6 e0 e1 e2 e3 r0 r1 r2 r3 r4 r5 r6 za0 za1 za2 za3 za4 za5 za6 ze1 ze2 zr0 zr1 zr2 zr3 zr4 zr5 zr6
      obtain ⟨a0, a1, a2, a3, a4, a5, a6, za⟩ := seven g0
      obtain ⟨e0, e1, e2, e3, ze⟩ := four g1
      obtain ⟨r0, r1, r2, r3, r4, r5, r6, zr⟩ := seven g2
      have za0 := za 0
      have za1 := za 1
      have za2 := za 2
      have za3 := za 3
      have za4 := za 4
      have za5 := za 5
      have za6 := za 6
      have ze1 := ze 1
      have ze2 := ze 2
      have zr0 := zr 0
      have zr1 := zr 1
      have zr2 := zr 2
      have zr3 := zr 3
      have zr4 := zr 4
      have zr5 := zr 5
      have zr6 := zr 6
      have HG0 := Lib.hid g0
      have HG1 := Lib.hid g1
      have HG2 := Lib.hid g2
      clear za ze zr g0 g1 g2
      have HLW := Lib.hid hl'
      have HBW := Lib.hid hb'
      have HPW := Lib.hid hp'
      clear hl' hb' hp'
      have hWs := hWs'
      have HW1 := Lib.hid (fun w => within_any D 17179869183 w)
      have HW2 := Lib.hid (fun w => within_any T 1 w)
      rw [within_day] at HW1
      rw [within_bit] at HW2
      by_cases c1' : dayOk D
      · rw [decide_eq_true c1'] at HW1
        by_cases c2 : bitOk T
        · rw [decide_eq_true c2] at HW2
          by_cases c3 : N < 1099511627776
          · have HVd := Lib.hid (show V = (if true = true ∧ D = D then ⟨insP ⟨D, T, fileB N⟩ (P.filter (kp D)), N + 1, Q, false, 0, 0, 0⟩ else ⟨insP ⟨D, T, fileB N⟩ (P.filter (kp D)), N + 1, Q, true, D, T, X⟩, 0) by rw [← HV0.out]; exact appV_some (by rw [Hap.out]; exact putS_ok c1' c2 c3))
            have hk := cntP_le D P
            obtain ⟨k, hkk⟩ : ∃ k, cntP D P = k := ⟨_, rfl⟩
            have hkn : k ≤ n := by rw [← Hn.out, ← hkk]; exact hk
            obtain ⟨th, hth⟩ : ∃ th, thereB D P = th := ⟨_, rfl⟩
            have AT := at_any D A1 c1 n P W HLW.out.rd Hn.out (by omega) Ha.out
            rw [hkk, hth] at AT
            have HAT := Lib.hid AT
            have Hkk := Lib.hid (And.intro hkk hth)
            have t1 : decide (N < 1099511627776) = true := decide_eq_true c3
            have m9 : IntKind.i64.wrap (N + 1) = N + 1 := by rw [IntKind.wrap_i64]; omega
            clear hk hkk hth AT c3 c1' c2
            go_wp2_with fail
            refine (HW1.out _).mono ?_
            rintro e w4 ⟨rfl, rfl⟩
            go_wp2_with fail
            refine (HW2.out _).mono ?_
            rintro e w4 ⟨rfl, rfl⟩
            go_wp2_with fail
            refine HAT.out.mono ?_
            rintro e w5 ⟨rfl, hb5⟩
            have hl6 := HLW.out.below hb5
            have hw5s : B + 3 < w5.heap.size := by have := hb5.size; omega
            have HB5a := Lib.hid (HBW.out.trans (hb5.mono (by omega)))
            have hp6 := HPW.out.below hb5
            have g0 := (hb5.block B (by omega)).trans HG0.out
            have g1 := (hb5.block (B + 1) (by omega)).trans HG1.out
            have g2 := (hb5.block (B + 2) (by omega)).trans HG2.out
            clear a0 a1 a2 a3 a4 a5 a6 e0 e1 e2 e3 r0 r1 r2 r3 r4 r5 r6 za0 za1 za2 za3 za4 za5 za6 ze1 ze2 zr0 zr1 zr2 zr3 zr4 zr5 zr6
            obtain ⟨a0, a1, a2, a3, a4, a5, a6, za⟩ := seven g0
            obtain ⟨e0, e1, e2, e3, ze⟩ := four g1
            obtain ⟨r0, r1, r2, r3, r4, r5, r6, zr⟩ := seven g2
            have za0 := za 0
            have za1 := za 1
            have za2 := za 2
            have za3 := za 3
            have za4 := za 4
            have za5 := za 5
            have za6 := za 6
            have ze1 := ze 1
            have ze2 := ze 2
            have zr0 := zr 0
            have zr1 := zr 1
            have zr2 := zr 2
            have zr3 := zr 3
            have zr4 := zr 4
            have zr5 := zr 5
            have zr6 := zr 6
            have HG0 := Lib.hid g0
            have HG1 := Lib.hid g1
            have HG2 := Lib.hid g2
            clear za ze zr g0 g1 g2
            clear hb5 HAT HW1 HW2
            cases th with
            | true =>
              have hkL : k < P.length := by
                have := Hkk.out.2
                unfold thereB at this
                split at this
                · rename_i h; rw [Hkk.out.1] at h; exact h
                · cases this
              have hkn' : k < n := by rw [← Hn.out]; exact hkL
              have hlL := Hn.out
              have hlist : insP ⟨D, T, fileB N⟩ (P.filter (kp D)) = P.set k ⟨D, T, fileB N⟩ := by
                have h1 := Hkk.out.2
                unfold thereB at h1
                rw [dif_pos (by rw [Hkk.out.1]; exact hkL)] at h1
                have h2 := ins_set (p := ⟨D, T, fileB N⟩) Ha.out (by simp only; rw [Hkk.out.1]; exact hkL) (by simpa using h1)
                simp only [Hkk.out.1] at h2
                exact h2
              obtain ⟨g, rfl, -, -⟩ := hl6.own (by omega)
              obtain ⟨gb, off, hA, hgb, s0, s1, s2⟩ := part_at hl6.rd (i := k) hkL
              obtain ⟨rfl, rfl⟩ : g = gb ∧ 0 = off := by simpa using hA
              simp only [Nat.zero_add] at s0 s1 s2
              have y0 := hl6.cell (k * 3)
              have y1 := hl6.cell (k * 3 + 1)
              have y2 := hl6.cell (k * 3 + 2)
              generalize P[k] = old at s0 s1 s2
              have hki : (k : Int) < ((n : Nat) : Int) := by omega
              have hki2 : (k : Int) < (n : Int) + 1 := by omega
              have hki3 : k < n := hkn'
              have hgg : B + 3 ≤ g := Nat.not_lt.1 fun hk => hl6.2 g rfl hk
              have n1 : ¬ B = g := by omega
              have n2 : ¬ B + 1 = g := by omega
              have n3 : ¬ g = B := by omega
              have n4 : ¬ g = B + 1 := by omega
              have n5 : ¬ B + 2 = g := by omega
              have HFI := Lib.hid (fun w' (h : Below w5.heap.size w5 w') => file_any N (by omega) w' (hp6.below h))
              clear hA
              go_wp2_with fail
              go_region_held3 (fun w' => w'.cell? ⟨B, 0, none⟩ = some (.slice (some ⟨g, 0, none⟩) n c1) ∧ w'.cell? ⟨B, 1, none⟩ = some (.int .i64 N) ∧ w'.cell? ⟨B + 1, 1, none⟩ = some (.int .i64 D) ∧ w'.cell? ⟨B + 1, 2, none⟩ = some (.int .i64 T))
                (first | go_keep | (go_split_ands; refine ⟨?_, ?_, ?_, ?_⟩ <;> (refine keepc hb7 ?_; first | assumption | go_keep)) | (go_split_ands; refine ⟨?_, ?_, ?_, ?_⟩ <;> (go_simp; first | done | assumption)))
                (first | (go_at_call 19; refine (HFI.out _ (by first | exact Below.refl _ _ | exact (Below.refl _ _).drew | exact below_drewN (Below.refl _ _) _)).mono ?_; rintro e w7 ⟨rfl, hb7⟩; have hb7' := hb7.drewl; have q0 := keepc hb7' s0; have q1 := keepc hb7' s1; have q2 := keepc hb7' s2; have x0 := keepf2 hb7' s0 y0; have x1 := keepf2 hb7' s0 y1; have x2 := keepf2 hb7' s0 y2))
              have hl7 := hl6.below hb7'
              have hb7w : Below B w w7 := HB5a.out.trans (hb7'.mono (by omega))
              have hs7 := hb7'.size
              have g0 := (hb7'.block B (by omega)).trans HG0.out
              have g1 := (hb7'.block (B + 1) (by omega)).trans HG1.out
              have g2 := (hb7'.block (B + 2) (by omega)).trans HG2.out
              clear a0 a1 a2 a3 a4 a5 a6 e0 e1 e2 e3 r0 r1 r2 r3 r4 r5 r6 za0 za1 za2 za3 za4 za5 za6 ze1 ze2 zr0 zr1 zr2 zr3 zr4 zr5 zr6
              obtain ⟨-, b1, -, -, -, -, -, zb⟩ := seven g0
              have zb1 := zb 1
              clear zb
              obtain ⟨W8, hW8, hWs8, g0, g1, g2, hpa8, hb8⟩ : ∃ W8, ((w7.setCell ⟨g, k * 3, none⟩ (.int .i64 D)).setCell ⟨g, k * 3 + 1, none⟩ (.int .i64 T)).setCell ⟨g, k * 3 + 2, none⟩ (.string (S (fileB N))) = W8 ∧ B + 3 < W8.heap.size ∧ W8.heap[B]? = w7.heap[B]? ∧ W8.heap[B + 1]? = w7.heap[B + 1]? ∧ W8.heap[B + 2]? = w7.heap[B + 2]? ∧ PAt (B + 3) (some ⟨g, 0, none⟩) (n) ((P).set k ⟨D, T, fileB N⟩) W8 ∧ Below B w W8 := by
                refine ⟨_, rfl, by simp [World.setCell]; omega, ?_, ?_, ?_, ?_, ?_⟩
                · exact (Below.heap_setCell _ _ _ _ (by simp only; omega)).trans ((Below.heap_setCell _ _ _ _ (by simp only; omega)).trans (Below.heap_setCell _ _ _ _ (by simp only; omega)))
                · exact (Below.heap_setCell _ _ _ _ (by simp only; omega)).trans ((Below.heap_setCell _ _ _ _ (by simp only; omega)).trans (Below.heap_setCell _ _ _ _ (by simp only; omega)))
                · exact (Below.heap_setCell _ _ _ _ (by simp only; omega)).trans ((Below.heap_setCell _ _ _ _ (by simp only; omega)).trans (Below.heap_setCell _ _ _ _ (by simp only; omega)))
                · refine PAt.of (c := c1) ?_ (by rw [List.length_set]; exact hlL)
                  rw [← parts_set k (P) ⟨D, T, fileB N⟩ hkL]
                  exact ((hl7.store _).store _).store _
                · exact ((hb7w.setCell (p := ⟨g, k * 3, none⟩) (by simp only; omega) _).setCell (p := ⟨g, k * 3 + 1, none⟩) (by simp only; omega) _).setCell (p := ⟨g, k * 3 + 2, none⟩) (by simp only; omega) _
              have k0 := g0.trans (by assumption : w7.heap[B]? = some _)
              have k1 := g1.trans (by assumption : w7.heap[B + 1]? = some _)
              have k2 := g2.trans (by assumption : w7.heap[B + 2]? = some _)
              clear g0 g1 g2
              obtain ⟨-, v1, -, -, -, -, -, zv⟩ := seven k0
              have zv1 := zv 1
              clear zv
              obtain ⟨W5, hW5, hWs5, g0, g1, g2, hpa5, hb5⟩ : ∃ W5, W8.setCell ⟨B, 1, none⟩ (.int .i64 (N + 1)) = W5 ∧ B + 3 < W5.heap.size ∧ W5.heap[B]? = some (.cells #[.slice (some ⟨g, 0, none⟩) (n) c1, .int .i64 (N + 1), .int .i64 Q, .bool true, .int .i64 D, .int .i64 T, .int .i64 X] 25 (0, 0)) ∧ W5.heap[B + 1]? = W8.heap[B + 1]? ∧ W5.heap[B + 2]? = W8.heap[B + 2]? ∧ PAt (B + 3) (some ⟨g, 0, none⟩) (n) ((P).set k ⟨D, T, fileB N⟩) W5 ∧ Below B w W5 :=
                ⟨_, rfl, by simp [World.setCell]; omega, by simp [World.setCell, Array.getElem?_modify, k0], Below.heap_setCell _ _ _ _ (by simp), Below.heap_setCell _ _ _ _ (by simp), hpa8.set (by omega) _, hb8.setCell (p := ⟨B, 1, none⟩) (by simp) _⟩
              have g1 := g1.trans k1
              have g2 := g2.trans k2
              rw [hlist] at HVd
              obtain ⟨a0, a1, a2, a3, a4, a5, a6, za⟩ := seven g0
              obtain ⟨e0, e1, e2, e3, ze⟩ := four g1
              obtain ⟨r0, r1, r2, r3, r4, r5, r6, zr⟩ := seven g2
              have za0 := za 0
              have za1 := za 1
              have za2 := za 2
              have za3 := za 3
              have za4 := za 4
              have za5 := za 5
              have za6 := za 6
              have ze1 := ze 1
              have ze2 := ze 2
              have zr0 := zr 0
              have zr1 := zr 1
              have zr2 := zr 2
              have zr3 := zr 3
              have zr4 := zr 4
              have zr5 := zr 5
              have zr6 := zr 6
              have HG0 := Lib.hid g0
              have HG1 := Lib.hid g1
              have HG2 := Lib.hid g2
              clear za ze zr g0 g1 g2
              have HP5 := Lib.hid hpa5
              have HB5 := Lib.hid hb5
              clear hpa5 hb5 hpa8 hb8 hl7 hb7w q0 q1 q2 x0 x1 x2 s0 s1 s2 y0 y1 y2 k0 k1 k2
              have u1 : (D == D) = true := beq_iff_eq.2 rfl
              have HV := Lib.hid (show V = (⟨(P).set k ⟨D, T, fileB N⟩, N + 1, Q, false, 0, 0, 0⟩, 0) by rw [HVd.out, if_pos (by simp)])
              have HOF := off_any ((some ⟨g, 0, none⟩)) (n) c1 ⟨(P).set k ⟨D, T, fileB N⟩, N + 1, Q, true, D, T, X⟩ W5
              unfold stVal offS at HOF
              simp only at HOF
              have HO := Lib.hid HOF
              clear HOF
              go_wp2_with fail
              refine HO.out.mono ?_
              rintro e w9 ⟨rfl, hb9⟩
              have g0 := (hb9.block B (by omega)).trans HG0.out
              have g1 := (hb9.block (B + 1) (by omega)).trans HG1.out
              have g2 := (hb9.block (B + 2) (by omega)).trans HG2.out
              clear a0 a1 a2 a3 a4 a5 a6 e0 e1 e2 e3 r0 r1 r2 r3 r4 r5 r6 za0 za1 za2 za3 za4 za5 za6 ze1 ze2 zr0 zr1 zr2 zr3 zr4 zr5 zr6
              obtain ⟨a0, a1, a2, a3, a4, a5, a6, za⟩ := seven g0
              obtain ⟨e0, e1, e2, e3, ze⟩ := four g1
              obtain ⟨r0, r1, r2, r3, r4, r5, r6, zr⟩ := seven g2
              have za0 := za 0
              have za1 := za 1
              have za2 := za 2
              have za3 := za 3
              have za4 := za 4
              have za5 := za 5
              have za6 := za 6
              have ze1 := ze 1
              have ze2 := ze 2
              have zr0 := zr 0
              have zr1 := zr 1
              have zr2 := zr 2
              have zr3 := zr 3
              have zr4 := zr 4
              have zr5 := zr 5
              have zr6 := zr 6
              have HG0 := Lib.hid g0
              have HG1 := Lib.hid g1
              have HG2 := Lib.hid g2
              clear za ze zr g0 g1 g2
              have HP7 := Lib.hid (HP5.out.below hb9)
              have HB7 := Lib.hid (HB5.out.trans (hb9.mono (by omega)))
              clear hb9
              go_wp2_with fail
              refine bodyPost_ret (v := .tuple #[stVal ((some ⟨g, 0, none⟩)) (n) (c1) ⟨(P).set k ⟨D, T, fileB N⟩, N + 1, Q, false, 0, 0, 0⟩, .int .i64 0]) (by rw [results_cell_tmp rfl]; go_simp; rfl) rfl ⟨(some ⟨g, 0, none⟩), n, c1, by rw [HV.out]; rfl, ?_, ?_⟩
              · rw [HV.out, HB.out]
                exact ((((((((((((((HP7.out.set (b := B) (j := 0) (by omega) _).set (b := B) (j := 1) (by omega) _).set (b := B) (j := 2) (by omega) _).set (b := B) (j := 3) (by omega) _).set (b := B) (j := 4) (by omega) _).set (b := B) (j := 5) (by omega) _).set (b := B) (j := 6) (by omega) _).set (b := B + 2) (j := 0) (by omega) _).set (b := B + 2) (j := 1) (by omega) _).set (b := B + 2) (j := 2) (by omega) _).set (b := B + 2) (j := 3) (by omega) _).set (b := B + 2) (j := 4) (by omega) _).set (b := B + 2) (j := 5) (by omega) _).set (b := B + 2) (j := 6) (by omega) _).mono (by omega)
              · rw [HB.out]
                exact ((((((((((((((HB7.out.setCell (p := ⟨B, 0, none⟩) (by simp) _).setCell (p := ⟨B, 1, none⟩) (by simp) _).setCell (p := ⟨B, 2, none⟩) (by simp) _).setCell (p := ⟨B, 3, none⟩) (by simp) _).setCell (p := ⟨B, 4, none⟩) (by simp) _).setCell (p := ⟨B, 5, none⟩) (by simp) _).setCell (p := ⟨B, 6, none⟩) (by simp) _).setCell (p := ⟨B + 2, 0, none⟩) (by simp) _).setCell (p := ⟨B + 2, 1, none⟩) (by simp) _).setCell (p := ⟨B + 2, 2, none⟩) (by simp) _).setCell (p := ⟨B + 2, 3, none⟩) (by simp) _).setCell (p := ⟨B + 2, 4, none⟩) (by simp) _).setCell (p := ⟨B + 2, 5, none⟩) (by simp) _).setCell (p := ⟨B + 2, 6, none⟩) (by simp) _)
            | false =>
              have hnot : ∀ x ∈ P, x.Day ≠ D := fun x hx e => by
                obtain ⟨h1, h2⟩ := (there_iff Ha.out).1 ⟨x, hx, e⟩
                have h3 := Hkk.out.2
                unfold thereB at h3
                rw [dif_pos h1, h2] at h3
                simp at h3
              have hlist : insP ⟨D, T, fileB N⟩ (P.filter (kp D)) = (P.take k ++ p0 :: P.drop k).set k ⟨D, T, fileB N⟩ := by
                have h2 := ins_new (p := ⟨D, T, fileB N⟩) Ha.out hnot
                simp only [Hkk.out.1] at h2
                refine Eq.trans h2 ?_
                rw [List.set_append_right _ _ (by rw [List.length_take]; omega)]
                have h3 : k - (P.take k).length = 0 := by rw [List.length_take, Hn.out]; omega
                rw [h3, List.set_cons_zero]
              have hone := Below.one w5 (.cells #[.int .i64 0, .int .i64 0, .string ⟨#[]⟩] 40)
              have hnc : n ≤ c1 := by
                rcases Nat.eq_zero_or_pos n with h | h
                · omega
                · obtain ⟨_, _, h2, _⟩ := hl6.own h
                  exact h2
              have HIN := Lib.hid (insert_any (B + 3) A1 c1 n k w5.heap.size P (w5.alloc (.cells #[.int .i64 0, .int .i64 0, .string ⟨#[]⟩] 40)) (by simp; omega) (hl6.below hone) Hn.out (by omega) hkn (heap_alloc_new _ _) (fun g hg => by have := (hl6.1.lt g hg).2; omega) hnc)
              have m1 : min (k : Int) (n : Int) = k := by omega
              have m2 : (if (n : Int) < (k : Int) then (n : Int) else (k : Int)) = k := by split <;> omega
              clear hnot
              go_wp2_with fail
              refine HIN.out.mono ?_
              rintro e w6 ⟨A6, c6, rfl, hl6', hb6'⟩
              have hb6 : Below (B + 3) w5 w6 := (hone.mono (by omega)).trans hb6'
              have hp6'' := hp6.later hb6.size (hb6.block _ (by omega))
              have HB6a := Lib.hid (HB5a.out.trans (hb6.mono (by omega)))
              have hs6 := hb6.size
              clear hl6 HIN hone hb6' hp6 HB5a
              have g0 := (hb6.block B (by omega)).trans HG0.out
              have g1 := (hb6.block (B + 1) (by omega)).trans HG1.out
              have g2 := (hb6.block (B + 2) (by omega)).trans HG2.out
              clear a0 a1 a2 a3 a4 a5 a6 e0 e1 e2 e3 r0 r1 r2 r3 r4 r5 r6 za0 za1 za2 za3 za4 za5 za6 ze1 ze2 zr0 zr1 zr2 zr3 zr4 zr5 zr6
              obtain ⟨b0, -, -, -, -, -, -, zb⟩ := seven g0
              have zb0 := zb 0
              clear zb
              obtain ⟨W6, hW6, hs66, h0, h1, h2, hl6, HB5a, hp6⟩ : ∃ W6, w6.setCell ⟨B, 0, none⟩ (.slice A6 (n + 1) c6) = W6 ∧ W6.heap.size = w6.heap.size ∧ W6.heap[B]? = some (.cells #[.slice A6 (n + 1) c6, .int .i64 N, .int .i64 Q, .bool true, .int .i64 D, .int .i64 T, .int .i64 X] 25 (0, 0)) ∧ W6.heap[B + 1]? = w6.heap[B + 1]? ∧ W6.heap[B + 2]? = w6.heap[B + 2]? ∧ Lie (fun k => k < B + 3) 40 3 (.slice A6 (n + 1) c6) (n + 1) ((P.take k ++ p0 :: P.drop k).flatMap partCells) W6 ∧ Below B w W6 ∧ Pow W6 :=
                ⟨_, rfl, by simp [World.setCell], by simp [World.setCell, Array.getElem?_modify, g0], Below.heap_setCell _ _ _ _ (by simp), Below.heap_setCell _ _ _ _ (by simp), own_set hl6' (show B < B + 3 by omega) 0 _, HB6a.out.setCell (p := ⟨B, 0, none⟩) (Nat.le_refl B) _, hp6''.later (by simp [World.setCell]) (Below.heap_setCell _ _ _ _ (by simp only; omega))⟩
              have g1' := h1.trans g1
              have g2' := h2.trans g2
              have HB5a := Lib.hid HB5a
              clear g0 g1 g2 h1 h2 hl6' hb6 hp6'' HB6a
              have g0 := h0
              have g1 := g1'
              have g2 := g2'
              clear h0 g1' g2'
              obtain ⟨a0, a1, a2, a3, a4, a5, a6, za⟩ := seven g0
              obtain ⟨e0, e1, e2, e3, ze⟩ := four g1
              obtain ⟨r0, r1, r2, r3, r4, r5, r6, zr⟩ := seven g2
              have za0 := za 0
              have za1 := za 1
              have za2 := za 2
              have za3 := za 3
              have za4 := za 4
              have za5 := za 5
              have za6 := za 6
              have ze1 := ze 1
              have ze2 := ze 2
              have zr0 := zr 0
              have zr1 := zr 1
              have zr2 := zr 2
              have zr3 := zr 3
              have zr4 := zr 4
              have zr5 := zr 5
              have zr6 := zr 6
              have HG0 := Lib.hid g0
              have HG1 := Lib.hid g1
              have HG2 := Lib.hid g2
              clear za ze zr g0 g1 g2
              have hkL : k < (P.take k ++ p0 :: P.drop k).length := by rw [List.length_append, List.length_take, List.length_cons, List.length_drop, Hn.out]; omega
              have hlL : (P.take k ++ p0 :: P.drop k).length = n + 1 := by rw [List.length_append, List.length_take, List.length_cons, List.length_drop, Hn.out]; omega
              have hkn' : k < n + 1 := by omega
              have hw5s : B + 3 < W6.heap.size := by omega
              obtain ⟨g, rfl, -, -⟩ := hl6.own (by omega)
              obtain ⟨gb, off, hA, hgb, s0, s1, s2⟩ := part_at hl6.rd (i := k) hkL
              obtain ⟨rfl, rfl⟩ : g = gb ∧ 0 = off := by simpa using hA
              simp only [Nat.zero_add] at s0 s1 s2
              have y0 := hl6.cell (k * 3)
              have y1 := hl6.cell (k * 3 + 1)
              have y2 := hl6.cell (k * 3 + 2)
              generalize (P.take k ++ p0 :: P.drop k)[k] = old at s0 s1 s2
              have hki : (k : Int) < (((n + 1) : Nat) : Int) := by omega
              have hki2 : (k : Int) < (n : Int) + 1 := by omega
              have hki3 : k < (n + 1) := hkn'
              have hgg : B + 3 ≤ g := Nat.not_lt.1 fun hk => hl6.2 g rfl hk
              have n1 : ¬ B = g := by omega
              have n2 : ¬ B + 1 = g := by omega
              have n3 : ¬ g = B := by omega
              have n4 : ¬ g = B + 1 := by omega
              have n5 : ¬ B + 2 = g := by omega
              have HFI := Lib.hid (fun w' (h : Below W6.heap.size W6 w') => file_any N (by omega) w' (hp6.below h))
              clear hA
              go_wp2_with fail
              go_region_held3 (fun w' => w'.cell? ⟨B, 0, none⟩ = some (.slice (some ⟨g, 0, none⟩) (n + 1) c6) ∧ w'.cell? ⟨B, 1, none⟩ = some (.int .i64 N) ∧ w'.cell? ⟨B + 1, 1, none⟩ = some (.int .i64 D) ∧ w'.cell? ⟨B + 1, 2, none⟩ = some (.int .i64 T))
                (first | go_keep | (go_split_ands; refine ⟨?_, ?_, ?_, ?_⟩ <;> (refine keepc hb7 ?_; first | assumption | go_keep)) | (go_split_ands; refine ⟨?_, ?_, ?_, ?_⟩ <;> (go_simp; first | done | assumption)))
                (first | (go_at_call 19; refine (HFI.out _ (by first | exact Below.refl _ _ | exact (Below.refl _ _).drew | exact below_drewN (Below.refl _ _) _)).mono ?_; rintro e w7 ⟨rfl, hb7⟩; have hb7' := hb7.drewl; have q0 := keepc hb7' s0; have q1 := keepc hb7' s1; have q2 := keepc hb7' s2; have x0 := keepf2 hb7' s0 y0; have x1 := keepf2 hb7' s0 y1; have x2 := keepf2 hb7' s0 y2))
              have hl7 := hl6.below hb7'
              have hb7w : Below B w w7 := HB5a.out.trans (hb7'.mono (by omega))
              have hs7 := hb7'.size
              have g0 := (hb7'.block B (by omega)).trans HG0.out
              have g1 := (hb7'.block (B + 1) (by omega)).trans HG1.out
              have g2 := (hb7'.block (B + 2) (by omega)).trans HG2.out
              clear a0 a1 a2 a3 a4 a5 a6 e0 e1 e2 e3 r0 r1 r2 r3 r4 r5 r6 za0 za1 za2 za3 za4 za5 za6 ze1 ze2 zr0 zr1 zr2 zr3 zr4 zr5 zr6
              obtain ⟨-, b1, -, -, -, -, -, zb⟩ := seven g0
              have zb1 := zb 1
              clear zb
              obtain ⟨W8, hW8, hWs8, g0, g1, g2, hpa8, hb8⟩ : ∃ W8, ((w7.setCell ⟨g, k * 3, none⟩ (.int .i64 D)).setCell ⟨g, k * 3 + 1, none⟩ (.int .i64 T)).setCell ⟨g, k * 3 + 2, none⟩ (.string (S (fileB N))) = W8 ∧ B + 3 < W8.heap.size ∧ W8.heap[B]? = w7.heap[B]? ∧ W8.heap[B + 1]? = w7.heap[B + 1]? ∧ W8.heap[B + 2]? = w7.heap[B + 2]? ∧ PAt (B + 3) (some ⟨g, 0, none⟩) ((n + 1)) (((P.take k ++ p0 :: P.drop k)).set k ⟨D, T, fileB N⟩) W8 ∧ Below B w W8 := by
                refine ⟨_, rfl, by simp [World.setCell]; omega, ?_, ?_, ?_, ?_, ?_⟩
                · exact (Below.heap_setCell _ _ _ _ (by simp only; omega)).trans ((Below.heap_setCell _ _ _ _ (by simp only; omega)).trans (Below.heap_setCell _ _ _ _ (by simp only; omega)))
                · exact (Below.heap_setCell _ _ _ _ (by simp only; omega)).trans ((Below.heap_setCell _ _ _ _ (by simp only; omega)).trans (Below.heap_setCell _ _ _ _ (by simp only; omega)))
                · exact (Below.heap_setCell _ _ _ _ (by simp only; omega)).trans ((Below.heap_setCell _ _ _ _ (by simp only; omega)).trans (Below.heap_setCell _ _ _ _ (by simp only; omega)))
                · refine PAt.of (c := c6) ?_ (by rw [List.length_set]; exact hlL)
                  rw [← parts_set k ((P.take k ++ p0 :: P.drop k)) ⟨D, T, fileB N⟩ hkL]
                  exact ((hl7.store _).store _).store _
                · exact ((hb7w.setCell (p := ⟨g, k * 3, none⟩) (by simp only; omega) _).setCell (p := ⟨g, k * 3 + 1, none⟩) (by simp only; omega) _).setCell (p := ⟨g, k * 3 + 2, none⟩) (by simp only; omega) _
              have k0 := g0.trans (by assumption : w7.heap[B]? = some _)
              have k1 := g1.trans (by assumption : w7.heap[B + 1]? = some _)
              have k2 := g2.trans (by assumption : w7.heap[B + 2]? = some _)
              clear g0 g1 g2
              obtain ⟨-, v1, -, -, -, -, -, zv⟩ := seven k0
              have zv1 := zv 1
              clear zv
              obtain ⟨W5, hW5, hWs5, g0, g1, g2, hpa5, hb5⟩ : ∃ W5, W8.setCell ⟨B, 1, none⟩ (.int .i64 (N + 1)) = W5 ∧ B + 3 < W5.heap.size ∧ W5.heap[B]? = some (.cells #[.slice (some ⟨g, 0, none⟩) ((n + 1)) c6, .int .i64 (N + 1), .int .i64 Q, .bool true, .int .i64 D, .int .i64 T, .int .i64 X] 25 (0, 0)) ∧ W5.heap[B + 1]? = W8.heap[B + 1]? ∧ W5.heap[B + 2]? = W8.heap[B + 2]? ∧ PAt (B + 3) (some ⟨g, 0, none⟩) ((n + 1)) (((P.take k ++ p0 :: P.drop k)).set k ⟨D, T, fileB N⟩) W5 ∧ Below B w W5 :=
                ⟨_, rfl, by simp [World.setCell]; omega, by simp [World.setCell, Array.getElem?_modify, k0], Below.heap_setCell _ _ _ _ (by simp), Below.heap_setCell _ _ _ _ (by simp), hpa8.set (by omega) _, hb8.setCell (p := ⟨B, 1, none⟩) (by simp) _⟩
              have g1 := g1.trans k1
              have g2 := g2.trans k2
              rw [hlist] at HVd
              obtain ⟨a0, a1, a2, a3, a4, a5, a6, za⟩ := seven g0
              obtain ⟨e0, e1, e2, e3, ze⟩ := four g1
              obtain ⟨r0, r1, r2, r3, r4, r5, r6, zr⟩ := seven g2
              have za0 := za 0
              have za1 := za 1
              have za2 := za 2
              have za3 := za 3
              have za4 := za 4
              have za5 := za 5
              have za6 := za 6
              have ze1 := ze 1
              have ze2 := ze 2
              have zr0 := zr 0
              have zr1 := zr 1
              have zr2 := zr 2
              have zr3 := zr 3
              have zr4 := zr 4
              have zr5 := zr 5
              have zr6 := zr 6
              have HG0 := Lib.hid g0
              have HG1 := Lib.hid g1
              have HG2 := Lib.hid g2
              clear za ze zr g0 g1 g2
              have HP5 := Lib.hid hpa5
              have HB5 := Lib.hid hb5
              clear hpa5 hb5 hpa8 hb8 hl7 hb7w q0 q1 q2 x0 x1 x2 s0 s1 s2 y0 y1 y2 k0 k1 k2
              have u1 : (D == D) = true := beq_iff_eq.2 rfl
              have HV := Lib.hid (show V = (⟨((P.take k ++ p0 :: P.drop k)).set k ⟨D, T, fileB N⟩, N + 1, Q, false, 0, 0, 0⟩, 0) by rw [HVd.out, if_pos (by simp)])
              have HOF := off_any ((some ⟨g, 0, none⟩)) ((n + 1)) c6 ⟨((P.take k ++ p0 :: P.drop k)).set k ⟨D, T, fileB N⟩, N + 1, Q, true, D, T, X⟩ W5
              unfold stVal offS at HOF
              simp only at HOF
              have HO := Lib.hid HOF
              clear HOF
              go_wp2_with fail
              refine HO.out.mono ?_
              rintro e w9 ⟨rfl, hb9⟩
              have g0 := (hb9.block B (by omega)).trans HG0.out
              have g1 := (hb9.block (B + 1) (by omega)).trans HG1.out
              have g2 := (hb9.block (B + 2) (by omega)).trans HG2.out
              clear a0 a1 a2 a3 a4 a5 a6 e0 e1 e2 e3 r0 r1 r2 r3 r4 r5 r6 za0 za1 za2 za3 za4 za5 za6 ze1 ze2 zr0 zr1 zr2 zr3 zr4 zr5 zr6
              obtain ⟨a0, a1, a2, a3, a4, a5, a6, za⟩ := seven g0
              obtain ⟨e0, e1, e2, e3, ze⟩ := four g1
              obtain ⟨r0, r1, r2, r3, r4, r5, r6, zr⟩ := seven g2
              have za0 := za 0
              have za1 := za 1
              have za2 := za 2
              have za3 := za 3
              have za4 := za 4
              have za5 := za 5
              have za6 := za 6
              have ze1 := ze 1
              have ze2 := ze 2
              have zr0 := zr 0
              have zr1 := zr 1
              have zr2 := zr 2
              have zr3 := zr 3
              have zr4 := zr 4
              have zr5 := zr 5
              have zr6 := zr 6
              have HG0 := Lib.hid g0
              have HG1 := Lib.hid g1
              have HG2 := Lib.hid g2
              clear za ze zr g0 g1 g2
              have HP7 := Lib.hid (HP5.out.below hb9)
              have HB7 := Lib.hid (HB5.out.trans (hb9.mono (by omega)))
              clear hb9
              go_wp2_with fail
              refine bodyPost_ret (v := .tuple #[stVal ((some ⟨g, 0, none⟩)) ((n + 1)) (c6) ⟨((P.take k ++ p0 :: P.drop k)).set k ⟨D, T, fileB N⟩, N + 1, Q, false, 0, 0, 0⟩, .int .i64 0]) (by rw [results_cell_tmp rfl]; go_simp; rfl) rfl ⟨(some ⟨g, 0, none⟩), (n + 1), c6, by rw [HV.out]; rfl, ?_, ?_⟩
              · rw [HV.out, HB.out]
                exact ((((((((((((((HP7.out.set (b := B) (j := 0) (by omega) _).set (b := B) (j := 1) (by omega) _).set (b := B) (j := 2) (by omega) _).set (b := B) (j := 3) (by omega) _).set (b := B) (j := 4) (by omega) _).set (b := B) (j := 5) (by omega) _).set (b := B) (j := 6) (by omega) _).set (b := B + 2) (j := 0) (by omega) _).set (b := B + 2) (j := 1) (by omega) _).set (b := B + 2) (j := 2) (by omega) _).set (b := B + 2) (j := 3) (by omega) _).set (b := B + 2) (j := 4) (by omega) _).set (b := B + 2) (j := 5) (by omega) _).set (b := B + 2) (j := 6) (by omega) _).mono (by omega)
              · rw [HB.out]
                exact ((((((((((((((HB7.out.setCell (p := ⟨B, 0, none⟩) (by simp) _).setCell (p := ⟨B, 1, none⟩) (by simp) _).setCell (p := ⟨B, 2, none⟩) (by simp) _).setCell (p := ⟨B, 3, none⟩) (by simp) _).setCell (p := ⟨B, 4, none⟩) (by simp) _).setCell (p := ⟨B, 5, none⟩) (by simp) _).setCell (p := ⟨B, 6, none⟩) (by simp) _).setCell (p := ⟨B + 2, 0, none⟩) (by simp) _).setCell (p := ⟨B + 2, 1, none⟩) (by simp) _).setCell (p := ⟨B + 2, 2, none⟩) (by simp) _).setCell (p := ⟨B + 2, 3, none⟩) (by simp) _).setCell (p := ⟨B + 2, 4, none⟩) (by simp) _).setCell (p := ⟨B + 2, 5, none⟩) (by simp) _).setCell (p := ⟨B + 2, 6, none⟩) (by simp) _)
          · have HV := Lib.hid (show V = (st0, 170) by rw [← HV0.out]; exact appV_none (by rw [Hap.out]; exact putS_no fun h => c3 h.2.2))
            have t1 : decide (N < 1099511627776) = false := decide_eq_false c3
            clear c1' c2 c3
            go_wp2_with fail
            refine (HW1.out _).mono ?_
            rintro e w4 ⟨rfl, rfl⟩
            go_wp2_with fail
            refine (HW2.out _).mono ?_
            rintro e w4 ⟨rfl, rfl⟩
            go_wp2_with fail
            refine bodyPost_ret (v := .tuple #[stVal none 0 0 st0, .int .i64 170]) (by rw [results_cell_tmp rfl]; go_simp; rfl) rfl ⟨none, 0, 0, by rw [HV.out]; rfl, by rw [HV.out]; exact PAt.nil _ _, ?_⟩
            rw [HB.out]
            exact (((((((HBW.out.setCell (p := ⟨B + 2, 0, none⟩) (by simp) _).setCell (p := ⟨B + 2, 1, none⟩) (by simp) _).setCell (p := ⟨B + 2, 2, none⟩) (by simp) _).setCell (p := ⟨B + 2, 3, none⟩) (by simp) _).setCell (p := ⟨B + 2, 4, none⟩) (by simp) _).setCell (p := ⟨B + 2, 5, none⟩) (by simp) _).setCell (p := ⟨B + 2, 6, none⟩) (by simp) _)
        · have HV := Lib.hid (show V = (st0, 170) by rw [← HV0.out]; exact appV_none (by rw [Hap.out]; exact putS_no fun h => c2 h.2.1))
          rw [decide_eq_false c2] at HW2
          clear c1' c2
          go_wp2_with fail
          refine (HW1.out _).mono ?_
          rintro e w4 ⟨rfl, rfl⟩
          go_wp2_with fail
          refine (HW2.out _).mono ?_
          rintro e w4 ⟨rfl, rfl⟩
          go_wp2_with fail
          refine bodyPost_ret (v := .tuple #[stVal none 0 0 st0, .int .i64 170]) (by rw [results_cell_tmp rfl]; go_simp; rfl) rfl ⟨none, 0, 0, by rw [HV.out]; rfl, by rw [HV.out]; exact PAt.nil _ _, ?_⟩
          rw [HB.out]
          exact (((((((HBW.out.setCell (p := ⟨B + 2, 0, none⟩) (by simp) _).setCell (p := ⟨B + 2, 1, none⟩) (by simp) _).setCell (p := ⟨B + 2, 2, none⟩) (by simp) _).setCell (p := ⟨B + 2, 3, none⟩) (by simp) _).setCell (p := ⟨B + 2, 4, none⟩) (by simp) _).setCell (p := ⟨B + 2, 5, none⟩) (by simp) _).setCell (p := ⟨B + 2, 6, none⟩) (by simp) _)
      · have HV := Lib.hid (show V = (st0, 170) by rw [← HV0.out]; exact appV_none (by rw [Hap.out]; exact putS_no fun h => c1' h.1))
        rw [decide_eq_false c1'] at HW1
        clear c1'
        go_wp2_with fail
        refine (HW1.out _).mono ?_
        rintro e w4 ⟨rfl, rfl⟩
        go_wp2_with fail
        refine bodyPost_ret (v := .tuple #[stVal none 0 0 st0, .int .i64 170]) (by rw [results_cell_tmp rfl]; go_simp; rfl) rfl ⟨none, 0, 0, by rw [HV.out]; rfl, by rw [HV.out]; exact PAt.nil _ _, ?_⟩
        rw [HB.out]
        exact (((((((HBW.out.setCell (p := ⟨B + 2, 0, none⟩) (by simp) _).setCell (p := ⟨B + 2, 1, none⟩) (by simp) _).setCell (p := ⟨B + 2, 2, none⟩) (by simp) _).setCell (p := ⟨B + 2, 3, none⟩) (by simp) _).setCell (p := ⟨B + 2, 4, none⟩) (by simp) _).setCell (p := ⟨B + 2, 5, none⟩) (by simp) _).setCell (p := ⟨B + 2, 6, none⟩) (by simp) _)
end Go.Proofs.YtbheoahpaidpmaaDoor

/-! ManAppC -/
namespace Go.Proofs.YtbheoahpaidpmaaDoor
open Go Go.RowKit

set_option linter.unusedSimpArgs false in
set_option maxRecDepth 100000 in
set_option maxHeartbeats 8000000 in
theorem mapply_1 (A : Option Addr) (n c : Nat) (s : St) (e : Ed) (w : World) (hr : Rd w 3 A n (s.Parts.flatMap partCells)) (hn : s.Parts.length = n) (hl : n ≤ 100000) (ha : asc s.Parts) (hN0 : 0 ≤ s.Next) (hN1 : s.Next ≤ 1099511627776) (hD0 : 0 ≤ s.Done) (hD1 : s.Done ≤ 5000) (hp : Pow w) (hk : e.Kind = 1) :
    Calls Tryd.prog 17 #[stVal A n c s, edVal e] w (StAt (appV s e) w.heap.size w) := by
  obtain ⟨B, hB⟩ : ∃ B, w.heap.size = B := ⟨_, rfl⟩
  obtain ⟨P, N, Q, O, D, T, X⟩ := s
  obtain ⟨eK, eD, eL, eA⟩ := e
  obtain rfl : eK = 1 := hk
  simp only at hr hn ha hN0 hN1 hD0 hD1
  obtain ⟨V, hV⟩ : ∃ V, appV ⟨P, N, Q, O, D, T, X⟩ ⟨1, eD, eL, eA⟩ = V := ⟨_, rfl⟩
  rw [hV]
  have HV0 := Lib.hid hV
  have HF := Lib.hid (fun w' hr' => mfind_any eD A c n ⟨P, N, Q, O, D, T, X⟩ w' hr' hn (by omega))
  unfold stVal edVal
  simp only
  obtain ⟨w0, hw0, hs0, hb0, k0, k1, k2⟩ : ∃ w0, ((w.alloc (.cells #[.slice A n c, .int .i64 N, .int .i64 Q, .bool O, .int .i64 D, .int .i64 T, .int .i64 X] 25)).alloc (.cells #[.int .i64 1, .int .i64 eD, .int .i64 eL, .int .i64 eA] 47)).alloc (.cells #[.slice none 0 0, .int .i64 0, .int .i64 0, .bool false, .int .i64 0, .int .i64 0, .int .i64 0] 25) = w0 ∧ w0.heap.size = B + 3 ∧ Below B w w0
      ∧ w0.heap[B]? = some (.cells #[.slice A n c, .int .i64 N, .int .i64 Q, .bool O, .int .i64 D, .int .i64 T, .int .i64 X] 25 (0, 0)) ∧ w0.heap[B + 1]? = some (.cells #[.int .i64 1, .int .i64 eD, .int .i64 eL, .int .i64 eA] 47 (0, 0)) ∧ w0.heap[B + 2]? = some (.cells #[.slice none 0 0, .int .i64 0, .int .i64 0, .bool false, .int .i64 0, .int .i64 0, .int .i64 0] 25 (0, 0)) := by
    have n1 := heap_alloc_new w (.cells #[.slice A n c, .int .i64 N, .int .i64 Q, .bool O, .int .i64 D, .int .i64 T, .int .i64 X] 25)
    have n2 := heap_alloc_new (w.alloc (.cells #[.slice A n c, .int .i64 N, .int .i64 Q, .bool O, .int .i64 D, .int .i64 T, .int .i64 X] 25)) (.cells #[.int .i64 1, .int .i64 eD, .int .i64 eL, .int .i64 eA] 47)
    have n3 := heap_alloc_new ((w.alloc (.cells #[.slice A n c, .int .i64 N, .int .i64 Q, .bool O, .int .i64 D, .int .i64 T, .int .i64 X] 25)).alloc (.cells #[.int .i64 1, .int .i64 eD, .int .i64 eL, .int .i64 eA] 47)) (.cells #[.slice none 0 0, .int .i64 0, .int .i64 0, .bool false, .int .i64 0, .int .i64 0, .int .i64 0] 25)
    simp only [World.size_alloc, hB, Nat.add_assoc, Nat.reduceAdd] at n1 n2 n3
    refine ⟨_, rfl, by simp [hB], ?_, ?_, ?_, n3⟩
    · subst hB
      exact (((Below.refl _ _).alloc (Nat.le_refl _) _).alloc (by simp) _).alloc (by simp; omega) _
    · exact (Lib.alloc_old _ _ _ (by simp; omega)).trans ((Lib.alloc_old _ _ _ (by simp; omega)).trans n1)
    · exact (Lib.alloc_old _ _ _ (by simp; omega)).trans n2
  have hgB : 0 < B := hB ▸ hp.2
  have hb0w : Below w.heap.size w w0 := hB ▸ hb0
  have hrd0 := hr.below hb0w
  have HP0 := Lib.hid (hp.below hb0w)
  have HC := Lib.hid (clone_any A c n P w0 hrd0 hn (by omega))
  have Hr0 := Lib.hid hrd0
  have Hn := Lib.hid hn
  have HB := Lib.hid hB
  have HB0 := Lib.hid hb0
  have Ha := Lib.hid ha
  obtain ⟨a0, -, -, -, -, -, -, za⟩ := seven k0
  have za0 := za 0
  have K0 := Lib.hid k0
  have K1 := Lib.hid k1
  have K2 := Lib.hid k2
  clear hr hrd0 hb0 hb0w hn ha hp k0 k1 k2 za hV
  go_enter Tryd.func17, Tryd.ntmps17
  go_wp2_with fail
  try simp only [hw0]
  clear hw0 hB a0 za0
  refine HC.out.mono ?_
  rintro e w1 ⟨A1, c1, rfl, hl1, hb1⟩
  have k0 := (hb1.block B (by omega)).trans K0.out
  have k1 := (hb1.block (B + 1) (by omega)).trans K1.out
  have k2 := (hb1.block (B + 2) (by omega)).trans K2.out
  obtain ⟨a0, a1, a2, a3, a4, a5, a6, za⟩ := seven k0
  obtain ⟨e0, e1, e2, e3, ze⟩ := four k1
  have za0 := za 0
  have hsz1 : B + 3 ≤ w1.heap.size := by have := hb1.size; omega
  rw [hs0] at hl1
  have hbs : Below w0.heap.size w0 (w1.setCell ⟨B, 0, none⟩ (.slice A1 n c1)) → True := fun _ => trivial
  obtain ⟨w2, hw2, hs2, g0, g1, g2, hl2, hb2, hp2, hrd2⟩ : ∃ w2, w1.setCell ⟨B, 0, none⟩ (.slice A1 n c1) = w2 ∧ w2.heap.size = w1.heap.size ∧ w2.heap[B]? = some (.cells #[.slice A1 n c1, .int .i64 N, .int .i64 Q, .bool O, .int .i64 D, .int .i64 T, .int .i64 X] 25 (0, 0)) ∧ w2.heap[B + 1]? = some (.cells #[.int .i64 1, .int .i64 eD, .int .i64 eL, .int .i64 eA] 47 (0, 0)) ∧ w2.heap[B + 2]? = some (.cells #[.slice none 0 0, .int .i64 0, .int .i64 0, .bool false, .int .i64 0, .int .i64 0, .int .i64 0] 25 (0, 0)) ∧
      Lie (fun k => k < B + 3) 40 3 (.slice A1 n c1) n (P.flatMap partCells) w2 ∧ Below B w w2 ∧ Pow w2 ∧ Rd w2 3 A1 n (P.flatMap partCells) := by
    have hl2 := own_set hl1 (show B < B + 3 by omega) 0 (.slice A1 n c1)
    exact ⟨_, rfl, by simp [World.setCell], by simp [World.setCell, Array.getElem?_modify, k0], (Below.heap_setCell _ _ _ _ (by simp)).trans k1, (Below.heap_setCell _ _ _ _ (by simp)).trans k2, hl2, (HB0.out.trans (hb1.mono (by omega))).setCell (p := ⟨B, 0, none⟩) (Nat.le_refl B) _, (HP0.out.below hb1).later (by simp [World.setCell]) (Below.heap_setCell _ _ _ _ (by simp only; omega)), hl2.rd⟩
  obtain ⟨b0, b1, b2, b3, b4, b5, b6, -⟩ := seven g0
  obtain ⟨d0, d1, d2, d3, -⟩ := four g1
  have HF2 := Lib.hid (mfind_any eD A1 c1 n ⟨P, N, Q, O, D, T, X⟩ w2 hrd2 Hn.out (by omega))
  unfold stVal at HF2
  simp only at HF2
  have HL2 := Lib.hid hl2
  have HB2 := Lib.hid hb2
  have HP2 := Lib.hid hp2
  have G0 := Lib.hid g0
  have G1 := Lib.hid g1
  have G2 := Lib.hid g2
  clear hl1 hb1 HC K0 K1 K2 k0 k1 k2 hl2 hb2 hp2 hrd2 g0 g1 g2 hbs HF Hr0 HP0 HB0 za ze
  go_wp2_with fail
  try simp only [hw2]
  clear hw2 a0 a1 a2 a3 a4 a5 a6 e0 e1 e2 e3 za0
  refine HF2.out.mono ?_
  rintro e w3 ⟨rfl, hb3⟩
  obtain ⟨pf, hpf⟩ : ∃ pf, findP P eD = pf := ⟨_, rfl⟩
  rw [hpf]
  obtain ⟨p, hpp⟩ : ∃ p, pf.getD p0 = p := ⟨_, rfl⟩
  obtain ⟨q, hq⟩ : ∃ q, pf.isSome = q := ⟨_, rfl⟩
  rw [hpp, hq]
  have Hpf := Lib.hid (And.intro hpf (And.intro hpp hq))
  obtain ⟨pD, pL, pF⟩ := p
  unfold partVal
  simp only
  have hb4 := Below.one w3 (.cells #[.int .i64 pD, .int .i64 pL, .string (S pF)] 40)
  have hb34 := hb3.trans (hb4.mono hb3.size)
  obtain ⟨W, hW, hs4, g0, g1, g2, g3, hl4, hb4', hp4⟩ : ∃ W, w3.alloc (.cells #[.int .i64 pD, .int .i64 pL, .string (S pF)] 40) = W ∧ B + 3 ≤ w3.heap.size ∧ W.heap[B]? = some (.cells #[.slice A1 n c1, .int .i64 N, .int .i64 Q, .bool O, .int .i64 D, .int .i64 T, .int .i64 X] 25 (0, 0)) ∧ W.heap[B + 1]? = some (.cells #[.int .i64 1, .int .i64 eD, .int .i64 eL, .int .i64 eA] 47 (0, 0)) ∧ W.heap[B + 2]? = some (.cells #[.slice none 0 0, .int .i64 0, .int .i64 0, .bool false, .int .i64 0, .int .i64 0, .int .i64 0] 25 (0, 0)) ∧
      W.heap[w3.heap.size]? = some (.cells #[.int .i64 pD, .int .i64 pL, .string (S pF)] 40 (0, 0)) ∧ Lie (fun k => k < B + 3) 40 3 (.slice A1 n c1) n (P.flatMap partCells) W ∧ Below B w W ∧ Pow W :=
    ⟨_, rfl, by have := hb3.size; omega, (hb34.block B (by omega)).trans G0.out, (hb34.block (B + 1) (by omega)).trans G1.out, (hb34.block (B + 2) (by omega)).trans G2.out, heap_alloc_new _ _, HL2.out.below hb34, HB2.out.trans (hb34.mono (by omega)), HP2.out.below hb34⟩
  have hWs : B + 3 < W.heap.size := by rw [← hW]; simp; omega
  have hq3 : w3.heap.size < W.heap.size := by rw [← hW]; simp
  obtain ⟨q3, hq3'⟩ : ∃ q3, w3.heap.size = q3 := ⟨_, rfl⟩
  rw [hq3'] at g3 hq3 hs4
  obtain ⟨f1, f2⟩ : W.cell? ⟨q3, 1, none⟩ = some (.int .i64 pL) ∧ True := ⟨by rw [Lib.cell_of_heap g3]; rfl, trivial⟩
  have HLW := Lib.hid hl4
  have HBW := Lib.hid hb4'
  have HPW := Lib.hid hp4
  have HG0 := Lib.hid g0
  have HG1 := Lib.hid g1
  have HG2 := Lib.hid g2
  clear hb3 hb4 hb34 HF2 G0 G1 G2 HL2 HB2 HP2 g3 hl4 hb4' hp4 b0 b1 b2 b3 b4 b5 b6 d0 d1 d2 d3 hpf hpp hq hsz1 hs2 f2
  obtain ⟨a0, a1, a2, a3, a4, a5, a6, za⟩ := seven g0
  obtain ⟨e0, e1, e2, e3, ze⟩ := four g1
  obtain ⟨r0, r1, r2, r3, r4, r5, r6, zr⟩ := seven g2
  have za0 := za 0
  have za1 := za 1
  have za2 := za 2
  have za3 := za 3
  have za4 := za 4
  have za5 := za 5
  have za6 := za 6
  have ze1 := ze 1
  have ze2 := ze 2
  have zr0 := zr 0
  have zr1 := zr 1
  have zr2 := zr 2
  have zr3 := zr 3
  have zr4 := zr 4
  have zr5 := zr 5
  have zr6 := zr 6
  clear za ze zr g0 g1 g2
  have hap := app1 (s := ⟨P, N, Q, O, D, T, X⟩) (e := ⟨1, eD, eL, eA⟩) rfl
  simp only at hap
  rw [Hpf.out.1, Hpf.out.2.2, dropS_eq] at hap
  have Hap := Lib.hid hap
  have HD := Lib.hid (delete_at eD (B + 1) (B + 3) A1 c1 n P W e1 (by omega) (by omega) HLW.out Hn.out (by omega))
  clear hap f1
  go_wp2_with fail
  refine HD.out.mono ?_
  rintro e w5 ⟨A5, c5, rfl, hr5, hb5, hf5⟩
  obtain ⟨m, hm⟩ : ∃ m, (P.filter (kp eD)).length = m := ⟨_, rfl⟩
  rw [hm] at hr5 ⊢
  have hpa5 : PAt (B + 3) A5 m (P.filter (kp eD)) w5 := ⟨hr5, hm, hf5⟩
  have g0 := (hb5.block B (by omega)).trans HG0.out
  have g1 := (hb5.block (B + 1) (by omega)).trans HG1.out
  have g2 := (hb5.block (B + 2) (by omega)).trans HG2.out
  clear a0 a1 a2 a3 a4 a5 a6 e0 e1 e2 e3 r0 r1 r2 r3 r4 r5 r6 za0 za1 za2 za3 za4 za5 za6 ze1 ze2 zr0 zr1 zr2 zr3 zr4 zr5 zr6
  obtain ⟨b0, -, -, -, -, -, -, zb⟩ := seven g0
  have zb0 := zb 0
  clear zb
  obtain ⟨W5, hW5, hWs5, g0, g1, g2, hpa5, hb5⟩ : ∃ W5, w5.setCell ⟨B, 0, none⟩ (.slice A5 m c5) = W5 ∧ B + 3 < W5.heap.size ∧ W5.heap[B]? = some (.cells #[.slice A5 m c5, .int .i64 N, .int .i64 Q, .bool O, .int .i64 D, .int .i64 T, .int .i64 X] 25 (0, 0)) ∧ W5.heap[B + 1]? = w5.heap[B + 1]? ∧ W5.heap[B + 2]? = some (.cells #[.slice none 0 0, .int .i64 0, .int .i64 0, .bool false, .int .i64 0, .int .i64 0, .int .i64 0] 25 (0, 0)) ∧ PAt (B + 3) A5 m _ W5 ∧ Below B w W5 :=
    ⟨_, rfl, by have := hb5.size; simp [World.setCell]; omega, by simp [World.setCell, Array.getElem?_modify, g0], Below.heap_setCell _ _ _ _ (by simp), (Below.heap_setCell _ _ _ _ (by simp)).trans g2, hpa5.set (by omega) _, (HBW.out.trans (hb5.mono (by omega))).setCell (p := ⟨B, 0, none⟩) (Nat.le_refl B) _⟩
  have g1 := g1.trans ((by assumption : w5.heap[B + 1]? = some _))
  obtain ⟨a0, a1, a2, a3, a4, a5, a6, za⟩ := seven g0
  obtain ⟨e0, e1, e2, e3, ze⟩ := four g1
  obtain ⟨r0, r1, r2, r3, r4, r5, r6, zr⟩ := seven g2
  have za0 := za 0
  have za1 := za 1
  have za2 := za 2
  have za3 := za 3
  have za4 := za 4
  have za5 := za 5
  have za6 := za 6
  have ze1 := ze 1
  have ze2 := ze 2
  have zr0 := zr 0
  have zr1 := zr 1
  have zr2 := zr 2
  have zr3 := zr 3
  have zr4 := zr 4
  have zr5 := zr 5
  have zr6 := zr 6
  have HG0 := Lib.hid g0
  have HG1 := Lib.hid g1
  have HG2 := Lib.hid g2
  clear za ze zr g0 g1 g2
  have HP5 := Lib.hid hpa5
  have HB5 := Lib.hid hb5
  clear hpa5 hb5
  cases q with
  | false =>
    have HV := Lib.hid (show V = (st0, 170) by rw [← HV0.out]; exact appV_none (by rw [Hap.out]; rfl))
    go_wp2_with fail
    refine bodyPost_ret (v := .tuple #[stVal none 0 0 st0, .int .i64 170]) (by rw [results_cell_tmp rfl]; go_simp; rfl) rfl ⟨none, 0, 0, by rw [HV.out]; rfl, by rw [HV.out]; exact PAt.nil _ _, ?_⟩
    rw [HB.out]
    exact (((((((HB5.out.setCell (p := ⟨B + 2, 0, none⟩) (by simp) _).setCell (p := ⟨B + 2, 1, none⟩) (by simp) _).setCell (p := ⟨B + 2, 2, none⟩) (by simp) _).setCell (p := ⟨B + 2, 3, none⟩) (by simp) _).setCell (p := ⟨B + 2, 4, none⟩) (by simp) _).setCell (p := ⟨B + 2, 5, none⟩) (by simp) _).setCell (p := ⟨B + 2, 6, none⟩) (by simp) _)
  | true =>
    have HVd := Lib.hid (show V = (if O = true ∧ D = eD then ⟨P.filter (kp eD), N, Q, false, 0, 0, 0⟩ else ⟨P.filter (kp eD), N, Q, O, D, T, X⟩, 0) by rw [← HV0.out]; exact appV_some (by rw [Hap.out]; rfl))
    cases O with
    | false =>
      have HV := Lib.hid (show V = (⟨P.filter (kp eD), N, Q, false, D, T, X⟩, 0) by rw [HVd.out, if_neg (by simp)])
      go_wp2_with fail
      refine bodyPost_ret (v := .tuple #[stVal (A5) (m) (c5) ⟨P.filter (kp eD), N, Q, false, D, T, X⟩, .int .i64 0]) (by rw [results_cell_tmp rfl]; go_simp; rfl) rfl ⟨A5, m, c5, by rw [HV.out]; rfl, ?_, ?_⟩
      · rw [HV.out, HB.out]
        exact (((((((HP5.out.set (b := B + 2) (j := 0) (by omega) _).set (b := B + 2) (j := 1) (by omega) _).set (b := B + 2) (j := 2) (by omega) _).set (b := B + 2) (j := 3) (by omega) _).set (b := B + 2) (j := 4) (by omega) _).set (b := B + 2) (j := 5) (by omega) _).set (b := B + 2) (j := 6) (by omega) _).mono (by omega)
      · rw [HB.out]
        exact (((((((HB5.out.setCell (p := ⟨B + 2, 0, none⟩) (by simp) _).setCell (p := ⟨B + 2, 1, none⟩) (by simp) _).setCell (p := ⟨B + 2, 2, none⟩) (by simp) _).setCell (p := ⟨B + 2, 3, none⟩) (by simp) _).setCell (p := ⟨B + 2, 4, none⟩) (by simp) _).setCell (p := ⟨B + 2, 5, none⟩) (by simp) _).setCell (p := ⟨B + 2, 6, none⟩) (by simp) _)
    | true =>
      by_cases hd : D = eD
      · have u1 : (D == eD) = true := beq_iff_eq.2 hd
        have HV := Lib.hid (show V = (⟨P.filter (kp eD), N, Q, false, 0, 0, 0⟩, 0) by rw [HVd.out, if_pos ⟨rfl, hd⟩])
        clear hd
        have HOF := off_any (A5) (m) c5 ⟨P.filter (kp eD), N, Q, true, D, T, X⟩ W5
        unfold stVal offS at HOF
        simp only at HOF
        have HO := Lib.hid HOF
        clear HOF
        go_wp2_with fail
        refine HO.out.mono ?_
        rintro e w9 ⟨rfl, hb9⟩
        have g0 := (hb9.block B (by omega)).trans HG0.out
        have g1 := (hb9.block (B + 1) (by omega)).trans HG1.out
        have g2 := (hb9.block (B + 2) (by omega)).trans HG2.out
        clear a0 a1 a2 a3 a4 a5 a6 e0 e1 e2 e3 r0 r1 r2 r3 r4 r5 r6 za0 za1 za2 za3 za4 za5 za6 ze1 ze2 zr0 zr1 zr2 zr3 zr4 zr5 zr6
        obtain ⟨a0, a1, a2, a3, a4, a5, a6, za⟩ := seven g0
        obtain ⟨e0, e1, e2, e3, ze⟩ := four g1
        obtain ⟨r0, r1, r2, r3, r4, r5, r6, zr⟩ := seven g2
        have za0 := za 0
        have za1 := za 1
        have za2 := za 2
        have za3 := za 3
        have za4 := za 4
        have za5 := za 5
        have za6 := za 6
        have ze1 := ze 1
        have ze2 := ze 2
        have zr0 := zr 0
        have zr1 := zr 1
        have zr2 := zr 2
        have zr3 := zr 3
        have zr4 := zr 4
        have zr5 := zr 5
        have zr6 := zr 6
        have HG0 := Lib.hid g0
        have HG1 := Lib.hid g1
        have HG2 := Lib.hid g2
        clear za ze zr g0 g1 g2
        have HP7 := Lib.hid (HP5.out.below hb9)
        have HB7 := Lib.hid (HB5.out.trans (hb9.mono (by omega)))
        clear hb9
        go_wp2_with fail
        refine bodyPost_ret (v := .tuple #[stVal (A5) (m) (c5) ⟨P.filter (kp eD), N, Q, false, 0, 0, 0⟩, .int .i64 0]) (by rw [results_cell_tmp rfl]; go_simp; rfl) rfl ⟨A5, m, c5, by rw [HV.out]; rfl, ?_, ?_⟩
        · rw [HV.out, HB.out]
          exact ((((((((((((((HP7.out.set (b := B) (j := 0) (by omega) _).set (b := B) (j := 1) (by omega) _).set (b := B) (j := 2) (by omega) _).set (b := B) (j := 3) (by omega) _).set (b := B) (j := 4) (by omega) _).set (b := B) (j := 5) (by omega) _).set (b := B) (j := 6) (by omega) _).set (b := B + 2) (j := 0) (by omega) _).set (b := B + 2) (j := 1) (by omega) _).set (b := B + 2) (j := 2) (by omega) _).set (b := B + 2) (j := 3) (by omega) _).set (b := B + 2) (j := 4) (by omega) _).set (b := B + 2) (j := 5) (by omega) _).set (b := B + 2) (j := 6) (by omega) _).mono (by omega)
        · rw [HB.out]
          exact ((((((((((((((HB7.out.setCell (p := ⟨B, 0, none⟩) (by simp) _).setCell (p := ⟨B, 1, none⟩) (by simp) _).setCell (p := ⟨B, 2, none⟩) (by simp) _).setCell (p := ⟨B, 3, none⟩) (by simp) _).setCell (p := ⟨B, 4, none⟩) (by simp) _).setCell (p := ⟨B, 5, none⟩) (by simp) _).setCell (p := ⟨B, 6, none⟩) (by simp) _).setCell (p := ⟨B + 2, 0, none⟩) (by simp) _).setCell (p := ⟨B + 2, 1, none⟩) (by simp) _).setCell (p := ⟨B + 2, 2, none⟩) (by simp) _).setCell (p := ⟨B + 2, 3, none⟩) (by simp) _).setCell (p := ⟨B + 2, 4, none⟩) (by simp) _).setCell (p := ⟨B + 2, 5, none⟩) (by simp) _).setCell (p := ⟨B + 2, 6, none⟩) (by simp) _)
      · have u1 : (D == eD) = false := beq_eq_false_iff_ne.2 hd
        have HV := Lib.hid (show V = (⟨P.filter (kp eD), N, Q, true, D, T, X⟩, 0) by rw [HVd.out, if_neg (fun h => hd h.2)])
        clear hd
        go_wp2_with fail
        refine bodyPost_ret (v := .tuple #[stVal (A5) (m) (c5) ⟨P.filter (kp eD), N, Q, true, D, T, X⟩, .int .i64 0]) (by rw [results_cell_tmp rfl]; go_simp; rfl) rfl ⟨A5, m, c5, by rw [HV.out]; rfl, ?_, ?_⟩
        · rw [HV.out, HB.out]
          exact (((((((HP5.out.set (b := B + 2) (j := 0) (by omega) _).set (b := B + 2) (j := 1) (by omega) _).set (b := B + 2) (j := 2) (by omega) _).set (b := B + 2) (j := 3) (by omega) _).set (b := B + 2) (j := 4) (by omega) _).set (b := B + 2) (j := 5) (by omega) _).set (b := B + 2) (j := 6) (by omega) _).mono (by omega)
        · rw [HB.out]
          exact (((((((HB5.out.setCell (p := ⟨B + 2, 0, none⟩) (by simp) _).setCell (p := ⟨B + 2, 1, none⟩) (by simp) _).setCell (p := ⟨B + 2, 2, none⟩) (by simp) _).setCell (p := ⟨B + 2, 3, none⟩) (by simp) _).setCell (p := ⟨B + 2, 4, none⟩) (by simp) _).setCell (p := ⟨B + 2, 5, none⟩) (by simp) _).setCell (p := ⟨B + 2, 6, none⟩) (by simp) _)

set_option linter.unusedSimpArgs false in
set_option maxRecDepth 100000 in
set_option maxHeartbeats 8000000 in
theorem mapply_2 (A : Option Addr) (n c : Nat) (s : St) (e : Ed) (w : World) (hr : Rd w 3 A n (s.Parts.flatMap partCells)) (hn : s.Parts.length = n) (hl : n ≤ 100000) (ha : asc s.Parts) (hN0 : 0 ≤ s.Next) (hN1 : s.Next ≤ 1099511627776) (hD0 : 0 ≤ s.Done) (hD1 : s.Done ≤ 5000) (hp : Pow w) (hk : e.Kind = 2) :
    Calls Tryd.prog 17 #[stVal A n c s, edVal e] w (StAt (appV s e) w.heap.size w) := by
  obtain ⟨B, hB⟩ : ∃ B, w.heap.size = B := ⟨_, rfl⟩
  obtain ⟨P, N, Q, O, D, T, X⟩ := s
  obtain ⟨eK, eD, eL, eA⟩ := e
  obtain rfl : eK = 2 := hk
  simp only at hr hn ha hN0 hN1 hD0 hD1
  obtain ⟨V, hV⟩ : ∃ V, appV ⟨P, N, Q, O, D, T, X⟩ ⟨2, eD, eL, eA⟩ = V := ⟨_, rfl⟩
  rw [hV]
  have HV0 := Lib.hid hV
  have HF := Lib.hid (fun w' hr' => mfind_any eD A c n ⟨P, N, Q, O, D, T, X⟩ w' hr' hn (by omega))
  unfold stVal edVal
  simp only
  obtain ⟨w0, hw0, hs0, hb0, k0, k1, k2⟩ : ∃ w0, ((w.alloc (.cells #[.slice A n c, .int .i64 N, .int .i64 Q, .bool O, .int .i64 D, .int .i64 T, .int .i64 X] 25)).alloc (.cells #[.int .i64 2, .int .i64 eD, .int .i64 eL, .int .i64 eA] 47)).alloc (.cells #[.slice none 0 0, .int .i64 0, .int .i64 0, .bool false, .int .i64 0, .int .i64 0, .int .i64 0] 25) = w0 ∧ w0.heap.size = B + 3 ∧ Below B w w0
      ∧ w0.heap[B]? = some (.cells #[.slice A n c, .int .i64 N, .int .i64 Q, .bool O, .int .i64 D, .int .i64 T, .int .i64 X] 25 (0, 0)) ∧ w0.heap[B + 1]? = some (.cells #[.int .i64 2, .int .i64 eD, .int .i64 eL, .int .i64 eA] 47 (0, 0)) ∧ w0.heap[B + 2]? = some (.cells #[.slice none 0 0, .int .i64 0, .int .i64 0, .bool false, .int .i64 0, .int .i64 0, .int .i64 0] 25 (0, 0)) := by
    have n1 := heap_alloc_new w (.cells #[.slice A n c, .int .i64 N, .int .i64 Q, .bool O, .int .i64 D, .int .i64 T, .int .i64 X] 25)
    have n2 := heap_alloc_new (w.alloc (.cells #[.slice A n c, .int .i64 N, .int .i64 Q, .bool O, .int .i64 D, .int .i64 T, .int .i64 X] 25)) (.cells #[.int .i64 2, .int .i64 eD, .int .i64 eL, .int .i64 eA] 47)
    have n3 := heap_alloc_new ((w.alloc (.cells #[.slice A n c, .int .i64 N, .int .i64 Q, .bool O, .int .i64 D, .int .i64 T, .int .i64 X] 25)).alloc (.cells #[.int .i64 2, .int .i64 eD, .int .i64 eL, .int .i64 eA] 47)) (.cells #[.slice none 0 0, .int .i64 0, .int .i64 0, .bool false, .int .i64 0, .int .i64 0, .int .i64 0] 25)
    simp only [World.size_alloc, hB, Nat.add_assoc, Nat.reduceAdd] at n1 n2 n3
    refine ⟨_, rfl, by simp [hB], ?_, ?_, ?_, n3⟩
    · subst hB
      exact (((Below.refl _ _).alloc (Nat.le_refl _) _).alloc (by simp) _).alloc (by simp; omega) _
    · exact (Lib.alloc_old _ _ _ (by simp; omega)).trans ((Lib.alloc_old _ _ _ (by simp; omega)).trans n1)
    · exact (Lib.alloc_old _ _ _ (by simp; omega)).trans n2
  have hgB : 0 < B := hB ▸ hp.2
  have hb0w : Below w.heap.size w w0 := hB ▸ hb0
  have hrd0 := hr.below hb0w
  have HP0 := Lib.hid (hp.below hb0w)
  have HC := Lib.hid (clone_any A c n P w0 hrd0 hn (by omega))
  have Hr0 := Lib.hid hrd0
  have Hn := Lib.hid hn
  have HB := Lib.hid hB
  have HB0 := Lib.hid hb0
  have Ha := Lib.hid ha
  obtain ⟨a0, -, -, -, -, -, -, za⟩ := seven k0
  have za0 := za 0
  have K0 := Lib.hid k0
  have K1 := Lib.hid k1
  have K2 := Lib.hid k2
  clear hr hrd0 hb0 hb0w hn ha hp k0 k1 k2 za hV
  go_enter Tryd.func17, Tryd.ntmps17
  go_wp2_with fail
  try simp only [hw0]
  clear hw0 hB a0 za0
  refine HC.out.mono ?_
  rintro e w1 ⟨A1, c1, rfl, hl1, hb1⟩
  have k0 := (hb1.block B (by omega)).trans K0.out
  have k1 := (hb1.block (B + 1) (by omega)).trans K1.out
  have k2 := (hb1.block (B + 2) (by omega)).trans K2.out
  obtain ⟨a0, a1, a2, a3, a4, a5, a6, za⟩ := seven k0
  obtain ⟨e0, e1, e2, e3, ze⟩ := four k1
  have za0 := za 0
  have hsz1 : B + 3 ≤ w1.heap.size := by have := hb1.size; omega
  rw [hs0] at hl1
  have hbs : Below w0.heap.size w0 (w1.setCell ⟨B, 0, none⟩ (.slice A1 n c1)) → True := fun _ => trivial
  obtain ⟨w2, hw2, hs2, g0, g1, g2, hl2, hb2, hp2, hrd2⟩ : ∃ w2, w1.setCell ⟨B, 0, none⟩ (.slice A1 n c1) = w2 ∧ w2.heap.size = w1.heap.size ∧ w2.heap[B]? = some (.cells #[.slice A1 n c1, .int .i64 N, .int .i64 Q, .bool O, .int .i64 D, .int .i64 T, .int .i64 X] 25 (0, 0)) ∧ w2.heap[B + 1]? = some (.cells #[.int .i64 2, .int .i64 eD, .int .i64 eL, .int .i64 eA] 47 (0, 0)) ∧ w2.heap[B + 2]? = some (.cells #[.slice none 0 0, .int .i64 0, .int .i64 0, .bool false, .int .i64 0, .int .i64 0, .int .i64 0] 25 (0, 0)) ∧
      Lie (fun k => k < B + 3) 40 3 (.slice A1 n c1) n (P.flatMap partCells) w2 ∧ Below B w w2 ∧ Pow w2 ∧ Rd w2 3 A1 n (P.flatMap partCells) := by
    have hl2 := own_set hl1 (show B < B + 3 by omega) 0 (.slice A1 n c1)
    exact ⟨_, rfl, by simp [World.setCell], by simp [World.setCell, Array.getElem?_modify, k0], (Below.heap_setCell _ _ _ _ (by simp)).trans k1, (Below.heap_setCell _ _ _ _ (by simp)).trans k2, hl2, (HB0.out.trans (hb1.mono (by omega))).setCell (p := ⟨B, 0, none⟩) (Nat.le_refl B) _, (HP0.out.below hb1).later (by simp [World.setCell]) (Below.heap_setCell _ _ _ _ (by simp only; omega)), hl2.rd⟩
  obtain ⟨b0, b1, b2, b3, b4, b5, b6, -⟩ := seven g0
  obtain ⟨d0, d1, d2, d3, -⟩ := four g1
  have HF2 := Lib.hid (mfind_any eD A1 c1 n ⟨P, N, Q, O, D, T, X⟩ w2 hrd2 Hn.out (by omega))
  unfold stVal at HF2
  simp only at HF2
  have HL2 := Lib.hid hl2
  have HB2 := Lib.hid hb2
  have HP2 := Lib.hid hp2
  have G0 := Lib.hid g0
  have G1 := Lib.hid g1
  have G2 := Lib.hid g2
  clear hl1 hb1 HC K0 K1 K2 k0 k1 k2 hl2 hb2 hp2 hrd2 g0 g1 g2 hbs HF Hr0 HP0 HB0 za ze
  go_wp2_with fail
  try simp only [hw2]
  clear hw2 a0 a1 a2 a3 a4 a5 a6 e0 e1 e2 e3 za0
  refine HF2.out.mono ?_
  rintro e w3 ⟨rfl, hb3⟩
  obtain ⟨pf, hpf⟩ : ∃ pf, findP P eD = pf := ⟨_, rfl⟩
  rw [hpf]
  obtain ⟨p, hpp⟩ : ∃ p, pf.getD p0 = p := ⟨_, rfl⟩
  obtain ⟨q, hq⟩ : ∃ q, pf.isSome = q := ⟨_, rfl⟩
  rw [hpp, hq]
  have Hpf := Lib.hid (And.intro hpf (And.intro hpp hq))
  obtain ⟨pD, pL, pF⟩ := p
  unfold partVal
  simp only
  have hb4 := Below.one w3 (.cells #[.int .i64 pD, .int .i64 pL, .string (S pF)] 40)
  have hb34 := hb3.trans (hb4.mono hb3.size)
  obtain ⟨W, hW, hs4, g0, g1, g2, g3, hl4, hb4', hp4⟩ : ∃ W, w3.alloc (.cells #[.int .i64 pD, .int .i64 pL, .string (S pF)] 40) = W ∧ B + 3 ≤ w3.heap.size ∧ W.heap[B]? = some (.cells #[.slice A1 n c1, .int .i64 N, .int .i64 Q, .bool O, .int .i64 D, .int .i64 T, .int .i64 X] 25 (0, 0)) ∧ W.heap[B + 1]? = some (.cells #[.int .i64 2, .int .i64 eD, .int .i64 eL, .int .i64 eA] 47 (0, 0)) ∧ W.heap[B + 2]? = some (.cells #[.slice none 0 0, .int .i64 0, .int .i64 0, .bool false, .int .i64 0, .int .i64 0, .int .i64 0] 25 (0, 0)) ∧
      W.heap[w3.heap.size]? = some (.cells #[.int .i64 pD, .int .i64 pL, .string (S pF)] 40 (0, 0)) ∧ Lie (fun k => k < B + 3) 40 3 (.slice A1 n c1) n (P.flatMap partCells) W ∧ Below B w W ∧ Pow W :=
    ⟨_, rfl, by have := hb3.size; omega, (hb34.block B (by omega)).trans G0.out, (hb34.block (B + 1) (by omega)).trans G1.out, (hb34.block (B + 2) (by omega)).trans G2.out, heap_alloc_new _ _, HL2.out.below hb34, HB2.out.trans (hb34.mono (by omega)), HP2.out.below hb34⟩
  have hWs : B + 3 < W.heap.size := by rw [← hW]; simp; omega
  have hq3 : w3.heap.size < W.heap.size := by rw [← hW]; simp
  obtain ⟨q3, hq3'⟩ : ∃ q3, w3.heap.size = q3 := ⟨_, rfl⟩
  rw [hq3'] at g3 hq3 hs4
  obtain ⟨f1, f2⟩ : W.cell? ⟨q3, 1, none⟩ = some (.int .i64 pL) ∧ True := ⟨by rw [Lib.cell_of_heap g3]; rfl, trivial⟩
  have HLW := Lib.hid hl4
  have HBW := Lib.hid hb4'
  have HPW := Lib.hid hp4
  have HG0 := Lib.hid g0
  have HG1 := Lib.hid g1
  have HG2 := Lib.hid g2
  clear hb3 hb4 hb34 HF2 G0 G1 G2 HL2 HB2 HP2 g3 hl4 hb4' hp4 b0 b1 b2 b3 b4 b5 b6 d0 d1 d2 d3 hpf hpp hq hsz1 hs2 f2
  obtain ⟨a0, a1, a2, a3, a4, a5, a6, za⟩ := seven g0
  obtain ⟨e0, e1, e2, e3, ze⟩ := four g1
  obtain ⟨r0, r1, r2, r3, r4, r5, r6, zr⟩ := seven g2
  have za0 := za 0
  have za1 := za 1
  have za2 := za 2
  have za3 := za 3
  have za4 := za 4
  have za5 := za 5
  have za6 := za 6
  have ze1 := ze 1
  have ze2 := ze 2
  have zr0 := zr 0
  have zr1 := zr 1
  have zr2 := zr 2
  have zr3 := zr 3
  have zr4 := zr 4
  have zr5 := zr 5
  have zr6 := zr 6
  clear za ze zr g0 g1 g2
  have hap := app2 (s := ⟨P, N, Q, O, D, T, X⟩) (e := ⟨2, eD, eL, eA⟩) rfl
  simp only at hap
  have HPA := Lib.hid (PAt.of HLW.out Hn.out)
  by_cases c1 : Q < eA ∧ eA ≤ 1099511627776
  · rw [if_pos c1] at hap
    have HV := Lib.hid (show V = (⟨P, N, eA, O, D, T, X⟩, 0) by rw [← HV0.out]; exact appV_some hap)
    have t1 : decide (Q < eA) = true := decide_eq_true c1.1
    have t2 : decide (eA ≤ 1099511627776) = true := decide_eq_true c1.2
    clear c1 hap
    cases O with
    | false =>
      go_wp2_with fail
      refine bodyPost_ret (v := .tuple #[stVal (A1) (n) (c1) ⟨P, N, eA, false, D, T, X⟩, .int .i64 0]) (by rw [results_cell_tmp rfl]; go_simp; rfl) rfl ⟨A1, n, c1, by rw [HV.out]; rfl, ?_, ?_⟩
      · rw [HV.out, HB.out]
        exact ((((((((HPA.out.set (b := B) (j := 2) (by omega) _).set (b := B + 2) (j := 0) (by omega) _).set (b := B + 2) (j := 1) (by omega) _).set (b := B + 2) (j := 2) (by omega) _).set (b := B + 2) (j := 3) (by omega) _).set (b := B + 2) (j := 4) (by omega) _).set (b := B + 2) (j := 5) (by omega) _).set (b := B + 2) (j := 6) (by omega) _).mono (by omega)
      · rw [HB.out]
        exact ((((((((HBW.out.setCell (p := ⟨B, 2, none⟩) (by simp) _).setCell (p := ⟨B + 2, 0, none⟩) (by simp) _).setCell (p := ⟨B + 2, 1, none⟩) (by simp) _).setCell (p := ⟨B + 2, 2, none⟩) (by simp) _).setCell (p := ⟨B + 2, 3, none⟩) (by simp) _).setCell (p := ⟨B + 2, 4, none⟩) (by simp) _).setCell (p := ⟨B + 2, 5, none⟩) (by simp) _).setCell (p := ⟨B + 2, 6, none⟩) (by simp) _)
    | true =>
      by_cases hd : D = eD
      · have u1 : (D == eD) = true := beq_iff_eq.2 hd
        clear hd
        go_wp2_with fail
        refine bodyPost_ret (v := .tuple #[stVal (A1) (n) (c1) ⟨P, N, eA, true, D, T, X⟩, .int .i64 0]) (by rw [results_cell_tmp rfl]; go_simp; rfl) rfl ⟨A1, n, c1, by rw [HV.out]; rfl, ?_, ?_⟩
        · rw [HV.out, HB.out]
          exact ((((((((HPA.out.set (b := B) (j := 2) (by omega) _).set (b := B + 2) (j := 0) (by omega) _).set (b := B + 2) (j := 1) (by omega) _).set (b := B + 2) (j := 2) (by omega) _).set (b := B + 2) (j := 3) (by omega) _).set (b := B + 2) (j := 4) (by omega) _).set (b := B + 2) (j := 5) (by omega) _).set (b := B + 2) (j := 6) (by omega) _).mono (by omega)
        · rw [HB.out]
          exact ((((((((HBW.out.setCell (p := ⟨B, 2, none⟩) (by simp) _).setCell (p := ⟨B + 2, 0, none⟩) (by simp) _).setCell (p := ⟨B + 2, 1, none⟩) (by simp) _).setCell (p := ⟨B + 2, 2, none⟩) (by simp) _).setCell (p := ⟨B + 2, 3, none⟩) (by simp) _).setCell (p := ⟨B + 2, 4, none⟩) (by simp) _).setCell (p := ⟨B + 2, 5, none⟩) (by simp) _).setCell (p := ⟨B + 2, 6, none⟩) (by simp) _)
      · have u1 : (D == eD) = false := beq_eq_false_iff_ne.2 hd
        clear hd
        go_wp2_with fail
        refine bodyPost_ret (v := .tuple #[stVal (A1) (n) (c1) ⟨P, N, eA, true, D, T, X⟩, .int .i64 0]) (by rw [results_cell_tmp rfl]; go_simp; rfl) rfl ⟨A1, n, c1, by rw [HV.out]; rfl, ?_, ?_⟩
        · rw [HV.out, HB.out]
          exact ((((((((HPA.out.set (b := B) (j := 2) (by omega) _).set (b := B + 2) (j := 0) (by omega) _).set (b := B + 2) (j := 1) (by omega) _).set (b := B + 2) (j := 2) (by omega) _).set (b := B + 2) (j := 3) (by omega) _).set (b := B + 2) (j := 4) (by omega) _).set (b := B + 2) (j := 5) (by omega) _).set (b := B + 2) (j := 6) (by omega) _).mono (by omega)
        · rw [HB.out]
          exact ((((((((HBW.out.setCell (p := ⟨B, 2, none⟩) (by simp) _).setCell (p := ⟨B + 2, 0, none⟩) (by simp) _).setCell (p := ⟨B + 2, 1, none⟩) (by simp) _).setCell (p := ⟨B + 2, 2, none⟩) (by simp) _).setCell (p := ⟨B + 2, 3, none⟩) (by simp) _).setCell (p := ⟨B + 2, 4, none⟩) (by simp) _).setCell (p := ⟨B + 2, 5, none⟩) (by simp) _).setCell (p := ⟨B + 2, 6, none⟩) (by simp) _)
  · rw [if_neg c1] at hap
    have HV := Lib.hid (show V = (st0, 170) by rw [← HV0.out]; exact appV_none hap)
    clear hap
    by_cases c2 : Q < eA
    · have t1 : decide (Q < eA) = true := decide_eq_true c2
      have t2 : decide (eA ≤ 1099511627776) = false := decide_eq_false fun h => c1 ⟨c2, h⟩
      clear c1 c2
      go_wp2_with fail
      refine bodyPost_ret (v := .tuple #[stVal none 0 0 st0, .int .i64 170]) (by rw [results_cell_tmp rfl]; go_simp; rfl) rfl ⟨none, 0, 0, by rw [HV.out]; rfl, by rw [HV.out]; exact PAt.nil _ _, ?_⟩
      rw [HB.out]
      exact ((((((((HBW.out.setCell (p := ⟨B, 2, none⟩) (by simp) _).setCell (p := ⟨B + 2, 0, none⟩) (by simp) _).setCell (p := ⟨B + 2, 1, none⟩) (by simp) _).setCell (p := ⟨B + 2, 2, none⟩) (by simp) _).setCell (p := ⟨B + 2, 3, none⟩) (by simp) _).setCell (p := ⟨B + 2, 4, none⟩) (by simp) _).setCell (p := ⟨B + 2, 5, none⟩) (by simp) _).setCell (p := ⟨B + 2, 6, none⟩) (by simp) _)
    · have t1 : decide (Q < eA) = false := decide_eq_false c2
      clear c1 c2
      go_wp2_with fail
      refine bodyPost_ret (v := .tuple #[stVal none 0 0 st0, .int .i64 170]) (by rw [results_cell_tmp rfl]; go_simp; rfl) rfl ⟨none, 0, 0, by rw [HV.out]; rfl, by rw [HV.out]; exact PAt.nil _ _, ?_⟩
      rw [HB.out]
      exact ((((((((HBW.out.setCell (p := ⟨B, 2, none⟩) (by simp) _).setCell (p := ⟨B + 2, 0, none⟩) (by simp) _).setCell (p := ⟨B + 2, 1, none⟩) (by simp) _).setCell (p := ⟨B + 2, 2, none⟩) (by simp) _).setCell (p := ⟨B + 2, 3, none⟩) (by simp) _).setCell (p := ⟨B + 2, 4, none⟩) (by simp) _).setCell (p := ⟨B + 2, 5, none⟩) (by simp) _).setCell (p := ⟨B + 2, 6, none⟩) (by simp) _)

set_option linter.unusedSimpArgs false in
set_option maxRecDepth 100000 in
set_option maxHeartbeats 8000000 in
theorem mapply_7 (A : Option Addr) (n c : Nat) (s : St) (e : Ed) (w : World) (hr : Rd w 3 A n (s.Parts.flatMap partCells)) (hn : s.Parts.length = n) (hl : n ≤ 100000) (ha : asc s.Parts) (hN0 : 0 ≤ s.Next) (hN1 : s.Next ≤ 1099511627776) (hD0 : 0 ≤ s.Done) (hD1 : s.Done ≤ 5000) (hp : Pow w) (hk : e.Kind ≠ 0 ∧ e.Kind ≠ 1 ∧ e.Kind ≠ 2 ∧ e.Kind ≠ 3 ∧ e.Kind ≠ 4 ∧ e.Kind ≠ 5 ∧ e.Kind ≠ 6) :
    Calls Tryd.prog 17 #[stVal A n c s, edVal e] w (StAt (appV s e) w.heap.size w) := by
  obtain ⟨B, hB⟩ : ∃ B, w.heap.size = B := ⟨_, rfl⟩
  obtain ⟨P, N, Q, O, D, T, X⟩ := s
  obtain ⟨eK, eD, eL, eA⟩ := e
  obtain ⟨h0, h1, h2, h3, h4, h5, h6⟩ := hk
  simp only at hr hn ha hN0 hN1 hD0 hD1
  obtain ⟨V, hV⟩ : ∃ V, appV ⟨P, N, Q, O, D, T, X⟩ ⟨eK, eD, eL, eA⟩ = V := ⟨_, rfl⟩
  rw [hV]
  have HV0 := Lib.hid hV
  have HF := Lib.hid (fun w' hr' => mfind_any eD A c n ⟨P, N, Q, O, D, T, X⟩ w' hr' hn (by omega))
  unfold stVal edVal
  simp only
  obtain ⟨w0, hw0, hs0, hb0, k0, k1, k2⟩ : ∃ w0, ((w.alloc (.cells #[.slice A n c, .int .i64 N, .int .i64 Q, .bool O, .int .i64 D, .int .i64 T, .int .i64 X] 25)).alloc (.cells #[.int .i64 eK, .int .i64 eD, .int .i64 eL, .int .i64 eA] 47)).alloc (.cells #[.slice none 0 0, .int .i64 0, .int .i64 0, .bool false, .int .i64 0, .int .i64 0, .int .i64 0] 25) = w0 ∧ w0.heap.size = B + 3 ∧ Below B w w0
      ∧ w0.heap[B]? = some (.cells #[.slice A n c, .int .i64 N, .int .i64 Q, .bool O, .int .i64 D, .int .i64 T, .int .i64 X] 25 (0, 0)) ∧ w0.heap[B + 1]? = some (.cells #[.int .i64 eK, .int .i64 eD, .int .i64 eL, .int .i64 eA] 47 (0, 0)) ∧ w0.heap[B + 2]? = some (.cells #[.slice none 0 0, .int .i64 0, .int .i64 0, .bool false, .int .i64 0, .int .i64 0, .int .i64 0] 25 (0, 0)) := by
    have n1 := heap_alloc_new w (.cells #[.slice A n c, .int .i64 N, .int .i64 Q, .bool O, .int .i64 D, .int .i64 T, .int .i64 X] 25)
    have n2 := heap_alloc_new (w.alloc (.cells #[.slice A n c, .int .i64 N, .int .i64 Q, .bool O, .int .i64 D, .int .i64 T, .int .i64 X] 25)) (.cells #[.int .i64 eK, .int .i64 eD, .int .i64 eL, .int .i64 eA] 47)
    have n3 := heap_alloc_new ((w.alloc (.cells #[.slice A n c, .int .i64 N, .int .i64 Q, .bool O, .int .i64 D, .int .i64 T, .int .i64 X] 25)).alloc (.cells #[.int .i64 eK, .int .i64 eD, .int .i64 eL, .int .i64 eA] 47)) (.cells #[.slice none 0 0, .int .i64 0, .int .i64 0, .bool false, .int .i64 0, .int .i64 0, .int .i64 0] 25)
    simp only [World.size_alloc, hB, Nat.add_assoc, Nat.reduceAdd] at n1 n2 n3
    refine ⟨_, rfl, by simp [hB], ?_, ?_, ?_, n3⟩
    · subst hB
      exact (((Below.refl _ _).alloc (Nat.le_refl _) _).alloc (by simp) _).alloc (by simp; omega) _
    · exact (Lib.alloc_old _ _ _ (by simp; omega)).trans ((Lib.alloc_old _ _ _ (by simp; omega)).trans n1)
    · exact (Lib.alloc_old _ _ _ (by simp; omega)).trans n2
  have hgB : 0 < B := hB ▸ hp.2
  have hb0w : Below w.heap.size w w0 := hB ▸ hb0
  have hrd0 := hr.below hb0w
  have HP0 := Lib.hid (hp.below hb0w)
  have HC := Lib.hid (clone_any A c n P w0 hrd0 hn (by omega))
  have Hr0 := Lib.hid hrd0
  have Hn := Lib.hid hn
  have HB := Lib.hid hB
  have HB0 := Lib.hid hb0
  have Ha := Lib.hid ha
  obtain ⟨a0, -, -, -, -, -, -, za⟩ := seven k0
  have za0 := za 0
  have K0 := Lib.hid k0
  have K1 := Lib.hid k1
  have K2 := Lib.hid k2
  clear hr hrd0 hb0 hb0w hn ha hp k0 k1 k2 za hV
  go_enter Tryd.func17, Tryd.ntmps17
  go_wp2_with fail
  try simp only [hw0]
  clear hw0 hB a0 za0
  refine HC.out.mono ?_
  rintro e w1 ⟨A1, c1, rfl, hl1, hb1⟩
  have k0 := (hb1.block B (by omega)).trans K0.out
  have k1 := (hb1.block (B + 1) (by omega)).trans K1.out
  have k2 := (hb1.block (B + 2) (by omega)).trans K2.out
  obtain ⟨a0, a1, a2, a3, a4, a5, a6, za⟩ := seven k0
  obtain ⟨e0, e1, e2, e3, ze⟩ := four k1
  have za0 := za 0
  have hsz1 : B + 3 ≤ w1.heap.size := by have := hb1.size; omega
  rw [hs0] at hl1
  have hbs : Below w0.heap.size w0 (w1.setCell ⟨B, 0, none⟩ (.slice A1 n c1)) → True := fun _ => trivial
  obtain ⟨w2, hw2, hs2, g0, g1, g2, hl2, hb2, hp2, hrd2⟩ : ∃ w2, w1.setCell ⟨B, 0, none⟩ (.slice A1 n c1) = w2 ∧ w2.heap.size = w1.heap.size ∧ w2.heap[B]? = some (.cells #[.slice A1 n c1, .int .i64 N, .int .i64 Q, .bool O, .int .i64 D, .int .i64 T, .int .i64 X] 25 (0, 0)) ∧ w2.heap[B + 1]? = some (.cells #[.int .i64 eK, .int .i64 eD, .int .i64 eL, .int .i64 eA] 47 (0, 0)) ∧ w2.heap[B + 2]? = some (.cells #[.slice none 0 0, .int .i64 0, .int .i64 0, .bool false, .int .i64 0, .int .i64 0, .int .i64 0] 25 (0, 0)) ∧
      Lie (fun k => k < B + 3) 40 3 (.slice A1 n c1) n (P.flatMap partCells) w2 ∧ Below B w w2 ∧ Pow w2 ∧ Rd w2 3 A1 n (P.flatMap partCells) := by
    have hl2 := own_set hl1 (show B < B + 3 by omega) 0 (.slice A1 n c1)
    exact ⟨_, rfl, by simp [World.setCell], by simp [World.setCell, Array.getElem?_modify, k0], (Below.heap_setCell _ _ _ _ (by simp)).trans k1, (Below.heap_setCell _ _ _ _ (by simp)).trans k2, hl2, (HB0.out.trans (hb1.mono (by omega))).setCell (p := ⟨B, 0, none⟩) (Nat.le_refl B) _, (HP0.out.below hb1).later (by simp [World.setCell]) (Below.heap_setCell _ _ _ _ (by simp only; omega)), hl2.rd⟩
  obtain ⟨b0, b1, b2, b3, b4, b5, b6, -⟩ := seven g0
  obtain ⟨d0, d1, d2, d3, -⟩ := four g1
  have HF2 := Lib.hid (mfind_any eD A1 c1 n ⟨P, N, Q, O, D, T, X⟩ w2 hrd2 Hn.out (by omega))
  unfold stVal at HF2
  simp only at HF2
  have HL2 := Lib.hid hl2
  have HB2 := Lib.hid hb2
  have HP2 := Lib.hid hp2
  have G0 := Lib.hid g0
  have G1 := Lib.hid g1
  have G2 := Lib.hid g2
  clear hl1 hb1 HC K0 K1 K2 k0 k1 k2 hl2 hb2 hp2 hrd2 g0 g1 g2 hbs HF Hr0 HP0 HB0 za ze
  go_wp2_with fail
  try simp only [hw2]
  clear hw2 a0 a1 a2 a3 a4 a5 a6 e0 e1 e2 e3 za0
  refine HF2.out.mono ?_
  rintro e w3 ⟨rfl, hb3⟩
  obtain ⟨pf, hpf⟩ : ∃ pf, findP P eD = pf := ⟨_, rfl⟩
  rw [hpf]
  obtain ⟨p, hpp⟩ : ∃ p, pf.getD p0 = p := ⟨_, rfl⟩
  obtain ⟨q, hq⟩ : ∃ q, pf.isSome = q := ⟨_, rfl⟩
  rw [hpp, hq]
  have Hpf := Lib.hid (And.intro hpf (And.intro hpp hq))
  obtain ⟨pD, pL, pF⟩ := p
  unfold partVal
  simp only
  have hb4 := Below.one w3 (.cells #[.int .i64 pD, .int .i64 pL, .string (S pF)] 40)
  have hb34 := hb3.trans (hb4.mono hb3.size)
  obtain ⟨W, hW, hs4, g0, g1, g2, g3, hl4, hb4', hp4⟩ : ∃ W, w3.alloc (.cells #[.int .i64 pD, .int .i64 pL, .string (S pF)] 40) = W ∧ B + 3 ≤ w3.heap.size ∧ W.heap[B]? = some (.cells #[.slice A1 n c1, .int .i64 N, .int .i64 Q, .bool O, .int .i64 D, .int .i64 T, .int .i64 X] 25 (0, 0)) ∧ W.heap[B + 1]? = some (.cells #[.int .i64 eK, .int .i64 eD, .int .i64 eL, .int .i64 eA] 47 (0, 0)) ∧ W.heap[B + 2]? = some (.cells #[.slice none 0 0, .int .i64 0, .int .i64 0, .bool false, .int .i64 0, .int .i64 0, .int .i64 0] 25 (0, 0)) ∧
      W.heap[w3.heap.size]? = some (.cells #[.int .i64 pD, .int .i64 pL, .string (S pF)] 40 (0, 0)) ∧ Lie (fun k => k < B + 3) 40 3 (.slice A1 n c1) n (P.flatMap partCells) W ∧ Below B w W ∧ Pow W :=
    ⟨_, rfl, by have := hb3.size; omega, (hb34.block B (by omega)).trans G0.out, (hb34.block (B + 1) (by omega)).trans G1.out, (hb34.block (B + 2) (by omega)).trans G2.out, heap_alloc_new _ _, HL2.out.below hb34, HB2.out.trans (hb34.mono (by omega)), HP2.out.below hb34⟩
  have hWs : B + 3 < W.heap.size := by rw [← hW]; simp; omega
  have hq3 : w3.heap.size < W.heap.size := by rw [← hW]; simp
  obtain ⟨q3, hq3'⟩ : ∃ q3, w3.heap.size = q3 := ⟨_, rfl⟩
  rw [hq3'] at g3 hq3 hs4
  obtain ⟨f1, f2⟩ : W.cell? ⟨q3, 1, none⟩ = some (.int .i64 pL) ∧ True := ⟨by rw [Lib.cell_of_heap g3]; rfl, trivial⟩
  have HLW := Lib.hid hl4
  have HBW := Lib.hid hb4'
  have HPW := Lib.hid hp4
  have HG0 := Lib.hid g0
  have HG1 := Lib.hid g1
  have HG2 := Lib.hid g2
  clear hb3 hb4 hb34 HF2 G0 G1 G2 HL2 HB2 HP2 g3 hl4 hb4' hp4 b0 b1 b2 b3 b4 b5 b6 d0 d1 d2 d3 hpf hpp hq hsz1 hs2 f2
  obtain ⟨a0, a1, a2, a3, a4, a5, a6, za⟩ := seven g0
  obtain ⟨e0, e1, e2, e3, ze⟩ := four g1
  obtain ⟨r0, r1, r2, r3, r4, r5, r6, zr⟩ := seven g2
  have za0 := za 0
  have za1 := za 1
  have za2 := za 2
  have za3 := za 3
  have za4 := za 4
  have za5 := za 5
  have za6 := za 6
  have ze1 := ze 1
  have ze2 := ze 2
  have zr0 := zr 0
  have zr1 := zr 1
  have zr2 := zr 2
  have zr3 := zr 3
  have zr4 := zr 4
  have zr5 := zr 5
  have zr6 := zr 6
  clear za ze zr g0 g1 g2
  have HV := Lib.hid (show V = (st0, 170) by rw [← HV0.out]; exact appV_none (app7 h0 h1 h2 h3 h4 h5 h6))
  have t0 : (eK == 0) = false := beq_eq_false_iff_ne.2 h0
  have t1 : (eK == 1) = false := beq_eq_false_iff_ne.2 h1
  have t2 : (eK == 2) = false := beq_eq_false_iff_ne.2 h2
  have t3 : (eK == 3) = false := beq_eq_false_iff_ne.2 h3
  have t4 : (eK == 4) = false := beq_eq_false_iff_ne.2 h4
  have t5 : (eK == 5) = false := beq_eq_false_iff_ne.2 h5
  have t6 : (eK == 6) = false := beq_eq_false_iff_ne.2 h6
  clear h0 h1 h2 h3 h4 h5 h6
  go_wp2_with fail
  refine bodyPost_ret (v := .tuple #[stVal none 0 0 st0, .int .i64 170]) (by rw [results_cell_tmp rfl]; go_simp; rfl) rfl ⟨none, 0, 0, by rw [HV.out]; rfl, by rw [HV.out]; exact PAt.nil _ _, ?_⟩
  rw [HB.out]
  exact (((((((HBW.out.setCell (p := ⟨B + 2, 0, none⟩) (by simp) _).setCell (p := ⟨B + 2, 1, none⟩) (by simp) _).setCell (p := ⟨B + 2, 2, none⟩) (by simp) _).setCell (p := ⟨B + 2, 3, none⟩) (by simp) _).setCell (p := ⟨B + 2, 4, none⟩) (by simp) _).setCell (p := ⟨B + 2, 5, none⟩) (by simp) _).setCell (p := ⟨B + 2, 6, none⟩) (by simp) _)
end Go.Proofs.YtbheoahpaidpmaaDoor

/-! ManAppD -/
namespace Go.Proofs.YtbheoahpaidpmaaDoor
open Go Go.RowKit

set_option linter.unusedSimpArgs false in
set_option maxRecDepth 100000 in
set_option maxHeartbeats 8000000 in
theorem mapply_4 (A : Option Addr) (n c : Nat) (s : St) (e : Ed) (w : World) (hr : Rd w 3 A n (s.Parts.flatMap partCells)) (hn : s.Parts.length = n) (hl : n ≤ 100000) (ha : asc s.Parts) (hN0 : 0 ≤ s.Next) (hN1 : s.Next ≤ 1099511627776) (hD0 : 0 ≤ s.Done) (hD1 : s.Done ≤ 5000) (hp : Pow w) (hk : e.Kind = 4) :
    Calls Tryd.prog 17 #[stVal A n c s, edVal e] w (StAt (appV s e) w.heap.size w) := by
  obtain ⟨B, hB⟩ : ∃ B, w.heap.size = B := ⟨_, rfl⟩
  obtain ⟨P, N, Q, O, D, T, X⟩ := s
  obtain ⟨eK, eD, eL, eA⟩ := e
  obtain rfl : eK = 4 := hk
  simp only at hr hn ha hN0 hN1 hD0 hD1
  obtain ⟨V, hV⟩ : ∃ V, appV ⟨P, N, Q, O, D, T, X⟩ ⟨4, eD, eL, eA⟩ = V := ⟨_, rfl⟩
  rw [hV]
  have HV0 := Lib.hid hV
  have HF := Lib.hid (fun w' hr' => mfind_any eD A c n ⟨P, N, Q, O, D, T, X⟩ w' hr' hn (by omega))
  unfold stVal edVal
  simp only
  obtain ⟨w0, hw0, hs0, hb0, k0, k1, k2⟩ : ∃ w0, ((w.alloc (.cells #[.slice A n c, .int .i64 N, .int .i64 Q, .bool O, .int .i64 D, .int .i64 T, .int .i64 X] 25)).alloc (.cells #[.int .i64 4, .int .i64 eD, .int .i64 eL, .int .i64 eA] 47)).alloc (.cells #[.slice none 0 0, .int .i64 0, .int .i64 0, .bool false, .int .i64 0, .int .i64 0, .int .i64 0] 25) = w0 ∧ w0.heap.size = B + 3 ∧ Below B w w0
      ∧ w0.heap[B]? = some (.cells #[.slice A n c, .int .i64 N, .int .i64 Q, .bool O, .int .i64 D, .int .i64 T, .int .i64 X] 25 (0, 0)) ∧ w0.heap[B + 1]? = some (.cells #[.int .i64 4, .int .i64 eD, .int .i64 eL, .int .i64 eA] 47 (0, 0)) ∧ w0.heap[B + 2]? = some (.cells #[.slice none 0 0, .int .i64 0, .int .i64 0, .bool false, .int .i64 0, .int .i64 0, .int .i64 0] 25 (0, 0)) := by
    have n1 := heap_alloc_new w (.cells #[.slice A n c, .int .i64 N, .int .i64 Q, .bool O, .int .i64 D, .int .i64 T, .int .i64 X] 25)
    have n2 := heap_alloc_new (w.alloc (.cells #[.slice A n c, .int .i64 N, .int .i64 Q, .bool O, .int .i64 D, .int .i64 T, .int .i64 X] 25)) (.cells #[.int .i64 4, .int .i64 eD, .int .i64 eL, .int .i64 eA] 47)
    have n3 := heap_alloc_new ((w.alloc (.cells #[.slice A n c, .int .i64 N, .int .i64 Q, .bool O, .int .i64 D, .int .i64 T, .int .i64 X] 25)).alloc (.cells #[.int .i64 4, .int .i64 eD, .int .i64 eL, .int .i64 eA] 47)) (.cells #[.slice none 0 0, .int .i64 0, .int .i64 0, .bool false, .int .i64 0, .int .i64 0, .int .i64 0] 25)
    simp only [World.size_alloc, hB, Nat.add_assoc, Nat.reduceAdd] at n1 n2 n3
    refine ⟨_, rfl, by simp [hB], ?_, ?_, ?_, n3⟩
    · subst hB
      exact (((Below.refl _ _).alloc (Nat.le_refl _) _).alloc (by simp) _).alloc (by simp; omega) _
    · exact (Lib.alloc_old _ _ _ (by simp; omega)).trans ((Lib.alloc_old _ _ _ (by simp; omega)).trans n1)
    · exact (Lib.alloc_old _ _ _ (by simp; omega)).trans n2
  have hgB : 0 < B := hB ▸ hp.2
  have hb0w : Below w.heap.size w w0 := hB ▸ hb0
  have hrd0 := hr.below hb0w
  have HP0 := Lib.hid (hp.below hb0w)
  have HC := Lib.hid (clone_any A c n P w0 hrd0 hn (by omega))
  have Hr0 := Lib.hid hrd0
  have Hn := Lib.hid hn
  have HB := Lib.hid hB
  have HB0 := Lib.hid hb0
  have Ha := Lib.hid ha
  obtain ⟨a0, -, -, -, -, -, -, za⟩ := seven k0
  have za0 := za 0
  have K0 := Lib.hid k0
  have K1 := Lib.hid k1
  have K2 := Lib.hid k2
  clear hr hrd0 hb0 hb0w hn ha hp k0 k1 k2 za hV
  go_enter Tryd.func17, Tryd.ntmps17
  go_wp2_with fail
  try simp only [hw0]
  clear hw0 hB a0 za0
  refine HC.out.mono ?_
  rintro e w1 ⟨A1, c1, rfl, hl1, hb1⟩
  have k0 := (hb1.block B (by omega)).trans K0.out
  have k1 := (hb1.block (B + 1) (by omega)).trans K1.out
  have k2 := (hb1.block (B + 2) (by omega)).trans K2.out
  obtain ⟨a0, a1, a2, a3, a4, a5, a6, za⟩ := seven k0
  obtain ⟨e0, e1, e2, e3, ze⟩ := four k1
  have za0 := za 0
  have hsz1 : B + 3 ≤ w1.heap.size := by have := hb1.size; omega
  rw [hs0] at hl1
  have hbs : Below w0.heap.size w0 (w1.setCell ⟨B, 0, none⟩ (.slice A1 n c1)) → True := fun _ => trivial
  obtain ⟨w2, hw2, hs2, g0, g1, g2, hl2, hb2, hp2, hrd2⟩ : ∃ w2, w1.setCell ⟨B, 0, none⟩ (.slice A1 n c1) = w2 ∧ w2.heap.size = w1.heap.size ∧ w2.heap[B]? = some (.cells #[.slice A1 n c1, .int .i64 N, .int .i64 Q, .bool O, .int .i64 D, .int .i64 T, .int .i64 X] 25 (0, 0)) ∧ w2.heap[B + 1]? = some (.cells #[.int .i64 4, .int .i64 eD, .int .i64 eL, .int .i64 eA] 47 (0, 0)) ∧ w2.heap[B + 2]? = some (.cells #[.slice none 0 0, .int .i64 0, .int .i64 0, .bool false, .int .i64 0, .int .i64 0, .int .i64 0] 25 (0, 0)) ∧
      Lie (fun k => k < B + 3) 40 3 (.slice A1 n c1) n (P.flatMap partCells) w2 ∧ Below B w w2 ∧ Pow w2 ∧ Rd w2 3 A1 n (P.flatMap partCells) := by
    have hl2 := own_set hl1 (show B < B + 3 by omega) 0 (.slice A1 n c1)
    exact ⟨_, rfl, by simp [World.setCell], by simp [World.setCell, Array.getElem?_modify, k0], (Below.heap_setCell _ _ _ _ (by simp)).trans k1, (Below.heap_setCell _ _ _ _ (by simp)).trans k2, hl2, (HB0.out.trans (hb1.mono (by omega))).setCell (p := ⟨B, 0, none⟩) (Nat.le_refl B) _, (HP0.out.below hb1).later (by simp [World.setCell]) (Below.heap_setCell _ _ _ _ (by simp only; omega)), hl2.rd⟩
  obtain ⟨b0, b1, b2, b3, b4, b5, b6, -⟩ := seven g0
  obtain ⟨d0, d1, d2, d3, -⟩ := four g1
  have HF2 := Lib.hid (mfind_any eD A1 c1 n ⟨P, N, Q, O, D, T, X⟩ w2 hrd2 Hn.out (by omega))
  unfold stVal at HF2
  simp only at HF2
  have HL2 := Lib.hid hl2
  have HB2 := Lib.hid hb2
  have HP2 := Lib.hid hp2
  have G0 := Lib.hid g0
  have G1 := Lib.hid g1
  have G2 := Lib.hid g2
  clear hl1 hb1 HC K0 K1 K2 k0 k1 k2 hl2 hb2 hp2 hrd2 g0 g1 g2 hbs HF Hr0 HP0 HB0 za ze
  go_wp2_with fail
  try simp only [hw2]
  clear hw2 a0 a1 a2 a3 a4 a5 a6 e0 e1 e2 e3 za0
  refine HF2.out.mono ?_
  rintro e w3 ⟨rfl, hb3⟩
  obtain ⟨pf, hpf⟩ : ∃ pf, findP P eD = pf := ⟨_, rfl⟩
  rw [hpf]
  obtain ⟨p, hpp⟩ : ∃ p, pf.getD p0 = p := ⟨_, rfl⟩
  obtain ⟨q, hq⟩ : ∃ q, pf.isSome = q := ⟨_, rfl⟩
  rw [hpp, hq]
  have Hpf := Lib.hid (And.intro hpf (And.intro hpp hq))
  obtain ⟨pD, pL, pF⟩ := p
  unfold partVal
  simp only
  have hb4 := Below.one w3 (.cells #[.int .i64 pD, .int .i64 pL, .string (S pF)] 40)
  have hb34 := hb3.trans (hb4.mono hb3.size)
  obtain ⟨W, hW, hs4, g0, g1, g2, g3, hl4, hb4', hp4⟩ : ∃ W, w3.alloc (.cells #[.int .i64 pD, .int .i64 pL, .string (S pF)] 40) = W ∧ B + 3 ≤ w3.heap.size ∧ W.heap[B]? = some (.cells #[.slice A1 n c1, .int .i64 N, .int .i64 Q, .bool O, .int .i64 D, .int .i64 T, .int .i64 X] 25 (0, 0)) ∧ W.heap[B + 1]? = some (.cells #[.int .i64 4, .int .i64 eD, .int .i64 eL, .int .i64 eA] 47 (0, 0)) ∧ W.heap[B + 2]? = some (.cells #[.slice none 0 0, .int .i64 0, .int .i64 0, .bool false, .int .i64 0, .int .i64 0, .int .i64 0] 25 (0, 0)) ∧
      W.heap[w3.heap.size]? = some (.cells #[.int .i64 pD, .int .i64 pL, .string (S pF)] 40 (0, 0)) ∧ Lie (fun k => k < B + 3) 40 3 (.slice A1 n c1) n (P.flatMap partCells) W ∧ Below B w W ∧ Pow W :=
    ⟨_, rfl, by have := hb3.size; omega, (hb34.block B (by omega)).trans G0.out, (hb34.block (B + 1) (by omega)).trans G1.out, (hb34.block (B + 2) (by omega)).trans G2.out, heap_alloc_new _ _, HL2.out.below hb34, HB2.out.trans (hb34.mono (by omega)), HP2.out.below hb34⟩
  have hWs : B + 3 < W.heap.size := by rw [← hW]; simp; omega
  have hq3 : w3.heap.size < W.heap.size := by rw [← hW]; simp
  obtain ⟨q3, hq3'⟩ : ∃ q3, w3.heap.size = q3 := ⟨_, rfl⟩
  rw [hq3'] at g3 hq3 hs4
  obtain ⟨f1, f2⟩ : W.cell? ⟨q3, 1, none⟩ = some (.int .i64 pL) ∧ True := ⟨by rw [Lib.cell_of_heap g3]; rfl, trivial⟩
  have HLW := Lib.hid hl4
  have HBW := Lib.hid hb4'
  have HPW := Lib.hid hp4
  have HG0 := Lib.hid g0
  have HG1 := Lib.hid g1
  have HG2 := Lib.hid g2
  clear hb3 hb4 hb34 HF2 G0 G1 G2 HL2 HB2 HP2 g3 hl4 hb4' hp4 b0 b1 b2 b3 b4 b5 b6 d0 d1 d2 d3 hpf hpp hq hsz1 hs2 f2
  obtain ⟨a0, a1, a2, a3, a4, a5, a6, za⟩ := seven g0
  obtain ⟨e0, e1, e2, e3, ze⟩ := four g1
  obtain ⟨r0, r1, r2, r3, r4, r5, r6, zr⟩ := seven g2
  have za0 := za 0
  have za1 := za 1
  have za2 := za 2
  have za3 := za 3
  have za4 := za 4
  have za5 := za 5
  have za6 := za 6
  have ze1 := ze 1
  have ze2 := ze 2
  have zr0 := zr 0
  have zr1 := zr 1
  have zr2 := zr 2
  have zr3 := zr 3
  have zr4 := zr 4
  have zr5 := zr 5
  have zr6 := zr 6
  clear za ze zr g0 g1 g2
  have hap := app4 (s := ⟨P, N, Q, O, D, T, X⟩) (e := ⟨4, eD, eL, eA⟩) rfl
  simp only at hap
  have HPA := Lib.hid (PAt.of HLW.out Hn.out)
  cases O with
  | false =>
    have HV := Lib.hid (show V = (st0, 170) by rw [← HV0.out]; exact appV_none (by rw [hap, if_neg (by simp)]))
    clear hap
    go_wp2_with fail
    refine bodyPost_ret (v := .tuple #[stVal none 0 0 st0, .int .i64 170]) (by rw [results_cell_tmp rfl]; go_simp; rfl) rfl ⟨none, 0, 0, by rw [HV.out]; rfl, by rw [HV.out]; exact PAt.nil _ _, ?_⟩
    rw [HB.out]
    exact ((((((((HBW.out.setCell (p := ⟨B, 6, none⟩) (by simp) _).setCell (p := ⟨B + 2, 0, none⟩) (by simp) _).setCell (p := ⟨B + 2, 1, none⟩) (by simp) _).setCell (p := ⟨B + 2, 2, none⟩) (by simp) _).setCell (p := ⟨B + 2, 3, none⟩) (by simp) _).setCell (p := ⟨B + 2, 4, none⟩) (by simp) _).setCell (p := ⟨B + 2, 5, none⟩) (by simp) _).setCell (p := ⟨B + 2, 6, none⟩) (by simp) _)
  | true =>
    by_cases c2 : X < 5000
    · rw [if_pos ⟨rfl, c2⟩] at hap
      have HV := Lib.hid (show V = (⟨P, N, Q, true, D, T, X + 1⟩, 0) by rw [← HV0.out]; exact appV_some hap)
      have t1 : decide (X < 5000) = true := decide_eq_true c2
      have m1 : IntKind.i64.wrap (X + 1) = X + 1 := by rw [IntKind.wrap_i64]; omega
      clear hap c2
      by_cases hd : D = eD
      · have u1 : (D == eD) = true := beq_iff_eq.2 hd
        clear hd
        go_wp2_with fail
        refine bodyPost_ret (v := .tuple #[stVal (A1) (n) (c1) ⟨P, N, Q, true, D, T, X + 1⟩, .int .i64 0]) (by rw [results_cell_tmp rfl]; go_simp; rfl) rfl ⟨A1, n, c1, by rw [HV.out]; rfl, ?_, ?_⟩
        · rw [HV.out, HB.out]
          exact ((((((((HPA.out.set (b := B) (j := 6) (by omega) _).set (b := B + 2) (j := 0) (by omega) _).set (b := B + 2) (j := 1) (by omega) _).set (b := B + 2) (j := 2) (by omega) _).set (b := B + 2) (j := 3) (by omega) _).set (b := B + 2) (j := 4) (by omega) _).set (b := B + 2) (j := 5) (by omega) _).set (b := B + 2) (j := 6) (by omega) _).mono (by omega)
        · rw [HB.out]
          exact ((((((((HBW.out.setCell (p := ⟨B, 6, none⟩) (by simp) _).setCell (p := ⟨B + 2, 0, none⟩) (by simp) _).setCell (p := ⟨B + 2, 1, none⟩) (by simp) _).setCell (p := ⟨B + 2, 2, none⟩) (by simp) _).setCell (p := ⟨B + 2, 3, none⟩) (by simp) _).setCell (p := ⟨B + 2, 4, none⟩) (by simp) _).setCell (p := ⟨B + 2, 5, none⟩) (by simp) _).setCell (p := ⟨B + 2, 6, none⟩) (by simp) _)
      · have u1 : (D == eD) = false := beq_eq_false_iff_ne.2 hd
        clear hd
        go_wp2_with fail
        refine bodyPost_ret (v := .tuple #[stVal (A1) (n) (c1) ⟨P, N, Q, true, D, T, X + 1⟩, .int .i64 0]) (by rw [results_cell_tmp rfl]; go_simp; rfl) rfl ⟨A1, n, c1, by rw [HV.out]; rfl, ?_, ?_⟩
        · rw [HV.out, HB.out]
          exact ((((((((HPA.out.set (b := B) (j := 6) (by omega) _).set (b := B + 2) (j := 0) (by omega) _).set (b := B + 2) (j := 1) (by omega) _).set (b := B + 2) (j := 2) (by omega) _).set (b := B + 2) (j := 3) (by omega) _).set (b := B + 2) (j := 4) (by omega) _).set (b := B + 2) (j := 5) (by omega) _).set (b := B + 2) (j := 6) (by omega) _).mono (by omega)
        · rw [HB.out]
          exact ((((((((HBW.out.setCell (p := ⟨B, 6, none⟩) (by simp) _).setCell (p := ⟨B + 2, 0, none⟩) (by simp) _).setCell (p := ⟨B + 2, 1, none⟩) (by simp) _).setCell (p := ⟨B + 2, 2, none⟩) (by simp) _).setCell (p := ⟨B + 2, 3, none⟩) (by simp) _).setCell (p := ⟨B + 2, 4, none⟩) (by simp) _).setCell (p := ⟨B + 2, 5, none⟩) (by simp) _).setCell (p := ⟨B + 2, 6, none⟩) (by simp) _)
    · have HV := Lib.hid (show V = (st0, 170) by rw [← HV0.out]; exact appV_none (by rw [hap, if_neg (by simp; omega)]))
      have t1 : decide (X < 5000) = false := decide_eq_false c2
      have m1 : IntKind.i64.wrap (X + 1) = X + 1 := by rw [IntKind.wrap_i64]; omega
      clear hap c2
      go_wp2_with fail
      refine bodyPost_ret (v := .tuple #[stVal none 0 0 st0, .int .i64 170]) (by rw [results_cell_tmp rfl]; go_simp; rfl) rfl ⟨none, 0, 0, by rw [HV.out]; rfl, by rw [HV.out]; exact PAt.nil _ _, ?_⟩
      rw [HB.out]
      exact ((((((((HBW.out.setCell (p := ⟨B, 6, none⟩) (by simp) _).setCell (p := ⟨B + 2, 0, none⟩) (by simp) _).setCell (p := ⟨B + 2, 1, none⟩) (by simp) _).setCell (p := ⟨B + 2, 2, none⟩) (by simp) _).setCell (p := ⟨B + 2, 3, none⟩) (by simp) _).setCell (p := ⟨B + 2, 4, none⟩) (by simp) _).setCell (p := ⟨B + 2, 5, none⟩) (by simp) _).setCell (p := ⟨B + 2, 6, none⟩) (by simp) _)

set_option linter.unusedSimpArgs false in
set_option maxRecDepth 100000 in
set_option maxHeartbeats 8000000 in
theorem mapply_6 (A : Option Addr) (n c : Nat) (s : St) (e : Ed) (w : World) (hr : Rd w 3 A n (s.Parts.flatMap partCells)) (hn : s.Parts.length = n) (hl : n ≤ 100000) (ha : asc s.Parts) (hN0 : 0 ≤ s.Next) (hN1 : s.Next ≤ 1099511627776) (hD0 : 0 ≤ s.Done) (hD1 : s.Done ≤ 5000) (hp : Pow w) (hk : e.Kind = 6) :
    Calls Tryd.prog 17 #[stVal A n c s, edVal e] w (StAt (appV s e) w.heap.size w) := by
  obtain ⟨B, hB⟩ : ∃ B, w.heap.size = B := ⟨_, rfl⟩
  obtain ⟨P, N, Q, O, D, T, X⟩ := s
  obtain ⟨eK, eD, eL, eA⟩ := e
  obtain rfl : eK = 6 := hk
  simp only at hr hn ha hN0 hN1 hD0 hD1
  obtain ⟨V, hV⟩ : ∃ V, appV ⟨P, N, Q, O, D, T, X⟩ ⟨6, eD, eL, eA⟩ = V := ⟨_, rfl⟩
  rw [hV]
  have HV0 := Lib.hid hV
  have HF := Lib.hid (fun w' hr' => mfind_any eD A c n ⟨P, N, Q, O, D, T, X⟩ w' hr' hn (by omega))
  unfold stVal edVal
  simp only
  obtain ⟨w0, hw0, hs0, hb0, k0, k1, k2⟩ : ∃ w0, ((w.alloc (.cells #[.slice A n c, .int .i64 N, .int .i64 Q, .bool O, .int .i64 D, .int .i64 T, .int .i64 X] 25)).alloc (.cells #[.int .i64 6, .int .i64 eD, .int .i64 eL, .int .i64 eA] 47)).alloc (.cells #[.slice none 0 0, .int .i64 0, .int .i64 0, .bool false, .int .i64 0, .int .i64 0, .int .i64 0] 25) = w0 ∧ w0.heap.size = B + 3 ∧ Below B w w0
      ∧ w0.heap[B]? = some (.cells #[.slice A n c, .int .i64 N, .int .i64 Q, .bool O, .int .i64 D, .int .i64 T, .int .i64 X] 25 (0, 0)) ∧ w0.heap[B + 1]? = some (.cells #[.int .i64 6, .int .i64 eD, .int .i64 eL, .int .i64 eA] 47 (0, 0)) ∧ w0.heap[B + 2]? = some (.cells #[.slice none 0 0, .int .i64 0, .int .i64 0, .bool false, .int .i64 0, .int .i64 0, .int .i64 0] 25 (0, 0)) := by
    have n1 := heap_alloc_new w (.cells #[.slice A n c, .int .i64 N, .int .i64 Q, .bool O, .int .i64 D, .int .i64 T, .int .i64 X] 25)
    have n2 := heap_alloc_new (w.alloc (.cells #[.slice A n c, .int .i64 N, .int .i64 Q, .bool O, .int .i64 D, .int .i64 T, .int .i64 X] 25)) (.cells #[.int .i64 6, .int .i64 eD, .int .i64 eL, .int .i64 eA] 47)
    have n3 := heap_alloc_new ((w.alloc (.cells #[.slice A n c, .int .i64 N, .int .i64 Q, .bool O, .int .i64 D, .int .i64 T, .int .i64 X] 25)).alloc (.cells #[.int .i64 6, .int .i64 eD, .int .i64 eL, .int .i64 eA] 47)) (.cells #[.slice none 0 0, .int .i64 0, .int .i64 0, .bool false, .int .i64 0, .int .i64 0, .int .i64 0] 25)
    simp only [World.size_alloc, hB, Nat.add_assoc, Nat.reduceAdd] at n1 n2 n3
    refine ⟨_, rfl, by simp [hB], ?_, ?_, ?_, n3⟩
    · subst hB
      exact (((Below.refl _ _).alloc (Nat.le_refl _) _).alloc (by simp) _).alloc (by simp; omega) _
    · exact (Lib.alloc_old _ _ _ (by simp; omega)).trans ((Lib.alloc_old _ _ _ (by simp; omega)).trans n1)
    · exact (Lib.alloc_old _ _ _ (by simp; omega)).trans n2
  have hgB : 0 < B := hB ▸ hp.2
  have hb0w : Below w.heap.size w w0 := hB ▸ hb0
  have hrd0 := hr.below hb0w
  have HP0 := Lib.hid (hp.below hb0w)
  have HC := Lib.hid (clone_any A c n P w0 hrd0 hn (by omega))
  have Hr0 := Lib.hid hrd0
  have Hn := Lib.hid hn
  have HB := Lib.hid hB
  have HB0 := Lib.hid hb0
  have Ha := Lib.hid ha
  obtain ⟨a0, -, -, -, -, -, -, za⟩ := seven k0
  have za0 := za 0
  have K0 := Lib.hid k0
  have K1 := Lib.hid k1
  have K2 := Lib.hid k2
  clear hr hrd0 hb0 hb0w hn ha hp k0 k1 k2 za hV
  go_enter Tryd.func17, Tryd.ntmps17
  go_wp2_with fail
  try simp only [hw0]
  clear hw0 hB a0 za0
  refine HC.out.mono ?_
  rintro e w1 ⟨A1, c1, rfl, hl1, hb1⟩
  have k0 := (hb1.block B (by omega)).trans K0.out
  have k1 := (hb1.block (B + 1) (by omega)).trans K1.out
  have k2 := (hb1.block (B + 2) (by omega)).trans K2.out
  obtain ⟨a0, a1, a2, a3, a4, a5, a6, za⟩ := seven k0
  obtain ⟨e0, e1, e2, e3, ze⟩ := four k1
  have za0 := za 0
  have hsz1 : B + 3 ≤ w1.heap.size := by have := hb1.size; omega
  rw [hs0] at hl1
  have hbs : Below w0.heap.size w0 (w1.setCell ⟨B, 0, none⟩ (.slice A1 n c1)) → True := fun _ => trivial
  obtain ⟨w2, hw2, hs2, g0, g1, g2, hl2, hb2, hp2, hrd2⟩ : ∃ w2, w1.setCell ⟨B, 0, none⟩ (.slice A1 n c1) = w2 ∧ w2.heap.size = w1.heap.size ∧ w2.heap[B]? = some (.cells #[.slice A1 n c1, .int .i64 N, .int .i64 Q, .bool O, .int .i64 D, .int .i64 T, .int .i64 X] 25 (0, 0)) ∧ w2.heap[B + 1]? = some (.cells #[.int .i64 6, .int .i64 eD, .int .i64 eL, .int .i64 eA] 47 (0, 0)) ∧ w2.heap[B + 2]? = some (.cells #[.slice none 0 0, .int .i64 0, .int .i64 0, .bool false, .int .i64 0, .int .i64 0, .int .i64 0] 25 (0, 0)) ∧
      Lie (fun k => k < B + 3) 40 3 (.slice A1 n c1) n (P.flatMap partCells) w2 ∧ Below B w w2 ∧ Pow w2 ∧ Rd w2 3 A1 n (P.flatMap partCells) := by
    have hl2 := own_set hl1 (show B < B + 3 by omega) 0 (.slice A1 n c1)
    exact ⟨_, rfl, by simp [World.setCell], by simp [World.setCell, Array.getElem?_modify, k0], (Below.heap_setCell _ _ _ _ (by simp)).trans k1, (Below.heap_setCell _ _ _ _ (by simp)).trans k2, hl2, (HB0.out.trans (hb1.mono (by omega))).setCell (p := ⟨B, 0, none⟩) (Nat.le_refl B) _, (HP0.out.below hb1).later (by simp [World.setCell]) (Below.heap_setCell _ _ _ _ (by simp only; omega)), hl2.rd⟩
  obtain ⟨b0, b1, b2, b3, b4, b5, b6, -⟩ := seven g0
  obtain ⟨d0, d1, d2, d3, -⟩ := four g1
  have HF2 := Lib.hid (mfind_any eD A1 c1 n ⟨P, N, Q, O, D, T, X⟩ w2 hrd2 Hn.out (by omega))
  unfold stVal at HF2
  simp only at HF2
  have HL2 := Lib.hid hl2
  have HB2 := Lib.hid hb2
  have HP2 := Lib.hid hp2
  have G0 := Lib.hid g0
  have G1 := Lib.hid g1
  have G2 := Lib.hid g2
  clear hl1 hb1 HC K0 K1 K2 k0 k1 k2 hl2 hb2 hp2 hrd2 g0 g1 g2 hbs HF Hr0 HP0 HB0 za ze
  go_wp2_with fail
  try simp only [hw2]
  clear hw2 a0 a1 a2 a3 a4 a5 a6 e0 e1 e2 e3 za0
  refine HF2.out.mono ?_
  rintro e w3 ⟨rfl, hb3⟩
  obtain ⟨pf, hpf⟩ : ∃ pf, findP P eD = pf := ⟨_, rfl⟩
  rw [hpf]
  obtain ⟨p, hpp⟩ : ∃ p, pf.getD p0 = p := ⟨_, rfl⟩
  obtain ⟨q, hq⟩ : ∃ q, pf.isSome = q := ⟨_, rfl⟩
  rw [hpp, hq]
  have Hpf := Lib.hid (And.intro hpf (And.intro hpp hq))
  obtain ⟨pD, pL, pF⟩ := p
  unfold partVal
  simp only
  have hb4 := Below.one w3 (.cells #[.int .i64 pD, .int .i64 pL, .string (S pF)] 40)
  have hb34 := hb3.trans (hb4.mono hb3.size)
  obtain ⟨W, hW, hs4, g0, g1, g2, g3, hl4, hb4', hp4⟩ : ∃ W, w3.alloc (.cells #[.int .i64 pD, .int .i64 pL, .string (S pF)] 40) = W ∧ B + 3 ≤ w3.heap.size ∧ W.heap[B]? = some (.cells #[.slice A1 n c1, .int .i64 N, .int .i64 Q, .bool O, .int .i64 D, .int .i64 T, .int .i64 X] 25 (0, 0)) ∧ W.heap[B + 1]? = some (.cells #[.int .i64 6, .int .i64 eD, .int .i64 eL, .int .i64 eA] 47 (0, 0)) ∧ W.heap[B + 2]? = some (.cells #[.slice none 0 0, .int .i64 0, .int .i64 0, .bool false, .int .i64 0, .int .i64 0, .int .i64 0] 25 (0, 0)) ∧
      W.heap[w3.heap.size]? = some (.cells #[.int .i64 pD, .int .i64 pL, .string (S pF)] 40 (0, 0)) ∧ Lie (fun k => k < B + 3) 40 3 (.slice A1 n c1) n (P.flatMap partCells) W ∧ Below B w W ∧ Pow W :=
    ⟨_, rfl, by have := hb3.size; omega, (hb34.block B (by omega)).trans G0.out, (hb34.block (B + 1) (by omega)).trans G1.out, (hb34.block (B + 2) (by omega)).trans G2.out, heap_alloc_new _ _, HL2.out.below hb34, HB2.out.trans (hb34.mono (by omega)), HP2.out.below hb34⟩
  have hWs : B + 3 < W.heap.size := by rw [← hW]; simp; omega
  have hq3 : w3.heap.size < W.heap.size := by rw [← hW]; simp
  obtain ⟨q3, hq3'⟩ : ∃ q3, w3.heap.size = q3 := ⟨_, rfl⟩
  rw [hq3'] at g3 hq3 hs4
  obtain ⟨f1, f2⟩ : W.cell? ⟨q3, 1, none⟩ = some (.int .i64 pL) ∧ True := ⟨by rw [Lib.cell_of_heap g3]; rfl, trivial⟩
  have HLW := Lib.hid hl4
  have HBW := Lib.hid hb4'
  have HPW := Lib.hid hp4
  have HG0 := Lib.hid g0
  have HG1 := Lib.hid g1
  have HG2 := Lib.hid g2
  clear hb3 hb4 hb34 HF2 G0 G1 G2 HL2 HB2 HP2 g3 hl4 hb4' hp4 b0 b1 b2 b3 b4 b5 b6 d0 d1 d2 d3 hpf hpp hq hsz1 hs2 f2
  obtain ⟨a0, a1, a2, a3, a4, a5, a6, za⟩ := seven g0
  obtain ⟨e0, e1, e2, e3, ze⟩ := four g1
  obtain ⟨r0, r1, r2, r3, r4, r5, r6, zr⟩ := seven g2
  have za0 := za 0
  have za1 := za 1
  have za2 := za 2
  have za3 := za 3
  have za4 := za 4
  have za5 := za 5
  have za6 := za 6
  have ze1 := ze 1
  have ze2 := ze 2
  have zr0 := zr 0
  have zr1 := zr 1
  have zr2 := zr 2
  have zr3 := zr 3
  have zr4 := zr 4
  have zr5 := zr 5
  have zr6 := zr 6
  clear za ze zr g0 g1 g2
  have hap := app6 (s := ⟨P, N, Q, O, D, T, X⟩) (e := ⟨6, eD, eL, eA⟩) rfl
  simp only at hap
  have Hap := Lib.hid hap
  have HPA := Lib.hid (PAt.of HLW.out Hn.out)
  have HOF := off_any A1 n c1 ⟨P, N, Q, O, D, T, X⟩ W
  unfold stVal offS at HOF
  simp only at HOF
  have HO := Lib.hid HOF
  clear hap HOF f1
  go_wp2_with fail
  refine HO.out.mono ?_
  rintro e w5 ⟨rfl, hb5⟩
  have g0 := (hb5.block B (by omega)).trans HG0.out
  have g1 := (hb5.block (B + 1) (by omega)).trans HG1.out
  have g2 := (hb5.block (B + 2) (by omega)).trans HG2.out
  clear a0 a1 a2 a3 a4 a5 a6 e0 e1 e2 e3 r0 r1 r2 r3 r4 r5 r6 za0 za1 za2 za3 za4 za5 za6 ze1 ze2 zr0 zr1 zr2 zr3 zr4 zr5 zr6
  obtain ⟨a0, a1, a2, a3, a4, a5, a6, za⟩ := seven g0
  obtain ⟨e0, e1, e2, e3, ze⟩ := four g1
  obtain ⟨r0, r1, r2, r3, r4, r5, r6, zr⟩ := seven g2
  have za0 := za 0
  have za1 := za 1
  have za2 := za 2
  have za3 := za 3
  have za4 := za 4
  have za5 := za 5
  have za6 := za 6
  have ze1 := ze 1
  have ze2 := ze 2
  have zr0 := zr 0
  have zr1 := zr 1
  have zr2 := zr 2
  have zr3 := zr 3
  have zr4 := zr 4
  have zr5 := zr 5
  have zr6 := zr 6
  have HG0 := Lib.hid g0
  have HG1 := Lib.hid g1
  have HG2 := Lib.hid g2
  clear za ze zr g0 g1 g2
  have HP5 := Lib.hid (HPA.out.below hb5)
  have HB5 := Lib.hid (HBW.out.trans (hb5.mono (by omega)))
  clear hb5
  cases O with
  | false =>
    have HV := Lib.hid (show V = (st0, 170) by rw [← HV0.out]; exact appV_none (by rw [Hap.out]; rfl))
    go_wp2_with fail
    refine bodyPost_ret (v := .tuple #[stVal none 0 0 st0, .int .i64 170]) (by rw [results_cell_tmp rfl]; go_simp; rfl) rfl ⟨none, 0, 0, by rw [HV.out]; rfl, by rw [HV.out]; exact PAt.nil _ _, ?_⟩
    rw [HB.out]
    exact ((((((((((((((HB5.out.setCell (p := ⟨B, 0, none⟩) (by simp) _).setCell (p := ⟨B, 1, none⟩) (by simp) _).setCell (p := ⟨B, 2, none⟩) (by simp) _).setCell (p := ⟨B, 3, none⟩) (by simp) _).setCell (p := ⟨B, 4, none⟩) (by simp) _).setCell (p := ⟨B, 5, none⟩) (by simp) _).setCell (p := ⟨B, 6, none⟩) (by simp) _).setCell (p := ⟨B + 2, 0, none⟩) (by simp) _).setCell (p := ⟨B + 2, 1, none⟩) (by simp) _).setCell (p := ⟨B + 2, 2, none⟩) (by simp) _).setCell (p := ⟨B + 2, 3, none⟩) (by simp) _).setCell (p := ⟨B + 2, 4, none⟩) (by simp) _).setCell (p := ⟨B + 2, 5, none⟩) (by simp) _).setCell (p := ⟨B + 2, 6, none⟩) (by simp) _)
  | true =>
    have HV := Lib.hid (show V = (⟨P, N, Q, false, 0, 0, 0⟩, 0) by rw [← HV0.out]; exact appV_some (by rw [Hap.out]; rfl))
    go_wp2_with fail
    refine bodyPost_ret (v := .tuple #[stVal (A1) (n) (c1) ⟨P, N, Q, false, 0, 0, 0⟩, .int .i64 0]) (by rw [results_cell_tmp rfl]; go_simp; rfl) rfl ⟨A1, n, c1, by rw [HV.out]; rfl, ?_, ?_⟩
    · rw [HV.out, HB.out]
      exact ((((((((((((((HP5.out.set (b := B) (j := 0) (by omega) _).set (b := B) (j := 1) (by omega) _).set (b := B) (j := 2) (by omega) _).set (b := B) (j := 3) (by omega) _).set (b := B) (j := 4) (by omega) _).set (b := B) (j := 5) (by omega) _).set (b := B) (j := 6) (by omega) _).set (b := B + 2) (j := 0) (by omega) _).set (b := B + 2) (j := 1) (by omega) _).set (b := B + 2) (j := 2) (by omega) _).set (b := B + 2) (j := 3) (by omega) _).set (b := B + 2) (j := 4) (by omega) _).set (b := B + 2) (j := 5) (by omega) _).set (b := B + 2) (j := 6) (by omega) _).mono (by omega)
    · rw [HB.out]
      exact ((((((((((((((HB5.out.setCell (p := ⟨B, 0, none⟩) (by simp) _).setCell (p := ⟨B, 1, none⟩) (by simp) _).setCell (p := ⟨B, 2, none⟩) (by simp) _).setCell (p := ⟨B, 3, none⟩) (by simp) _).setCell (p := ⟨B, 4, none⟩) (by simp) _).setCell (p := ⟨B, 5, none⟩) (by simp) _).setCell (p := ⟨B, 6, none⟩) (by simp) _).setCell (p := ⟨B + 2, 0, none⟩) (by simp) _).setCell (p := ⟨B + 2, 1, none⟩) (by simp) _).setCell (p := ⟨B + 2, 2, none⟩) (by simp) _).setCell (p := ⟨B + 2, 3, none⟩) (by simp) _).setCell (p := ⟨B + 2, 4, none⟩) (by simp) _).setCell (p := ⟨B + 2, 5, none⟩) (by simp) _).setCell (p := ⟨B + 2, 6, none⟩) (by simp) _)
end Go.Proofs.YtbheoahpaidpmaaDoor

/-! ManAppE -/
namespace Go.Proofs.YtbheoahpaidpmaaDoor
open Go Go.RowKit

set_option linter.unusedSimpArgs false in
set_option maxRecDepth 100000 in
set_option maxHeartbeats 8000000 in
theorem mapply_3 (A : Option Addr) (n c : Nat) (s : St) (e : Ed) (w : World) (hr : Rd w 3 A n (s.Parts.flatMap partCells)) (hn : s.Parts.length = n) (hl : n ≤ 100000) (ha : asc s.Parts) (hN0 : 0 ≤ s.Next) (hN1 : s.Next ≤ 1099511627776) (hD0 : 0 ≤ s.Done) (hD1 : s.Done ≤ 5000) (hp : Pow w) (hk : e.Kind = 3) :
    Calls Tryd.prog 17 #[stVal A n c s, edVal e] w (StAt (appV s e) w.heap.size w) := by
  obtain ⟨B, hB⟩ : ∃ B, w.heap.size = B := ⟨_, rfl⟩
  obtain ⟨P, N, Q, O, D, T, X⟩ := s
  obtain ⟨eK, eD, eL, eA⟩ := e
  obtain rfl : eK = 3 := hk
  simp only at hr hn ha hN0 hN1 hD0 hD1
  obtain ⟨V, hV⟩ : ∃ V, appV ⟨P, N, Q, O, D, T, X⟩ ⟨3, eD, eL, eA⟩ = V := ⟨_, rfl⟩
  rw [hV]
  have HV0 := Lib.hid hV
  have HF := Lib.hid (fun w' hr' => mfind_any eD A c n ⟨P, N, Q, O, D, T, X⟩ w' hr' hn (by omega))
  unfold stVal edVal
  simp only
  obtain ⟨w0, hw0, hs0, hb0, k0, k1, k2⟩ : ∃ w0, ((w.alloc (.cells #[.slice A n c, .int .i64 N, .int .i64 Q, .bool O, .int .i64 D, .int .i64 T, .int .i64 X] 25)).alloc (.cells #[.int .i64 3, .int .i64 eD, .int .i64 eL, .int .i64 eA] 47)).alloc (.cells #[.slice none 0 0, .int .i64 0, .int .i64 0, .bool false, .int .i64 0, .int .i64 0, .int .i64 0] 25) = w0 ∧ w0.heap.size = B + 3 ∧ Below B w w0
      ∧ w0.heap[B]? = some (.cells #[.slice A n c, .int .i64 N, .int .i64 Q, .bool O, .int .i64 D, .int .i64 T, .int .i64 X] 25 (0, 0)) ∧ w0.heap[B + 1]? = some (.cells #[.int .i64 3, .int .i64 eD, .int .i64 eL, .int .i64 eA] 47 (0, 0)) ∧ w0.heap[B + 2]? = some (.cells #[.slice none 0 0, .int .i64 0, .int .i64 0, .bool false, .int .i64 0, .int .i64 0, .int .i64 0] 25 (0, 0)) := by
    have n1 := heap_alloc_new w (.cells #[.slice A n c, .int .i64 N, .int .i64 Q, .bool O, .int .i64 D, .int .i64 T, .int .i64 X] 25)
    have n2 := heap_alloc_new (w.alloc (.cells #[.slice A n c, .int .i64 N, .int .i64 Q, .bool O, .int .i64 D, .int .i64 T, .int .i64 X] 25)) (.cells #[.int .i64 3, .int .i64 eD, .int .i64 eL, .int .i64 eA] 47)
    have n3 := heap_alloc_new ((w.alloc (.cells #[.slice A n c, .int .i64 N, .int .i64 Q, .bool O, .int .i64 D, .int .i64 T, .int .i64 X] 25)).alloc (.cells #[.int .i64 3, .int .i64 eD, .int .i64 eL, .int .i64 eA] 47)) (.cells #[.slice none 0 0, .int .i64 0, .int .i64 0, .bool false, .int .i64 0, .int .i64 0, .int .i64 0] 25)
    simp only [World.size_alloc, hB, Nat.add_assoc, Nat.reduceAdd] at n1 n2 n3
    refine ⟨_, rfl, by simp [hB], ?_, ?_, ?_, n3⟩
    · subst hB
      exact (((Below.refl _ _).alloc (Nat.le_refl _) _).alloc (by simp) _).alloc (by simp; omega) _
    · exact (Lib.alloc_old _ _ _ (by simp; omega)).trans ((Lib.alloc_old _ _ _ (by simp; omega)).trans n1)
    · exact (Lib.alloc_old _ _ _ (by simp; omega)).trans n2
  have hgB : 0 < B := hB ▸ hp.2
  have hb0w : Below w.heap.size w w0 := hB ▸ hb0
  have hrd0 := hr.below hb0w
  have HP0 := Lib.hid (hp.below hb0w)
  have HC := Lib.hid (clone_any A c n P w0 hrd0 hn (by omega))
  have Hr0 := Lib.hid hrd0
  have Hn := Lib.hid hn
  have HB := Lib.hid hB
  have HB0 := Lib.hid hb0
  have Ha := Lib.hid ha
  obtain ⟨a0, -, -, -, -, -, -, za⟩ := seven k0
  have za0 := za 0
  have K0 := Lib.hid k0
  have K1 := Lib.hid k1
  have K2 := Lib.hid k2
  clear hr hrd0 hb0 hb0w hn ha hp k0 k1 k2 za hV
  go_enter Tryd.func17, Tryd.ntmps17
  go_wp2_with fail
  try simp only [hw0]
  clear hw0 hB a0 za0
  refine HC.out.mono ?_
  rintro e w1 ⟨A1, c1, rfl, hl1, hb1⟩
  have k0 := (hb1.block B (by omega)).trans K0.out
  have k1 := (hb1.block (B + 1) (by omega)).trans K1.out
  have k2 := (hb1.block (B + 2) (by omega)).trans K2.out
  obtain ⟨a0, a1, a2, a3, a4, a5, a6, za⟩ := seven k0
  obtain ⟨e0, e1, e2, e3, ze⟩ := four k1
  have za0 := za 0
  have hsz1 : B + 3 ≤ w1.heap.size := by have := hb1.size; omega
  rw [hs0] at hl1
  have hbs : Below w0.heap.size w0 (w1.setCell ⟨B, 0, none⟩ (.slice A1 n c1)) → True := fun _ => trivial
  obtain ⟨w2, hw2, hs2, g0, g1, g2, hl2, hb2, hp2, hrd2⟩ : ∃ w2, w1.setCell ⟨B, 0, none⟩ (.slice A1 n c1) = w2 ∧ w2.heap.size = w1.heap.size ∧ w2.heap[B]? = some (.cells #[.slice A1 n c1, .int .i64 N, .int .i64 Q, .bool O, .int .i64 D, .int .i64 T, .int .i64 X] 25 (0, 0)) ∧ w2.heap[B + 1]? = some (.cells #[.int .i64 3, .int .i64 eD, .int .i64 eL, .int .i64 eA] 47 (0, 0)) ∧ w2.heap[B + 2]? = some (.cells #[.slice none 0 0, .int .i64 0, .int .i64 0, .bool false, .int .i64 0, .int .i64 0, .int .i64 0] 25 (0, 0)) ∧
      Lie (fun k => k < B + 3) 40 3 (.slice A1 n c1) n (P.flatMap partCells) w2 ∧ Below B w w2 ∧ Pow w2 ∧ Rd w2 3 A1 n (P.flatMap partCells) := by
    have hl2 := own_set hl1 (show B < B + 3 by omega) 0 (.slice A1 n c1)
    exact ⟨_, rfl, by simp [World.setCell], by simp [World.setCell, Array.getElem?_modify, k0], (Below.heap_setCell _ _ _ _ (by simp)).trans k1, (Below.heap_setCell _ _ _ _ (by simp)).trans k2, hl2, (HB0.out.trans (hb1.mono (by omega))).setCell (p := ⟨B, 0, none⟩) (Nat.le_refl B) _, (HP0.out.below hb1).later (by simp [World.setCell]) (Below.heap_setCell _ _ _ _ (by simp only; omega)), hl2.rd⟩
  obtain ⟨b0, b1, b2, b3, b4, b5, b6, -⟩ := seven g0
  obtain ⟨d0, d1, d2, d3, -⟩ := four g1
  have HF2 := Lib.hid (mfind_any eD A1 c1 n ⟨P, N, Q, O, D, T, X⟩ w2 hrd2 Hn.out (by omega))
  unfold stVal at HF2
  simp only at HF2
  have HL2 := Lib.hid hl2
  have HB2 := Lib.hid hb2
  have HP2 := Lib.hid hp2
  have G0 := Lib.hid g0
  have G1 := Lib.hid g1
  have G2 := Lib.hid g2
  clear hl1 hb1 HC K0 K1 K2 k0 k1 k2 hl2 hb2 hp2 hrd2 g0 g1 g2 hbs HF Hr0 HP0 HB0 za ze
  go_wp2_with fail
  try simp only [hw2]
  clear hw2 a0 a1 a2 a3 a4 a5 a6 e0 e1 e2 e3 za0
  refine HF2.out.mono ?_
  rintro e w3 ⟨rfl, hb3⟩
  obtain ⟨pf, hpf⟩ : ∃ pf, findP P eD = pf := ⟨_, rfl⟩
  rw [hpf]
  obtain ⟨p, hpp⟩ : ∃ p, pf.getD p0 = p := ⟨_, rfl⟩
  obtain ⟨q, hq⟩ : ∃ q, pf.isSome = q := ⟨_, rfl⟩
  rw [hpp, hq]
  have Hpf := Lib.hid (And.intro hpf (And.intro hpp hq))
  obtain ⟨pD, pL, pF⟩ := p
  unfold partVal
  simp only
  have hb4 := Below.one w3 (.cells #[.int .i64 pD, .int .i64 pL, .string (S pF)] 40)
  have hb34 := hb3.trans (hb4.mono hb3.size)
  obtain ⟨W, hW, hs4, g0, g1, g2, g3, hl4, hb4', hp4⟩ : ∃ W, w3.alloc (.cells #[.int .i64 pD, .int .i64 pL, .string (S pF)] 40) = W ∧ B + 3 ≤ w3.heap.size ∧ W.heap[B]? = some (.cells #[.slice A1 n c1, .int .i64 N, .int .i64 Q, .bool O, .int .i64 D, .int .i64 T, .int .i64 X] 25 (0, 0)) ∧ W.heap[B + 1]? = some (.cells #[.int .i64 3, .int .i64 eD, .int .i64 eL, .int .i64 eA] 47 (0, 0)) ∧ W.heap[B + 2]? = some (.cells #[.slice none 0 0, .int .i64 0, .int .i64 0, .bool false, .int .i64 0, .int .i64 0, .int .i64 0] 25 (0, 0)) ∧
      W.heap[w3.heap.size]? = some (.cells #[.int .i64 pD, .int .i64 pL, .string (S pF)] 40 (0, 0)) ∧ Lie (fun k => k < B + 3) 40 3 (.slice A1 n c1) n (P.flatMap partCells) W ∧ Below B w W ∧ Pow W :=
    ⟨_, rfl, by have := hb3.size; omega, (hb34.block B (by omega)).trans G0.out, (hb34.block (B + 1) (by omega)).trans G1.out, (hb34.block (B + 2) (by omega)).trans G2.out, heap_alloc_new _ _, HL2.out.below hb34, HB2.out.trans (hb34.mono (by omega)), HP2.out.below hb34⟩
  have hWs : B + 3 < W.heap.size := by rw [← hW]; simp; omega
  have hq3 : w3.heap.size < W.heap.size := by rw [← hW]; simp
  obtain ⟨q3, hq3'⟩ : ∃ q3, w3.heap.size = q3 := ⟨_, rfl⟩
  rw [hq3'] at g3 hq3 hs4
  obtain ⟨f1, f2⟩ : W.cell? ⟨q3, 1, none⟩ = some (.int .i64 pL) ∧ True := ⟨by rw [Lib.cell_of_heap g3]; rfl, trivial⟩
  have HLW := Lib.hid hl4
  have HBW := Lib.hid hb4'
  have HPW := Lib.hid hp4
  have HG0 := Lib.hid g0
  have HG1 := Lib.hid g1
  have HG2 := Lib.hid g2
  clear hb3 hb4 hb34 HF2 G0 G1 G2 HL2 HB2 HP2 g3 hl4 hb4' hp4 b0 b1 b2 b3 b4 b5 b6 d0 d1 d2 d3 hpf hpp hq hsz1 hs2 f2
  obtain ⟨a0, a1, a2, a3, a4, a5, a6, za⟩ := seven g0
  obtain ⟨e0, e1, e2, e3, ze⟩ := four g1
  obtain ⟨r0, r1, r2, r3, r4, r5, r6, zr⟩ := seven g2
  have za0 := za 0
  have za1 := za 1
  have za2 := za 2
  have za3 := za 3
  have za4 := za 4
  have za5 := za 5
  have za6 := za 6
  have ze1 := ze 1
  have ze2 := ze 2
  have zr0 := zr 0
  have zr1 := zr 1
  have zr2 := zr 2
  have zr3 := zr 3
  have zr4 := zr 4
  have zr5 := zr 5
  have zr6 := zr 6
  clear za ze zr g0 g1 g2
  have hap := app3 (s := ⟨P, N, Q, O, D, T, X⟩) (e := ⟨3, eD, eL, eA⟩) rfl
  simp only at hap
  have HWI := Lib.hid (fun w => within_any eL 1 w)
  rw [within_bit] at HWI
  rw [Hpf.out.1] at hap
  have HEX := Lib.hid (show ∃ W', (((W.setCell ⟨B, 3, none⟩ (.bool true)).setCell ⟨B, 4, none⟩ (.int .i64 eD)).setCell ⟨B, 5, none⟩ (.int .i64 eL)).drew = W' ∧ B + 3 < W'.heap.size ∧ W'.heap[B]? = some (.cells #[.slice A1 n c1, .int .i64 N, .int .i64 Q, .bool true, .int .i64 eD, .int .i64 eL, .int .i64 X] 25 (0, 0)) ∧ W'.heap[B + 1]? = some (.cells #[.int .i64 3, .int .i64 eD, .int .i64 eL, .int .i64 eA] 47 (0, 0)) ∧ W'.heap[B + 2]? = some (.cells #[.slice none 0 0, .int .i64 0, .int .i64 0, .bool false, .int .i64 0, .int .i64 0, .int .i64 0] 25 (0, 0)) ∧
      PAt (B + 3) A1 n P W' ∧ Below B w W' from by
    have k0 := HG0.out
    refine ⟨_, rfl, by simp [World.setCell, World.drew]; omega, ?_, ?_, ?_, ?_, ?_⟩
    · show (((W.setCell ⟨B, 3, none⟩ (.bool true)).setCell ⟨B, 4, none⟩ (.int .i64 eD)).setCell ⟨B, 5, none⟩ (.int .i64 eL)).heap[B]? = _
      simp [World.setCell, Array.getElem?_modify, k0]
    · exact (Below.heap_setCell _ _ _ _ (by simp)).trans ((Below.heap_setCell _ _ _ _ (by simp)).trans ((Below.heap_setCell _ _ _ _ (by simp)).trans HG1.out))
    · exact (Below.heap_setCell _ _ _ _ (by simp)).trans ((Below.heap_setCell _ _ _ _ (by simp)).trans ((Below.heap_setCell _ _ _ _ (by simp)).trans HG2.out))
    · exact (((PAt.of HLW.out Hn.out).set (b := B) (j := 3) (by omega) _).set (b := B) (j := 4) (by omega) _).set (b := B) (j := 5) (by omega) _ |>.drew
    · exact (((HBW.out.setCell (p := ⟨B, 3, none⟩) (by simp) _).setCell (p := ⟨B, 4, none⟩) (by simp) _).setCell (p := ⟨B, 5, none⟩) (by simp) _).drew)
  clear a0 a1 a2 a6 za0 za1 za2 za6 e3 r0 r1 r2 r3 r4 r5 r6 zr0 zr1 zr2 zr3 zr4 zr5 zr6 HLW HBW HPW HG0 HG1 HG2 hgB hs0 hs4
  cases pf with
  | none =>
    have HV := Lib.hid (show V = (st0, 170) by rw [← HV0.out]; exact appV_none hap)
    obtain rfl : false = q := Hpf.out.2.2
    clear hap
    cases O with
    | false =>
      go_wp2_with fail
      go_region
      all_goals
        obtain ⟨W9, hW9, hWs9, g0, g1, g2, hp9, hb9⟩ := HEX.out
        simp only [hW9]
        have HP9 := Lib.hid hp9
        have HB9 := Lib.hid hb9
        clear a3 a4 a5 za3 za4 za5 e0 e1 e2 ze1 ze2 f1 hWs hW9 hW HEX hp9 hb9
        obtain ⟨a0, a1, a2, a3, a4, a5, a6, za⟩ := seven g0
        obtain ⟨e0, e1, e2, e3, ze⟩ := four g1
        obtain ⟨r0, r1, r2, r3, r4, r5, r6, zr⟩ := seven g2
        have za0 := za 0
        have za1 := za 1
        have za2 := za 2
        have za3 := za 3
        have za4 := za 4
        have za5 := za 5
        have za6 := za 6
        have ze1 := ze 1
        have ze2 := ze 2
        have zr0 := zr 0
        have zr1 := zr 1
        have zr2 := zr 2
        have zr3 := zr 3
        have zr4 := zr 4
        have zr5 := zr 5
        have zr6 := zr 6
        have HG0 := Lib.hid g0
        have HG1 := Lib.hid g1
        have HG2 := Lib.hid g2
        clear za ze zr g0 g1 g2
        go_wp2_with fail
        refine bodyPost_ret (v := .tuple #[stVal none 0 0 st0, .int .i64 170]) (by rw [results_cell_tmp rfl]; go_simp; rfl) rfl ⟨none, 0, 0, by rw [HV.out]; rfl, by rw [HV.out]; exact PAt.nil _ _, ?_⟩
        rw [HB.out]
        exact (((((((HB9.out.setCell (p := ⟨B + 2, 0, none⟩) (by simp) _).setCell (p := ⟨B + 2, 1, none⟩) (by simp) _).setCell (p := ⟨B + 2, 2, none⟩) (by simp) _).setCell (p := ⟨B + 2, 3, none⟩) (by simp) _).setCell (p := ⟨B + 2, 4, none⟩) (by simp) _).setCell (p := ⟨B + 2, 5, none⟩) (by simp) _).setCell (p := ⟨B + 2, 6, none⟩) (by simp) _)
    | true =>
      go_wp2_with fail
      go_region
      all_goals
        obtain ⟨W9, hW9, hWs9, g0, g1, g2, hp9, hb9⟩ := HEX.out
        simp only [hW9]
        have HP9 := Lib.hid hp9
        have HB9 := Lib.hid hb9
        clear a3 a4 a5 za3 za4 za5 e0 e1 e2 ze1 ze2 f1 hWs hW9 hW HEX hp9 hb9
        obtain ⟨a0, a1, a2, a3, a4, a5, a6, za⟩ := seven g0
        obtain ⟨e0, e1, e2, e3, ze⟩ := four g1
        obtain ⟨r0, r1, r2, r3, r4, r5, r6, zr⟩ := seven g2
        have za0 := za 0
        have za1 := za 1
        have za2 := za 2
        have za3 := za 3
        have za4 := za 4
        have za5 := za 5
        have za6 := za 6
        have ze1 := ze 1
        have ze2 := ze 2
        have zr0 := zr 0
        have zr1 := zr 1
        have zr2 := zr 2
        have zr3 := zr 3
        have zr4 := zr 4
        have zr5 := zr 5
        have zr6 := zr 6
        have HG0 := Lib.hid g0
        have HG1 := Lib.hid g1
        have HG2 := Lib.hid g2
        clear za ze zr g0 g1 g2
        go_wp2_with fail
        refine bodyPost_ret (v := .tuple #[stVal none 0 0 st0, .int .i64 170]) (by rw [results_cell_tmp rfl]; go_simp; rfl) rfl ⟨none, 0, 0, by rw [HV.out]; rfl, by rw [HV.out]; exact PAt.nil _ _, ?_⟩
        rw [HB.out]
        exact (((((((HB9.out.setCell (p := ⟨B + 2, 0, none⟩) (by simp) _).setCell (p := ⟨B + 2, 1, none⟩) (by simp) _).setCell (p := ⟨B + 2, 2, none⟩) (by simp) _).setCell (p := ⟨B + 2, 3, none⟩) (by simp) _).setCell (p := ⟨B + 2, 4, none⟩) (by simp) _).setCell (p := ⟨B + 2, 5, none⟩) (by simp) _).setCell (p := ⟨B + 2, 6, none⟩) (by simp) _)
  | some pp =>
    obtain rfl : true = q := Hpf.out.2.2
    obtain rfl : pp = ⟨pD, pL, pF⟩ := Hpf.out.2.1
    simp only at hap
    cases O with
    | true =>
      have HV := Lib.hid (show V = (st0, 170) by rw [← HV0.out]; exact appV_none (by rw [hap, if_neg (by simp)]))
      clear hap
      go_wp2_with fail
      go_region
      all_goals
        obtain ⟨W9, hW9, hWs9, g0, g1, g2, hp9, hb9⟩ := HEX.out
        simp only [hW9]
        have HP9 := Lib.hid hp9
        have HB9 := Lib.hid hb9
        clear a3 a4 a5 za3 za4 za5 e0 e1 e2 ze1 ze2 f1 hWs hW9 hW HEX hp9 hb9
        obtain ⟨a0, a1, a2, a3, a4, a5, a6, za⟩ := seven g0
        obtain ⟨e0, e1, e2, e3, ze⟩ := four g1
        obtain ⟨r0, r1, r2, r3, r4, r5, r6, zr⟩ := seven g2
        have za0 := za 0
        have za1 := za 1
        have za2 := za 2
        have za3 := za 3
        have za4 := za 4
        have za5 := za 5
        have za6 := za 6
        have ze1 := ze 1
        have ze2 := ze 2
        have zr0 := zr 0
        have zr1 := zr 1
        have zr2 := zr 2
        have zr3 := zr 3
        have zr4 := zr 4
        have zr5 := zr 5
        have zr6 := zr 6
        have HG0 := Lib.hid g0
        have HG1 := Lib.hid g1
        have HG2 := Lib.hid g2
        clear za ze zr g0 g1 g2
        go_wp2_with fail
        refine bodyPost_ret (v := .tuple #[stVal none 0 0 st0, .int .i64 170]) (by rw [results_cell_tmp rfl]; go_simp; rfl) rfl ⟨none, 0, 0, by rw [HV.out]; rfl, by rw [HV.out]; exact PAt.nil _ _, ?_⟩
        rw [HB.out]
        exact (((((((HB9.out.setCell (p := ⟨B + 2, 0, none⟩) (by simp) _).setCell (p := ⟨B + 2, 1, none⟩) (by simp) _).setCell (p := ⟨B + 2, 2, none⟩) (by simp) _).setCell (p := ⟨B + 2, 3, none⟩) (by simp) _).setCell (p := ⟨B + 2, 4, none⟩) (by simp) _).setCell (p := ⟨B + 2, 5, none⟩) (by simp) _).setCell (p := ⟨B + 2, 6, none⟩) (by simp) _)
    | false =>
      by_cases c1 : bitOk eL
      · rw [decide_eq_true c1] at HWI
        by_cases c2 : pL = eL
        · have HV := Lib.hid (show V = (st0, 170) by rw [← HV0.out]; exact appV_none (by rw [hap, if_neg (fun h => h.2.2 c2)]))
          have t1 : (pL != eL) = false := by rw [c2]; simp
          have t2 : (pL == eL) = true := by rw [c2]; simp
          clear hap c1 c2
          go_wp2_with fail
          refine (HWI.out _).mono ?_
          rintro e w5 ⟨rfl, rfl⟩
          go_wp2_with fail
          go_region
          all_goals
            obtain ⟨W9, hW9, hWs9, g0, g1, g2, hp9, hb9⟩ := HEX.out
            simp only [hW9]
            have HP9 := Lib.hid hp9
            have HB9 := Lib.hid hb9
            clear a3 a4 a5 za3 za4 za5 e0 e1 e2 ze1 ze2 f1 hWs hW9 hW HEX hp9 hb9
            obtain ⟨a0, a1, a2, a3, a4, a5, a6, za⟩ := seven g0
            obtain ⟨e0, e1, e2, e3, ze⟩ := four g1
            obtain ⟨r0, r1, r2, r3, r4, r5, r6, zr⟩ := seven g2
            have za0 := za 0
            have za1 := za 1
            have za2 := za 2
            have za3 := za 3
            have za4 := za 4
            have za5 := za 5
            have za6 := za 6
            have ze1 := ze 1
            have ze2 := ze 2
            have zr0 := zr 0
            have zr1 := zr 1
            have zr2 := zr 2
            have zr3 := zr 3
            have zr4 := zr 4
            have zr5 := zr 5
            have zr6 := zr 6
            have HG0 := Lib.hid g0
            have HG1 := Lib.hid g1
            have HG2 := Lib.hid g2
            clear za ze zr g0 g1 g2
            go_wp2_with fail
            refine bodyPost_ret (v := .tuple #[stVal none 0 0 st0, .int .i64 170]) (by rw [results_cell_tmp rfl]; go_simp; rfl) rfl ⟨none, 0, 0, by rw [HV.out]; rfl, by rw [HV.out]; exact PAt.nil _ _, ?_⟩
            rw [HB.out]
            exact (((((((HB9.out.setCell (p := ⟨B + 2, 0, none⟩) (by simp) _).setCell (p := ⟨B + 2, 1, none⟩) (by simp) _).setCell (p := ⟨B + 2, 2, none⟩) (by simp) _).setCell (p := ⟨B + 2, 3, none⟩) (by simp) _).setCell (p := ⟨B + 2, 4, none⟩) (by simp) _).setCell (p := ⟨B + 2, 5, none⟩) (by simp) _).setCell (p := ⟨B + 2, 6, none⟩) (by simp) _)
        · rw [if_pos ⟨rfl, c1, c2⟩] at hap
          have HV := Lib.hid (show V = (⟨P, N, Q, true, eD, eL, X⟩, 0) by rw [← HV0.out]; exact appV_some hap)
          have t2 : (pL == eL) = false := beq_eq_false_iff_ne.2 c2
          have t1 : (pL != eL) = true := by rw [bne, t2]; rfl
          clear hap c1 c2
          go_wp2_with fail
          refine (HWI.out _).mono ?_
          rintro e w5 ⟨rfl, rfl⟩
          go_wp2_with fail
          go_region
          all_goals
            obtain ⟨W9, hW9, hWs9, g0, g1, g2, hp9, hb9⟩ := HEX.out
            simp only [hW9]
            have HP9 := Lib.hid hp9
            have HB9 := Lib.hid hb9
            clear a3 a4 a5 za3 za4 za5 e0 e1 e2 ze1 ze2 f1 hWs hW9 hW HEX hp9 hb9
            obtain ⟨a0, a1, a2, a3, a4, a5, a6, za⟩ := seven g0
            obtain ⟨e0, e1, e2, e3, ze⟩ := four g1
            obtain ⟨r0, r1, r2, r3, r4, r5, r6, zr⟩ := seven g2
            have za0 := za 0
            have za1 := za 1
            have za2 := za 2
            have za3 := za 3
            have za4 := za 4
            have za5 := za 5
            have za6 := za 6
            have ze1 := ze 1
            have ze2 := ze 2
            have zr0 := zr 0
            have zr1 := zr 1
            have zr2 := zr 2
            have zr3 := zr 3
            have zr4 := zr 4
            have zr5 := zr 5
            have zr6 := zr 6
            have HG0 := Lib.hid g0
            have HG1 := Lib.hid g1
            have HG2 := Lib.hid g2
            clear za ze zr g0 g1 g2
            go_wp2_with fail
            refine bodyPost_ret (v := .tuple #[stVal (A1) (n) (c1) ⟨P, N, Q, true, eD, eL, X⟩, .int .i64 0]) (by rw [results_cell_tmp rfl]; go_simp; rfl) rfl ⟨A1, n, c1, by rw [HV.out]; rfl, ?_, ?_⟩
            · rw [HV.out, HB.out]
              exact (((((((HP9.out.set (b := B + 2) (j := 0) (by omega) _).set (b := B + 2) (j := 1) (by omega) _).set (b := B + 2) (j := 2) (by omega) _).set (b := B + 2) (j := 3) (by omega) _).set (b := B + 2) (j := 4) (by omega) _).set (b := B + 2) (j := 5) (by omega) _).set (b := B + 2) (j := 6) (by omega) _).mono (by omega)
            · rw [HB.out]
              exact (((((((HB9.out.setCell (p := ⟨B + 2, 0, none⟩) (by simp) _).setCell (p := ⟨B + 2, 1, none⟩) (by simp) _).setCell (p := ⟨B + 2, 2, none⟩) (by simp) _).setCell (p := ⟨B + 2, 3, none⟩) (by simp) _).setCell (p := ⟨B + 2, 4, none⟩) (by simp) _).setCell (p := ⟨B + 2, 5, none⟩) (by simp) _).setCell (p := ⟨B + 2, 6, none⟩) (by simp) _)
      · have HV := Lib.hid (show V = (st0, 170) by rw [← HV0.out]; exact appV_none (by rw [hap, if_neg (fun h => c1 h.2.1)]))
        rw [decide_eq_false c1] at HWI
        clear hap c1
        go_wp2_with fail
        refine (HWI.out _).mono ?_
        rintro e w5 ⟨rfl, rfl⟩
        go_wp2_with fail
        go_region
        all_goals
          obtain ⟨W9, hW9, hWs9, g0, g1, g2, hp9, hb9⟩ := HEX.out
          simp only [hW9]
          have HP9 := Lib.hid hp9
          have HB9 := Lib.hid hb9
          clear a3 a4 a5 za3 za4 za5 e0 e1 e2 ze1 ze2 f1 hWs hW9 hW HEX hp9 hb9
          obtain ⟨a0, a1, a2, a3, a4, a5, a6, za⟩ := seven g0
          obtain ⟨e0, e1, e2, e3, ze⟩ := four g1
          obtain ⟨r0, r1, r2, r3, r4, r5, r6, zr⟩ := seven g2
          have za0 := za 0
          have za1 := za 1
          have za2 := za 2
          have za3 := za 3
          have za4 := za 4
          have za5 := za 5
          have za6 := za 6
          have ze1 := ze 1
          have ze2 := ze 2
          have zr0 := zr 0
          have zr1 := zr 1
          have zr2 := zr 2
          have zr3 := zr 3
          have zr4 := zr 4
          have zr5 := zr 5
          have zr6 := zr 6
          have HG0 := Lib.hid g0
          have HG1 := Lib.hid g1
          have HG2 := Lib.hid g2
          clear za ze zr g0 g1 g2
          go_wp2_with fail
          refine bodyPost_ret (v := .tuple #[stVal none 0 0 st0, .int .i64 170]) (by rw [results_cell_tmp rfl]; go_simp; rfl) rfl ⟨none, 0, 0, by rw [HV.out]; rfl, by rw [HV.out]; exact PAt.nil _ _, ?_⟩
          rw [HB.out]
          exact (((((((HB9.out.setCell (p := ⟨B + 2, 0, none⟩) (by simp) _).setCell (p := ⟨B + 2, 1, none⟩) (by simp) _).setCell (p := ⟨B + 2, 2, none⟩) (by simp) _).setCell (p := ⟨B + 2, 3, none⟩) (by simp) _).setCell (p := ⟨B + 2, 4, none⟩) (by simp) _).setCell (p := ⟨B + 2, 5, none⟩) (by simp) _).setCell (p := ⟨B + 2, 6, none⟩) (by simp) _)
end Go.Proofs.YtbheoahpaidpmaaDoor

/-! ManApp -/
namespace Go.Proofs.YtbheoahpaidpmaaDoor
open Go Go.RowKit

theorem mapply_any (A : Option Addr) (n c : Nat) (s : St) (e : Ed) (w : World) (hr : Rd w 3 A n (s.Parts.flatMap partCells)) (hn : s.Parts.length = n) (hl : n ≤ 100000) (ha : asc s.Parts) (hN0 : 0 ≤ s.Next) (hN1 : s.Next ≤ 1099511627776) (hD0 : 0 ≤ s.Done) (hD1 : s.Done ≤ 5000) (hp : Pow w) :
    Calls Tryd.prog 17 #[stVal A n c s, edVal e] w (StAt (appV s e) w.heap.size w) := by
  by_cases h0 : e.Kind = 0
  · exact mapply_0 A n c s e w hr hn hl ha hN0 hN1 hD0 hD1 hp h0
  by_cases h1 : e.Kind = 1
  · exact mapply_1 A n c s e w hr hn hl ha hN0 hN1 hD0 hD1 hp h1
  by_cases h2 : e.Kind = 2
  · exact mapply_2 A n c s e w hr hn hl ha hN0 hN1 hD0 hD1 hp h2
  by_cases h3 : e.Kind = 3
  · exact mapply_3 A n c s e w hr hn hl ha hN0 hN1 hD0 hD1 hp h3
  by_cases h4 : e.Kind = 4
  · exact mapply_4 A n c s e w hr hn hl ha hN0 hN1 hD0 hD1 hp h4
  by_cases h5 : e.Kind = 5
  · exact mapply_5 A n c s e w hr hn hl ha hN0 hN1 hD0 hD1 hp h5
  by_cases h6 : e.Kind = 6
  · exact mapply_6 A n c s e w hr hn hl ha hN0 hN1 hD0 hD1 hp h6
  exact mapply_7 A n c s e w hr hn hl ha hN0 hN1 hD0 hD1 hp ⟨h0, h1, h2, h3, h4, h5, h6⟩
end Go.Proofs.YtbheoahpaidpmaaDoor
