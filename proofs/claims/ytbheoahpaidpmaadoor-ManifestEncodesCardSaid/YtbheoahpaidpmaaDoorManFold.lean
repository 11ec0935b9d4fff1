/-
  manifest.Fold.
-/
import Derived.Test.YtbheoahpaidpmaaDoorManArg
namespace Go.Proofs.YtbheoahpaidpmaaDoor
open Go Go.RowKit

set_option linter.unusedSimpArgs false in
set_option maxRecDepth 100000 in
set_option maxHeartbeats 4000000 in
theorem mfold_any (A : Option Addr) (n c : Nat) (l : List Ed) (w : World) (hr : Rd w 4 A n (l.flatMap edCells)) (hn : l.length = n) (hl : n ≤ 100000) (hp : Pow w) :
    Calls Tryd.prog 9 #[.slice A n c] w (FdAt (folds l) w.heap.size w) := by
  obtain ⟨B, hB⟩ : ∃ B, w.heap.size = B := ⟨_, rfl⟩
  obtain ⟨w0, hw0, hs0, hb0, k0, k1⟩ : ∃ w0, (w.alloc (.cells z7 25)).alloc (.cells z7 25) = w0 ∧ w0.heap.size = B + 2 ∧ Below B w w0
      ∧ w0.heap[B]? = some (.cells z7 25 (0, 0)) ∧ w0.heap[B + 1]? = some (.cells z7 25 (0, 0)) := by
    have n1 := heap_alloc_new w (.cells z7 25)
    have n2 := heap_alloc_new (w.alloc (.cells z7 25)) (.cells z7 25)
    simp only [World.size_alloc, hB, Nat.add_assoc, Nat.reduceAdd] at n1 n2
    refine ⟨_, rfl, by simp [hB], ?_, ?_, n2⟩
    · subst hB
      exact ((Below.refl _ _).alloc (Nat.le_refl _) _).alloc (by simp) _
    · exact (Lib.alloc_old _ _ _ (by simp; omega)).trans n1
  have HR := Lib.hid hr
  have HN := Lib.hid hn
  have HP := Lib.hid hp
  have HB := Lib.hid hB
  have HB0 := Lib.hid hb0
  have K0 := Lib.hid k0
  have K1 := Lib.hid k1
  clear hr hn hp hb0 k0 k1
  go_enter Tryd.func9, Tryd.ntmps9
  go_wp2_with fail
  try simp only [hw0]
  clear hw0
  go_loopw [12] (fun ix wr => ∃ (i : Nat) (As : Option Addr) (m cs : Nat) (s : St), ix = .int .i64 i ∧ i ≤ n ∧ OkFor s i ∧ folds l = foldS s (l.drop i) i ∧ wr.heap[B]? = some (.cells z7 25 (0, 0)) ∧ wr.heap[B + 1]? = some (.cells (stC As m cs s) 25 (0, 0)) ∧ PAt (B + 2) As m s.Parts wr ∧ Below B w wr) (fun ix _ => n - (intOf ix).toNat)
  case atStart => exact ⟨0, none, 0, 0, st0, rfl, by omega, OkFor.zero 0, by rw [List.drop_zero]; rfl, K0.out, K1.out, PAt.nil _ _, HB0.out⟩
  case round =>
    obtain ⟨i, As, m, cs, s, rfl, hi, hok, hfo, k0, k1, hp1, hb1⟩ := hrel
    by_cases hlt : i < n
    · have hk1 : (i : Int) < n := by omega
      have hlt' : i < l.length := by have := HN.out; omega
      have hbw : Below w.heap.size w wr := by rw [HB.out]; exact hb1
      obtain ⟨gb, off, rfl, hgb, s0, s1, s2, s3⟩ := ed_at (HR.out.below hbw) hlt'
      have hdr : l.drop i = l[i] :: l.drop (i + 1) := List.drop_eq_getElem_cons hlt'
      have Hdr := Lib.hid hdr
      have Hfo := Lib.hid hfo
      have Hok := Lib.hid hok
      obtain ⟨e, he⟩ : ∃ e, l[i] = e := ⟨_, rfl⟩
      rw [he] at s0 s1 s2 s3 Hdr
      obtain ⟨b4, hb4⟩ : ∃ b4, wr.heap.size = b4 := ⟨_, rfl⟩
      have hsz : B + 2 ≤ b4 := by
        have := (Array.getElem?_eq_some_iff.1 k1).1
        omega
      obtain ⟨w4, hw4, hs4, q0, q1, q4, hp4, hbb4, f0, f1, f2, f3⟩ : ∃ w4, wr.alloc (.cells #[.int .i64 e.Kind, .int .i64 e.Day, .int .i64 e.Layout, .int .i64 e.At] 47) = w4 ∧ w4.heap.size = b4 + 1 ∧ w4.heap[B]? = some (.cells z7 25 (0, 0)) ∧ w4.heap[B + 1]? = some (.cells (stC As m cs s) 25 (0, 0)) ∧ w4.heap[b4]? = some (.cells (edC e) 47 (0, 0)) ∧ PAt (B + 2) As m s.Parts w4 ∧ Below B w w4 ∧
          w4.cell? ⟨gb, off + i * 4, none⟩ = some (.int .i64 e.Kind) ∧ w4.cell? ⟨gb, off + i * 4 + 1, none⟩ = some (.int .i64 e.Day) ∧ w4.cell? ⟨gb, off + i * 4 + 2, none⟩ = some (.int .i64 e.Layout) ∧ w4.cell? ⟨gb, off + i * 4 + 3, none⟩ = some (.int .i64 e.At) := by
        have hb := Below.one wr (.cells #[.int .i64 e.Kind, .int .i64 e.Day, .int .i64 e.Layout, .int .i64 e.At] 47)
        exact ⟨_, rfl, by simp [hb4], (hb.block B (by omega)).trans k0, (hb.block (B + 1) (by omega)).trans k1, by rw [← hb4]; exact heap_alloc_new _ _, hp1.below hb, hb1.trans (hb.mono (by omega)), (hb.cell hgb).trans s0, (hb.cell hgb).trans s1, (hb.cell hgb).trans s2, (hb.cell hgb).trans s3⟩
      obtain ⟨P, N, Q, O, D, T, X⟩ := s
      have HPA := Lib.hid hp4
      have HBW := Lib.hid hbb4
      have HQ0 := Lib.hid q0
      have HQ1 := Lib.hid q1
      have HQ4 := Lib.hid q4
      obtain ⟨a0, a1, a2, a3, a4, a5, a6, za⟩ := seven q1
      have za0 := za 0
      have za1 := za 1
      have za2 := za 2
      have za3 := za 3
      have za4 := za 4
      have za5 := za 5
      have za6 := za 6
      clear za
      obtain ⟨e0, e1, e2, e3, -⟩ := four q4
      have HAP := mapply_any As m cs ⟨P, N, Q, O, D, T, X⟩ e w4 hp4.rd hp4.len (by have := Hok.out.len; have := hp4.len; simp only at *; omega) Hok.out.ok.asc Hok.out.ok.n0 Hok.out.ok.n1 Hok.out.ok.done0 Hok.out.ok.done1 (HP.out.below (HB.out ▸ hbb4))
      unfold stVal edVal at HAP
      simp only [hs4] at HAP
      have HA := Lib.hid HAP
      have Hgb := Lib.hid hgb
      clear HAP hdr hfo hok he hp1 hb1 k0 hlt' hbw k1 hp4 hbb4 q0 q1 q4 hgb
      go_wp2_with fail
      try simp only [hw4]
      clear a0 a1 a2 a3 a4 a5 a6 za0 za1 za2 za3 za4 za5 za6
      clear hw4 e0 e1 e2 e3 f0 f1 f2 f3 s0 s1 s2 s3
      refine HA.out.mono ?_
      rintro e5 w5 ⟨A1, n1, c1, rfl, hp5, hb5⟩
      have hk5 : B + 3 ≤ w5.heap.size := by have := hb5.size; omega
      have k0 := (hb5.block B (by omega)).trans HQ0.out
      have k1 := (hb5.block (B + 1) (by omega)).trans HQ1.out
      have hpa5 := HPA.out.below (hs4.symm ▸ hb5)
      have hbw5 := HBW.out.trans (hb5.mono (by omega))
      have hb6 := Below.one w5 (.cells (stC A1 n1 c1 (appV ⟨P, N, Q, O, D, T, X⟩ e).1) 25)
      obtain ⟨w6, hw6, hs6, hb56, q0, q1, hpa6, hp6, hbw6⟩ : ∃ w6, w5.alloc (.cells (stC A1 n1 c1 (appV ⟨P, N, Q, O, D, T, X⟩ e).1) 25) = w6 ∧ B + 3 ≤ w6.heap.size ∧ Below w5.heap.size w5 w6 ∧ w6.heap[B]? = some (.cells z7 25 (0, 0)) ∧ w6.heap[B + 1]? = some (.cells (stC As m cs ⟨P, N, Q, O, D, T, X⟩) 25 (0, 0)) ∧ PAt (B + 2) As m P w6 ∧ PAt (B + 2) A1 n1 (appV ⟨P, N, Q, O, D, T, X⟩ e).1.Parts w6 ∧ Below B w w6 :=
        ⟨_, rfl, by simp; omega, hb6, (hb6.block B (by omega)).trans k0, (hb6.block (B + 1) (by omega)).trans k1, hpa5.below hb6, (hp5.below hb6).mono (by omega), hbw5.trans (hb6.mono (by omega))⟩
      obtain ⟨b5, hb5'⟩ : ∃ b5, w5.heap.size = b5 := ⟨_, rfl⟩
      have g5 : w6.heap[b5]? = some (.cells (stC A1 n1 c1 (appV ⟨P, N, Q, O, D, T, X⟩ e).1) 25 (0, 0)) := by rw [← hw6, ← hb5']; exact heap_alloc_new _ _
      cases hap : applyS ⟨P, N, Q, O, D, T, X⟩ e with
      | none =>
        rw [appV_none hap] at hw6 hp6 g5 ⊢
        have HF := Lib.hid (show folds l = (⟨P, N, Q, O, D, T, X⟩, i + 1, 170) by rw [Hfo.out, Hdr.out]; exact foldS_step_no hap)
        unfold stVal st0
        unfold st0 at hw6
        simp only at hw6 ⊢
        have HPA6 := Lib.hid hpa6
        have HBW6 := Lib.hid hbw6
        have m1 : IntKind.i64.wrap ((i : Int) + 1) = (i : Int) + 1 := by rw [IntKind.wrap_i64]; omega
        obtain ⟨r0, r1, r2, r3, r4, r5, r6, zr⟩ := seven q0
        have zr0 := zr 0
        have zr1 := zr 1
        have zr2 := zr 2
        have zr3 := zr 3
        have zr4 := zr 4
        have zr5 := zr 5
        have zr6 := zr 6
        clear zr
        obtain ⟨a0, a1, a2, a3, a4, a5, a6, za⟩ := seven q1
        have za0 := za 0
        have za1 := za 1
        have za2 := za 2
        have za3 := za 3
        have za4 := za 4
        have za5 := za 5
        have za6 := za 6
        clear za
        unfold st0 at g5
        obtain ⟨t0, t1, t2, t3, t4, t5, t6, zt⟩ := seven g5
        have zt0 := zt 0
        have zt1 := zt 1
        have zt2 := zt 2
        have zt3 := zt 3
        have zt4 := zt 4
        have zt5 := zt 5
        have zt6 := zt 6
        clear zt
        have HB6 := Lib.hid hb56
        have HPA5 := Lib.hid hpa5
        have hk6 : B + 3 ≤ b5 := by omega
        clear q0 q1 hpa5 hbw5 hb6 hb56 hp5 hb5 k0 k1 hpa6 hp6 hbw6 g5 hap
        go_wp2_with fail
        refine bodyPost_ret (v := .tuple #[stVal As m cs ⟨P, N, Q, O, D, T, X⟩, .int .i64 ((i : Int) + 1), .int .i64 170]) (by rw [results_cell_tmp2 rfl]; go_simp; rfl) rfl ⟨As, m, cs, by rw [HF.out]; rfl, ?_, ?_⟩
        · rw [HF.out]
          exact ((((((((HPA5.out.below ((((((HB6.out.setCell (p := ⟨b5, 1, none⟩) (by first | simp; done | (simp; omega)) _).setCell (p := ⟨b5, 2, none⟩) (by first | simp; done | (simp; omega)) _).setCell (p := ⟨b5, 3, none⟩) (by first | simp; done | (simp; omega)) _).setCell (p := ⟨b5, 4, none⟩) (by first | simp; done | (simp; omega)) _).setCell (p := ⟨b5, 5, none⟩) (by first | simp; done | (simp; omega)) _).setCell (p := ⟨b5, 6, none⟩) (by first | simp; done | (simp; omega)) _)).set (b := B) (j := 0) (by omega) _).set (b := B) (j := 1) (by omega) _).set (b := B) (j := 2) (by omega) _).set (b := B) (j := 3) (by omega) _).set (b := B) (j := 4) (by omega) _).set (b := B) (j := 5) (by omega) _).set (b := B) (j := 6) (by omega) _).mono (by omega)
        · exact (((((((((((((HBW6.out.setCell (p := ⟨b5, 1, none⟩) (by first | simp; done | (simp; omega)) _).setCell (p := ⟨b5, 2, none⟩) (by first | simp; done | (simp; omega)) _).setCell (p := ⟨b5, 3, none⟩) (by first | simp; done | (simp; omega)) _).setCell (p := ⟨b5, 4, none⟩) (by first | simp; done | (simp; omega)) _).setCell (p := ⟨b5, 5, none⟩) (by first | simp; done | (simp; omega)) _).setCell (p := ⟨b5, 6, none⟩) (by first | simp; done | (simp; omega)) _).setCell (p := ⟨B, 0, none⟩) (by first | simp; done | (simp; omega)) _).setCell (p := ⟨B, 1, none⟩) (by first | simp; done | (simp; omega)) _).setCell (p := ⟨B, 2, none⟩) (by first | simp; done | (simp; omega)) _).setCell (p := ⟨B, 3, none⟩) (by first | simp; done | (simp; omega)) _).setCell (p := ⟨B, 4, none⟩) (by first | simp; done | (simp; omega)) _).setCell (p := ⟨B, 5, none⟩) (by first | simp; done | (simp; omega)) _).setCell (p := ⟨B, 6, none⟩) (by first | simp; done | (simp; omega)) _)
      | some t =>
        rw [appV_some hap] at hw6 hp6 g5 ⊢
        have HF := Lib.hid (show folds l = foldS t (l.drop (i + 1)) (i + 1) by rw [Hfo.out, Hdr.out]; exact foldS_step_ok hap)
        have HT := Lib.hid (Hok.out.app hap)
        obtain ⟨P', N', Q', O', D', T', X'⟩ := t
        unfold stVal
        simp only at hw6 ⊢
        have HP6 := Lib.hid hp6
        have HBW6 := Lib.hid hbw6
        have m1 : IntKind.i64.wrap ((i : Int) + 1) = (i : Int) + 1 := by rw [IntKind.wrap_i64]; omega
        obtain ⟨r0, r1, r2, r3, r4, r5, r6, zr⟩ := seven q0
        have zr0 := zr 0
        have zr1 := zr 1
        have zr2 := zr 2
        have zr3 := zr 3
        have zr4 := zr 4
        have zr5 := zr 5
        have zr6 := zr 6
        clear zr
        obtain ⟨a0, a1, a2, a3, a4, a5, a6, za⟩ := seven q1
        have za0 := za 0
        have za1 := za 1
        have za2 := za 2
        have za3 := za 3
        have za4 := za 4
        have za5 := za 5
        have za6 := za 6
        clear za
        obtain ⟨t0, t1, t2, t3, t4, t5, t6, zt⟩ := seven g5
        have zt0 := zt 0
        have zt1 := zt 1
        have zt2 := zt 2
        have zt3 := zt 3
        have zt4 := zt 4
        have zt5 := zt 5
        have zt6 := zt 6
        clear zt
        have Q0 := Lib.hid q0
        have Q1 := Lib.hid q1
        clear q0 q1 hpa5 hbw5 hb6 hb56 hp5 hb5 k0 k1 hpa6 hp6 hbw6 g5 hap
        go_wp2_with fail
        go_roundw
        case rel =>
          refine ⟨i + 1, A1, n1, c1, ⟨P', N', Q', O', D', T', X'⟩, by go_num, by omega, HT.out, HF.out, ?_, ?_, ?_, ?_⟩
          · exact (Below.heap_setCell _ _ _ _ (by simp)).trans ((Below.heap_setCell _ _ _ _ (by simp)).trans ((Below.heap_setCell _ _ _ _ (by simp)).trans ((Below.heap_setCell _ _ _ _ (by simp)).trans ((Below.heap_setCell _ _ _ _ (by simp)).trans ((Below.heap_setCell _ _ _ _ (by simp)).trans ((Below.heap_setCell _ _ _ _ (by simp)).trans (Q0.out)))))))
          · simp [World.setCell, Array.getElem?_modify, Q1.out]
          · exact (((((((HP6.out.set (b := B + 1) (j := 0) (by omega) _).set (b := B + 1) (j := 1) (by omega) _).set (b := B + 1) (j := 2) (by omega) _).set (b := B + 1) (j := 3) (by omega) _).set (b := B + 1) (j := 4) (by omega) _).set (b := B + 1) (j := 5) (by omega) _).set (b := B + 1) (j := 6) (by omega) _).mono (Nat.le_refl _)
          · exact (((((((HBW6.out.setCell (p := ⟨B + 1, 0, none⟩) (by first | simp; done | (simp; omega)) _).setCell (p := ⟨B + 1, 1, none⟩) (by first | simp; done | (simp; omega)) _).setCell (p := ⟨B + 1, 2, none⟩) (by first | simp; done | (simp; omega)) _).setCell (p := ⟨B + 1, 3, none⟩) (by first | simp; done | (simp; omega)) _).setCell (p := ⟨B + 1, 4, none⟩) (by first | simp; done | (simp; omega)) _).setCell (p := ⟨B + 1, 5, none⟩) (by first | simp; done | (simp; omega)) _).setCell (p := ⟨B + 1, 6, none⟩) (by first | simp; done | (simp; omega)) _)
        case measure => simp [intOf]; omega
    · obtain rfl : i = n := by omega
      have HF := Lib.hid (show folds l = (s, 0, 0) by rw [hfo, List.drop_of_length_le (by rw [HN.out]; exact Nat.le_refl _)]; rfl)
      obtain ⟨P, N, Q, O, D, T, X⟩ := s
      have HPA := Lib.hid hp1
      have HBW := Lib.hid hb1
      obtain ⟨r0, r1, r2, r3, r4, r5, r6, zr⟩ := seven k0
      have zr0 := zr 0
      have zr1 := zr 1
      have zr2 := zr 2
      have zr3 := zr 3
      have zr4 := zr 4
      have zr5 := zr 5
      have zr6 := zr 6
      clear zr
      obtain ⟨a0, a1, a2, a3, a4, a5, a6, za⟩ := seven k1
      have za0 := za 0
      have za1 := za 1
      have za2 := za 2
      have za3 := za 3
      have za4 := za 4
      have za5 := za 5
      have za6 := za 6
      clear za
      clear k0 k1 hfo hok hp1 hb1
      go_wp2_with fail
      refine bodyPost_ret (v := .tuple #[stVal As m cs ⟨P, N, Q, O, D, T, X⟩, .int .i64 0, .int .i64 0]) (by rw [results_cell_tmp2 rfl]; go_simp; rfl) rfl ⟨As, m, cs, by rw [HF.out]; rfl, ?_, ?_⟩
      · rw [HF.out]
        exact (((((((HPA.out.set (b := B) (j := 0) (by omega) _).set (b := B) (j := 1) (by omega) _).set (b := B) (j := 2) (by omega) _).set (b := B) (j := 3) (by omega) _).set (b := B) (j := 4) (by omega) _).set (b := B) (j := 5) (by omega) _).set (b := B) (j := 6) (by omega) _).mono (by omega)
      · exact (((((((HBW.out.setCell (p := ⟨B, 0, none⟩) (by first | simp; done | (simp; omega)) _).setCell (p := ⟨B, 1, none⟩) (by first | simp; done | (simp; omega)) _).setCell (p := ⟨B, 2, none⟩) (by first | simp; done | (simp; omega)) _).setCell (p := ⟨B, 3, none⟩) (by first | simp; done | (simp; omega)) _).setCell (p := ⟨B, 4, none⟩) (by first | simp; done | (simp; omega)) _).setCell (p := ⟨B, 5, none⟩) (by first | simp; done | (simp; omega)) _).setCell (p := ⟨B, 6, none⟩) (by first | simp; done | (simp; omega)) _)
end Go.Proofs.YtbheoahpaidpmaaDoor
