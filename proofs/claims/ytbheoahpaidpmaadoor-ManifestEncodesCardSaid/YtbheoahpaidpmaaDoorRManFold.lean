/-
  The document's Fold.
-/
import Derived.Test.YtbheoahpaidpmaaDoorManArg
import Derived.Test.YtbheoahpaidpmaaDoorRManG
import Derived.StillTailTactics
namespace Go.Proofs.YtbheoahpaidpmaaDoor
open Go Go.RowKit

set_option linter.unusedSimpArgs false in
set_option maxRecDepth 100000 in
set_option maxHeartbeats 4000000 in
theorem rfold_any (A : Option Addr) (n c : Nat) (l : List Ed) (w : World) (hr : Rd w 4 A n (l.flatMap edCells)) (hn : l.length = n) (hl : n ≤ 100000) :
    Calls Tryd.prog 10 #[.slice A n c] w (FdAt (folds l) w.heap.size w) := by
  obtain ⟨B, hB⟩ : ∃ B, w.heap.size = B := ⟨_, rfl⟩
  obtain ⟨w0, hw0, hs0, hb0, k0, k1⟩ : ∃ w0, (w.alloc (.cells z7 31)).alloc (.cells z7 31) = w0 ∧ w0.heap.size = B + 2 ∧ Below B w w0
      ∧ w0.heap[B]? = some (.cells z7 31 (0, 0)) ∧ w0.heap[B + 1]? = some (.cells z7 31 (0, 0)) := by
    have n1 := heap_alloc_new w (.cells z7 31)
    have n2 := heap_alloc_new (w.alloc (.cells z7 31)) (.cells z7 31)
    simp only [World.size_alloc, hB, Nat.add_assoc, Nat.reduceAdd] at n1 n2
    refine ⟨_, rfl, by simp [hB], ?_, ?_, n2⟩
    · subst hB
      exact ((Below.refl _ _).alloc (Nat.le_refl _) _).alloc (by simp) _
    · exact (Lib.alloc_old _ _ _ (by simp; omega)).trans n1
  have HR := Lib.hid hr
  have HN := Lib.hid hn
  have HB := Lib.hid hB
  have HB0 := Lib.hid hb0
  have K0 := Lib.hid k0
  have K1 := Lib.hid k1
  have HW0 := Lib.hid hw0
  clear hr hn hb0 k0 k1 hw0
  go_enter Tryd.func10, Tryd.ntmps10
  go_wp2_with fail
  try simp only [HW0.out]
  go_loopw [6] (fun ix wr => ∃ (i : Nat) (As : Option Addr) (m cs : Nat) (s : St), ix = .int .i64 i ∧ i ≤ n ∧ OkFor s i ∧ folds l = foldS s (l.drop i) i ∧ wr.heap[B]? = some (.cells z7 31 (0, 0)) ∧ wr.heap[B + 1]? = some (.cells (stC As m cs s) 31 (0, 0)) ∧ PAt (B + 2) As m s.Parts wr ∧ Below B w wr) (fun ix _ => n - (intOf ix).toNat)
  case atStart => exact ⟨0, none, 0, 0, st0, rfl, by omega, OkFor.zero 0, by rw [List.drop_zero]; rfl, K0.out, K1.out, PAt.nil _ _, HB0.out⟩
  case round =>
    obtain ⟨i, As, m, cs, s, rfl, hi, hok, hfo, k0, k1, hp1, hb1⟩ := hrel
    by_cases hlt : i < n
    · have hk1 : (i : Int) < n := by omega
      have hlt' : i < l.length := by have := HN.out; omega
      have hbw : Below w.heap.size w wr := by rw [HB.out]; exact hb1
      obtain ⟨gb, off, rfl, hgb, s0, s1, s2, s3⟩ := ed_at (HR.out.below hbw) hlt'
      have hdr : l.drop i = l[i] :: l.drop (i + 1) := List.drop_eq_getElem_cons hlt'
      have Hdr := Lib.hid hdr
      have Hfo := Lib.hid hfo
      have Hok := Lib.hid hok
      obtain ⟨e, he⟩ : ∃ e, l[i] = e := ⟨_, rfl⟩
      rw [he] at s0 s1 s2 s3 Hdr
      obtain ⟨b4, hb4⟩ : ∃ b4, wr.heap.size = b4 := ⟨_, rfl⟩
      have hsz : B + 2 ≤ b4 := by
        have := (Array.getElem?_eq_some_iff.1 k1).1
        omega
      obtain ⟨P, N, Q, O, D, T, X⟩ := s
      obtain ⟨V, hV⟩ : ∃ V, appV ⟨P, N, Q, O, D, T, X⟩ e = V := ⟨_, rfl⟩
      have HV := Lib.hid hV
      have HPA := Lib.hid hp1
      have HBW := Lib.hid hb1
      have HQ0 := Lib.hid k0
      have HQ1 := Lib.hid k1
      obtain ⟨a0, a1, a2, a3, a4, a5, a6, za⟩ := seven k1
      have za0 := za 0
      have za1 := za 1
      have za2 := za 2
      have za3 := za 3
      have za4 := za 4
      have za5 := za 5
      have za6 := za 6
      clear za
      have HAP := fun (w' : World) (h : PAt (B + 2) As m P w') => rapply_any As m cs ⟨P, N, Q, O, D, T, X⟩ e w' h.rd h.len (by have := Hok.out.len; have := h.len; simp only at *; omega) Hok.out.ok.n0 Hok.out.ok.done0 Hok.out.ok.done1
      rw [hV] at HAP
      obtain ⟨⟨P', N', Q', O', D', T', X'⟩, v9⟩ := V
      unfold stVal edVal at HAP
      simp only at HAP
      have HA := Lib.hid HAP
      have Hgb := Lib.hid hgb
      clear HAP hdr hfo hok he hp1 hb1 k0 hlt' hbw k1 hgb hV
      go_wp2_with fail
      refine wp_region_held_drew (S := fun w' => w'.cell? ⟨B + 1, 0, none⟩ = some (.slice As m cs) ∧ w'.cell? ⟨B + 1, 1, none⟩ = some (.int .i64 N) ∧ w'.cell? ⟨B + 1, 2, none⟩ = some (.int .i64 Q) ∧ w'.cell? ⟨B + 1, 3, none⟩ = some (.bool O) ∧ w'.cell? ⟨B + 1, 4, none⟩ = some (.int .i64 D) ∧ w'.cell? ⟨B + 1, 5, none⟩ = some (.int .i64 T) ∧ w'.cell? ⟨B + 1, 6, none⟩ = some (.int .i64 X) ∧ w'.cell? ⟨gb, off + i * 4, none⟩ = some (.int .i64 e.Kind) ∧ w'.cell? ⟨gb, off + i * 4 + 1, none⟩ = some (.int .i64 e.Day) ∧ w'.cell? ⟨gb, off + i * 4 + 2, none⟩ = some (.int .i64 e.Layout) ∧ w'.cell? ⟨gb, off + i * 4 + 3, none⟩ = some (.int .i64 e.At)) (by kernel_rfl) ?_ (fun hHeld => ?_)
      · go_keep
      refine wpAnyH_take (i := 0) (oi := _) (v := ?_) (by simp only [List.getElem?_toArray, List.getElem?_cons_succ, List.getElem?_cons_zero]; rfl) (by kernel_rfl) (by kernel_rfl) (by kernel_rfl) (by exact fun _ _ _ h => h) (Or.inl ⟨by rfl, ?_⟩) (by assumption) ?_
      rotate_left
      · (intro w hSw; (try dsimp only at hSw); go_simp) <;> with_reducible rfl
      try simp only [Act.put, List.setIfInBounds_toArray, List.set_cons_zero, List.set_cons_succ]
      refine wpAnyH_take (i := 1) (oi := _) (v := ?_) (by simp only [List.getElem?_toArray, List.getElem?_cons_succ, List.getElem?_cons_zero]; rfl) (by kernel_rfl) (by kernel_rfl) (by kernel_rfl) (by exact fun _ _ _ h => h) (Or.inl ⟨by rfl, ?_⟩) (by assumption) ?_
      rotate_left
      · (intro w hSw; (try dsimp only at hSw); go_simp) <;> with_reducible rfl
      try simp only [Act.put, List.setIfInBounds_toArray, List.set_cons_zero, List.set_cons_succ]
      refine wpAnyH_take (i := 2) (oi := _) (v := ?_) (by simp only [List.getElem?_toArray, List.getElem?_cons_succ, List.getElem?_cons_zero]; rfl) (by kernel_rfl) (by kernel_rfl) (by kernel_rfl) (by exact fun _ _ _ h => h) (Or.inl ⟨by rfl, ?_⟩) (by assumption) ?_
      rotate_left
      · (intro w hSw; (try dsimp only at hSw); go_simp) <;> with_reducible rfl
      try simp only [Act.put, List.setIfInBounds_toArray, List.set_cons_zero, List.set_cons_succ]
      refine wpAnyH_take (i := 3) (oi := _) (v := ?_) (by simp only [List.getElem?_toArray, List.getElem?_cons_succ, List.getElem?_cons_zero]; rfl) (by kernel_rfl) (by kernel_rfl) (by kernel_rfl) (by exact fun _ _ _ h => h) (Or.inl ⟨by rfl, ?_⟩) (by assumption) ?_
      rotate_left
      · (intro w hSw; (try dsimp only at hSw); go_simp) <;> with_reducible rfl
      try simp only [Act.put, List.setIfInBounds_toArray, List.set_cons_zero, List.set_cons_succ]
      refine wpAnyH_take (i := 4) (oi := _) (v := ?_) (by simp only [List.getElem?_toArray, List.getElem?_cons_succ, List.getElem?_cons_zero]; rfl) (by kernel_rfl) (by kernel_rfl) (by kernel_rfl) (by exact fun _ _ _ h => h) (Or.inl ⟨by rfl, ?_⟩) (by assumption) ?_
      rotate_left
      · (intro w hSw; (try dsimp only at hSw); go_simp) <;> with_reducible rfl
      try simp only [Act.put, List.setIfInBounds_toArray, List.set_cons_zero, List.set_cons_succ]
      refine wpAnyH_ready (rs := [5, 9]) (by kernel_rfl) (by simp) ?_
      refine (AllReadyH.cons (o := _) (by simp only [List.getElem?_toArray, List.getElem?_cons_succ, List.getElem?_cons_zero]; rfl) (fun K hK => ?_) (AllReadyH.cons (o := _) (by simp only [List.getElem?_toArray, List.getElem?_cons_succ, List.getElem?_cons_zero]; rfl) (fun K hK => ?_) AllReadyH.nil))
      · go_simp
        refine (HA.out _ HPA.out.drew).mono ?_
        rintro e5 w5 ⟨A1, n1, c1, rfl, hp5, hb5⟩
        unfold stVal
        simp only []
        go_wp2_with fail
        refine hK.out _ _ ?_ (fun hHeld => ?_)
        · exact ⟨keepc hb5 hHeld.1, keepc hb5 hHeld.2.1, keepc hb5 hHeld.2.2.1, keepc hb5 hHeld.2.2.2.1, keepc hb5 hHeld.2.2.2.2.1, keepc hb5 hHeld.2.2.2.2.2.1, keepc hb5 hHeld.2.2.2.2.2.2.1, keepc hb5 hHeld.2.2.2.2.2.2.2.1, keepc hb5 hHeld.2.2.2.2.2.2.2.2.1, keepc hb5 hHeld.2.2.2.2.2.2.2.2.2.1, keepc hb5 hHeld.2.2.2.2.2.2.2.2.2.2⟩
        clear hK K
        try simp only [Act.put, List.setIfInBounds_toArray, List.set_cons_zero, List.set_cons_succ]
        refine wpAnyH_take (i := 6) (oi := _) (v := ?_) (by simp only [List.getElem?_toArray, List.getElem?_cons_succ, List.getElem?_cons_zero]; rfl) (by kernel_rfl) (by kernel_rfl) (by kernel_rfl) (by exact fun _ _ _ h => h) (Or.inl ⟨by rfl, ?_⟩) (by assumption) ?_
        rotate_left
        · (intro w hSw; (try dsimp only at hSw); go_simp) <;> with_reducible rfl
        try simp only [Act.put, List.setIfInBounds_toArray, List.set_cons_zero, List.set_cons_succ]
        refine wpAnyH_take (i := 7) (oi := _) (v := ?_) (by simp only [List.getElem?_toArray, List.getElem?_cons_succ, List.getElem?_cons_zero]; rfl) (by kernel_rfl) (by kernel_rfl) (by kernel_rfl) (by exact fun _ _ _ h => h) (Or.inl ⟨by rfl, ?_⟩) (by assumption) ?_
        rotate_left
        · (intro w hSw; (try dsimp only at hSw); go_simp) <;> with_reducible rfl
        try simp only [Act.put, List.setIfInBounds_toArray, List.set_cons_zero, List.set_cons_succ]
        refine wpAnyH_take (i := 8) (oi := _) (v := ?_) (by simp only [List.getElem?_toArray, List.getElem?_cons_succ, List.getElem?_cons_zero]; rfl) (by kernel_rfl) (by kernel_rfl) (by kernel_rfl) (by exact fun _ _ _ h => h) (Or.inl ⟨by rfl, ?_⟩) (by assumption) ?_
        rotate_left
        · (intro w hSw; (try dsimp only at hSw); go_simp) <;> with_reducible rfl
        try simp only [Act.put, List.setIfInBounds_toArray, List.set_cons_zero, List.set_cons_succ]
        refine wpAnyH_ready (rs := [9]) (by kernel_rfl) (by simp) ?_
        refine (AllReadyH.cons (o := _) (by simp only [List.getElem?_toArray, List.getElem?_cons_succ, List.getElem?_cons_zero]; rfl) (fun K hK => ?_) AllReadyH.nil)
        go_simp
        refine hK.out _ _ ?_ (fun hHeld => ?_)
        · exact ⟨keepc (Below.one _ _) hHeld.1, keepc (Below.one _ _) hHeld.2.1, keepc (Below.one _ _) hHeld.2.2.1, keepc (Below.one _ _) hHeld.2.2.2.1, keepc (Below.one _ _) hHeld.2.2.2.2.1, keepc (Below.one _ _) hHeld.2.2.2.2.2.1, keepc (Below.one _ _) hHeld.2.2.2.2.2.2.1, keepc (Below.one _ _) hHeld.2.2.2.2.2.2.2.1, keepc (Below.one _ _) hHeld.2.2.2.2.2.2.2.2.1, keepc (Below.one _ _) hHeld.2.2.2.2.2.2.2.2.2.1, keepc (Below.one _ _) hHeld.2.2.2.2.2.2.2.2.2.2⟩
        clear hK K
        try simp only [Act.put, List.setIfInBounds_toArray, List.set_cons_zero, List.set_cons_succ]
        refine wpAnyH_ready (rs := [10]) (by kernel_rfl) (by simp) ?_
        refine (AllReadyH.cons (o := _) (by simp only [List.getElem?_toArray, List.getElem?_cons_succ, List.getElem?_cons_zero]; rfl) (fun K hK => ?_) AllReadyH.nil)
        go_simp
        refine hK.out _ _ ?_ (fun hHeld => ?_)
        · go_keep
        clear hK K
        try simp only [Act.put, List.setIfInBounds_toArray, List.set_cons_zero, List.set_cons_succ]
        refine wpAnyH_take (i := 11) (oi := _) (v := ?_) (by simp only [List.getElem?_toArray, List.getElem?_cons_succ, List.getElem?_cons_zero]; rfl) (by kernel_rfl) (by kernel_rfl) (by kernel_rfl) (by exact fun _ _ _ h => h) (Or.inl ⟨by rfl, ?_⟩) (by assumption) ?_
        rotate_left
        · (intro w hSw; (try dsimp only at hSw); go_simp) <;> with_reducible rfl
        try simp only [Act.put, List.setIfInBounds_toArray, List.set_cons_zero, List.set_cons_succ]
        refine wpAnyH_done (by kernel_rfl) ?_ _
        have hb : Below wr.heap.size wr w5 := hb5.drewl
        have hsz5 := hb.size
        have hb6 := Below.one w5 (.cells #[.slice A1 n1 c1, .int .i64 N', .int .i64 Q', .bool O', .int .i64 D', .int .i64 T', .int .i64 X'] 31)
        obtain ⟨b7, hb7⟩ : ∃ b7, w5.heap.size = b7 := ⟨_, rfl⟩
        obtain ⟨W, hW, q0, q1, q7, hpa, hpn, hbw⟩ : ∃ W, w5.alloc (.cells #[.slice A1 n1 c1, .int .i64 N', .int .i64 Q', .bool O', .int .i64 D', .int .i64 T', .int .i64 X'] 31) = W ∧ W.heap[B]? = some (.cells z7 31 (0, 0)) ∧ W.heap[B + 1]? = some (.cells (stC As m cs ⟨P, N, Q, O, D, T, X⟩) 31 (0, 0)) ∧ W.heap[b7]? = some (.cells (stC A1 n1 c1 ⟨P', N', Q', O', D', T', X'⟩) 31 (0, 0)) ∧ PAt (B + 2) As m P W ∧ PAt (B + 2) A1 n1 P' W ∧ Below B w W :=
          ⟨_, rfl, (hb6.block B (by omega)).trans ((hb.block B (by omega)).trans HQ0.out), (hb6.block (B + 1) (by omega)).trans ((hb.block (B + 1) (by omega)).trans HQ1.out), by rw [← hb7]; exact heap_alloc_new _ _, (HPA.out.below hb).below hb6, (hp5.below hb6).mono (by simp; omega), (HBW.out.trans (hb.mono (by omega))).trans (hb6.mono (by omega))⟩
        try simp only [hb7]
        simp only [hW]
        have HPA6 := Lib.hid hpa
        have HPN6 := Lib.hid hpn
        have HBW6 := Lib.hid hbw
        have Q0 := Lib.hid q0
        have Q1 := Lib.hid q1
        clear a0 a1 a2 a3 a4 a5 a6 za0 za1 za2 za3 za4 za5 za6
        obtain ⟨r0, r1, r2, r3, r4, r5, r6, zr⟩ := seven q0
        have zr0 := zr 0
        have zr1 := zr 1
        have zr2 := zr 2
        have zr3 := zr 3
        have zr4 := zr 4
        have zr5 := zr 5
        have zr6 := zr 6
        clear zr
        obtain ⟨a0, a1, a2, a3, a4, a5, a6, za⟩ := seven q1
        have za0 := za 0
        have za1 := za 1
        have za2 := za 2
        have za3 := za 3
        have za4 := za 4
        have za5 := za 5
        have za6 := za 6
        clear za
        obtain ⟨t0, t1, t2, t3, t4, t5, t6, zt⟩ := seven q7
        have zt0 := zt 0
        have zt1 := zt 1
        have zt2 := zt 2
        have zt3 := zt 3
        have zt4 := zt 4
        have zt5 := zt 5
        have zt6 := zt 6
        clear zt
        have m1 : IntKind.i64.wrap ((i : Int) + 1) = (i : Int) + 1 := by rw [IntKind.wrap_i64]; omega
        clear q0 q1 q7 hpa hpn hbw hb hp5 hb5 hHeld hW
        cases hap : applyS ⟨P, N, Q, O, D, T, X⟩ e with
        | none =>
          have HF := Lib.hid (show folds l = (⟨P, N, Q, O, D, T, X⟩, i + 1, 170) by rw [Hfo.out, Hdr.out]; exact foldS_step_no hap)
          obtain rfl : 170 = v9 := congrArg Prod.snd ((appV_none hap).symm.trans HV.out)
          clear hap
          go_wp2_with fail
          refine bodyPost_ret (v := .tuple #[stVal As m cs ⟨P, N, Q, O, D, T, X⟩, .int .i64 ((i : Int) + 1), .int .i64 170]) (by rw [results_cell_tmp2 rfl]; go_simp; rfl) rfl ⟨As, m, cs, by rw [HF.out]; rfl, ?_, ?_⟩
          · rw [HF.out]
            exact (((((((HPA6.out.set (b := B) (j := 0) (by omega) _).set (b := B) (j := 1) (by omega) _).set (b := B) (j := 2) (by omega) _).set (b := B) (j := 3) (by omega) _).set (b := B) (j := 4) (by omega) _).set (b := B) (j := 5) (by omega) _).set (b := B) (j := 6) (by omega) _).mono (by omega)
          · exact (((((((HBW6.out.setCell (p := ⟨B, 0, none⟩) (by first | simp; done | (simp; omega)) _).setCell (p := ⟨B, 1, none⟩) (by first | simp; done | (simp; omega)) _).setCell (p := ⟨B, 2, none⟩) (by first | simp; done | (simp; omega)) _).setCell (p := ⟨B, 3, none⟩) (by first | simp; done | (simp; omega)) _).setCell (p := ⟨B, 4, none⟩) (by first | simp; done | (simp; omega)) _).setCell (p := ⟨B, 5, none⟩) (by first | simp; done | (simp; omega)) _).setCell (p := ⟨B, 6, none⟩) (by first | simp; done | (simp; omega)) _)
        | some t =>
          have ht := (appV_some hap).symm.trans HV.out
          obtain rfl : 0 = v9 := congrArg Prod.snd ht
          obtain rfl : t = ⟨P', N', Q', O', D', T', X'⟩ := congrArg Prod.fst ht
          have HF := Lib.hid (show folds l = foldS ⟨P', N', Q', O', D', T', X'⟩ (l.drop (i + 1)) (i + 1) by rw [Hfo.out, Hdr.out]; exact foldS_step_ok hap)
          have HT := Lib.hid (Hok.out.app hap)
          clear hap ht
          go_wp2_with fail
          go_roundw
          case rel =>
            refine ⟨i + 1, A1, n1, c1, ⟨P', N', Q', O', D', T', X'⟩, by go_num, by omega, HT.out, HF.out, ?_, ?_, ?_, ?_⟩
            · exact (Below.heap_setCell _ _ _ _ (by simp)).trans ((Below.heap_setCell _ _ _ _ (by simp)).trans ((Below.heap_setCell _ _ _ _ (by simp)).trans ((Below.heap_setCell _ _ _ _ (by simp)).trans ((Below.heap_setCell _ _ _ _ (by simp)).trans ((Below.heap_setCell _ _ _ _ (by simp)).trans ((Below.heap_setCell _ _ _ _ (by simp)).trans (Q0.out)))))))
            · simp [World.setCell, Array.getElem?_modify, Q1.out]
            · exact (((((((HPN6.out.set (b := B + 1) (j := 0) (by omega) _).set (b := B + 1) (j := 1) (by omega) _).set (b := B + 1) (j := 2) (by omega) _).set (b := B + 1) (j := 3) (by omega) _).set (b := B + 1) (j := 4) (by omega) _).set (b := B + 1) (j := 5) (by omega) _).set (b := B + 1) (j := 6) (by omega) _).mono (Nat.le_refl _)
            · exact (((((((HBW6.out.setCell (p := ⟨B + 1, 0, none⟩) (by first | simp; done | (simp; omega)) _).setCell (p := ⟨B + 1, 1, none⟩) (by first | simp; done | (simp; omega)) _).setCell (p := ⟨B + 1, 2, none⟩) (by first | simp; done | (simp; omega)) _).setCell (p := ⟨B + 1, 3, none⟩) (by first | simp; done | (simp; omega)) _).setCell (p := ⟨B + 1, 4, none⟩) (by first | simp; done | (simp; omega)) _).setCell (p := ⟨B + 1, 5, none⟩) (by first | simp; done | (simp; omega)) _).setCell (p := ⟨B + 1, 6, none⟩) (by first | simp; done | (simp; omega)) _)
          case measure => simp [intOf]; omega

      · go_simp
        refine hK.out _ _ ?_ (fun hHeld => ?_)
        · exact ⟨keepc (Below.one _ _) hHeld.1, keepc (Below.one _ _) hHeld.2.1, keepc (Below.one _ _) hHeld.2.2.1, keepc (Below.one _ _) hHeld.2.2.2.1, keepc (Below.one _ _) hHeld.2.2.2.2.1, keepc (Below.one _ _) hHeld.2.2.2.2.2.1, keepc (Below.one _ _) hHeld.2.2.2.2.2.2.1, keepc (Below.one _ _) hHeld.2.2.2.2.2.2.2.1, keepc (Below.one _ _) hHeld.2.2.2.2.2.2.2.2.1, keepc (Below.one _ _) hHeld.2.2.2.2.2.2.2.2.2.1, keepc (Below.one _ _) hHeld.2.2.2.2.2.2.2.2.2.2⟩
        clear hK K
        try simp only [Act.put, List.setIfInBounds_toArray, List.set_cons_zero, List.set_cons_succ]
        refine wpAnyH_ready (rs := [5]) (by kernel_rfl) (by simp) ?_
        refine (AllReadyH.cons (o := _) (by simp only [List.getElem?_toArray, List.getElem?_cons_succ, List.getElem?_cons_zero]; rfl) (fun K hK => ?_) AllReadyH.nil)
        go_simp
        have HPB := HPA.out.drew.below (Below.one wr.drew (.cells z7 31))
        refine (HA.out _ HPB).mono ?_
        rintro e5 w5 ⟨A1, n1, c1, rfl, hp5, hb5⟩
        unfold stVal
        simp only []
        go_wp2_with fail
        refine hK.out _ _ ?_ (fun hHeld => ?_)
        · exact ⟨keepc hb5 hHeld.1, keepc hb5 hHeld.2.1, keepc hb5 hHeld.2.2.1, keepc hb5 hHeld.2.2.2.1, keepc hb5 hHeld.2.2.2.2.1, keepc hb5 hHeld.2.2.2.2.2.1, keepc hb5 hHeld.2.2.2.2.2.2.1, keepc hb5 hHeld.2.2.2.2.2.2.2.1, keepc hb5 hHeld.2.2.2.2.2.2.2.2.1, keepc hb5 hHeld.2.2.2.2.2.2.2.2.2.1, keepc hb5 hHeld.2.2.2.2.2.2.2.2.2.2⟩
        clear hK K
        try simp only [Act.put, List.setIfInBounds_toArray, List.set_cons_zero, List.set_cons_succ]
        refine wpAnyH_take (i := 6) (oi := _) (v := ?_) (by simp only [List.getElem?_toArray, List.getElem?_cons_succ, List.getElem?_cons_zero]; rfl) (by kernel_rfl) (by kernel_rfl) (by kernel_rfl) (by exact fun _ _ _ h => h) (Or.inl ⟨by rfl, ?_⟩) (by assumption) ?_
        rotate_left
        · (intro w hSw; (try dsimp only at hSw); go_simp) <;> with_reducible rfl
        try simp only [Act.put, List.setIfInBounds_toArray, List.set_cons_zero, List.set_cons_succ]
        refine wpAnyH_take (i := 7) (oi := _) (v := ?_) (by simp only [List.getElem?_toArray, List.getElem?_cons_succ, List.getElem?_cons_zero]; rfl) (by kernel_rfl) (by kernel_rfl) (by kernel_rfl) (by exact fun _ _ _ h => h) (Or.inl ⟨by rfl, ?_⟩) (by assumption) ?_
        rotate_left
        · (intro w hSw; (try dsimp only at hSw); go_simp) <;> with_reducible rfl
        try simp only [Act.put, List.setIfInBounds_toArray, List.set_cons_zero, List.set_cons_succ]
        refine wpAnyH_take (i := 8) (oi := _) (v := ?_) (by simp only [List.getElem?_toArray, List.getElem?_cons_succ, List.getElem?_cons_zero]; rfl) (by kernel_rfl) (by kernel_rfl) (by kernel_rfl) (by exact fun _ _ _ h => h) (Or.inl ⟨by rfl, ?_⟩) (by assumption) ?_
        rotate_left
        · (intro w hSw; (try dsimp only at hSw); go_simp) <;> with_reducible rfl
        try simp only [Act.put, List.setIfInBounds_toArray, List.set_cons_zero, List.set_cons_succ]
        refine wpAnyH_ready (rs := [10]) (by kernel_rfl) (by simp) ?_
        refine (AllReadyH.cons (o := _) (by simp only [List.getElem?_toArray, List.getElem?_cons_succ, List.getElem?_cons_zero]; rfl) (fun K hK => ?_) AllReadyH.nil)
        have q5 := (hb5.block b4 (by simp; omega)).trans (show _ = some (Obj.cells z7 31 (0, 0)) by rw [← hb4]; exact heap_alloc_new wr.drew _)
        obtain ⟨t0, t1, t2, t3, t4, t5, t6, zt⟩ := seven q5
        have zt0 := zt 0
        have zt1 := zt 1
        have zt2 := zt 2
        have zt3 := zt 3
        have zt4 := zt 4
        have zt5 := zt 5
        have zt6 := zt 6
        have ne1 : ¬ B + 1 = b4 := by omega
        have ne2 : ¬ b4 = B + 1 := by omega
        have ne3 : ¬ gb = b4 := by have := Hgb.out; omega
        have ne4 : ¬ b4 = gb := by have := Hgb.out; omega
        go_simp
        refine hK.out _ _ ?_ (fun hHeld => ?_)
        · go_keep
        clear hK K
        try simp only [Act.put, List.setIfInBounds_toArray, List.set_cons_zero, List.set_cons_succ]
        refine wpAnyH_take (i := 11) (oi := _) (v := ?_) (by simp only [List.getElem?_toArray, List.getElem?_cons_succ, List.getElem?_cons_zero]; rfl) (by kernel_rfl) (by kernel_rfl) (by kernel_rfl) (by exact fun _ _ _ h => h) (Or.inl ⟨by rfl, ?_⟩) (by assumption) ?_
        rotate_left
        · (intro w hSw; (try dsimp only at hSw); go_simp) <;> with_reducible rfl
        try simp only [Act.put, List.setIfInBounds_toArray, List.set_cons_zero, List.set_cons_succ]
        refine wpAnyH_done (by kernel_rfl) ?_ _
        have hb : Below wr.heap.size wr w5 := hb5.allocl.drewl
        have hp5' : PAt (b4 + 1) A1 n1 P' w5 := hp5.mono (by simp; omega)
        obtain ⟨b7, hb7⟩ : ∃ b7, b4 = b7 := ⟨_, rfl⟩
        obtain ⟨W, hW, q0, q1, q7, hpa, hpn, hbw⟩ : ∃ W, ((((((w5.setCell ⟨b4, 0, none⟩ (.slice A1 n1 c1)).setCell ⟨b4, 1, none⟩ (.int .i64 N')).setCell ⟨b4, 2, none⟩ (.int .i64 Q')).setCell ⟨b4, 3, none⟩ (.bool O')).setCell ⟨b4, 4, none⟩ (.int .i64 D')).setCell ⟨b4, 5, none⟩ (.int .i64 T')).setCell ⟨b4, 6, none⟩ (.int .i64 X') = W ∧ W.heap[B]? = some (.cells z7 31 (0, 0)) ∧ W.heap[B + 1]? = some (.cells (stC As m cs ⟨P, N, Q, O, D, T, X⟩) 31 (0, 0)) ∧ W.heap[b7]? = some (.cells (stC A1 n1 c1 ⟨P', N', Q', O', D', T', X'⟩) 31 (0, 0)) ∧ PAt (B + 2) As m P W ∧ PAt (B + 2) A1 n1 P' W ∧ Below B w W := by
          refine ⟨_, rfl, (Below.heap_setCell _ _ _ _ (by simp; omega)).trans ((Below.heap_setCell _ _ _ _ (by simp; omega)).trans ((Below.heap_setCell _ _ _ _ (by simp; omega)).trans ((Below.heap_setCell _ _ _ _ (by simp; omega)).trans ((Below.heap_setCell _ _ _ _ (by simp; omega)).trans ((Below.heap_setCell _ _ _ _ (by simp; omega)).trans ((Below.heap_setCell _ _ _ _ (by simp; omega)).trans ((hb.block B (by omega)).trans HQ0.out))))))), (Below.heap_setCell _ _ _ _ (by simp; omega)).trans ((Below.heap_setCell _ _ _ _ (by simp; omega)).trans ((Below.heap_setCell _ _ _ _ (by simp; omega)).trans ((Below.heap_setCell _ _ _ _ (by simp; omega)).trans ((Below.heap_setCell _ _ _ _ (by simp; omega)).trans ((Below.heap_setCell _ _ _ _ (by simp; omega)).trans ((Below.heap_setCell _ _ _ _ (by simp; omega)).trans ((hb.block (B + 1) (by omega)).trans HQ1.out))))))), by rw [← hb7]; simp [World.setCell, Array.getElem?_modify, q5], ?_, ?_, ?_⟩
          · exact (HPA.out.below (((((((hb.setCell (p := ⟨b4, 0, none⟩) (by first | simp; done | (simp; omega)) _).setCell (p := ⟨b4, 1, none⟩) (by first | simp; done | (simp; omega)) _).setCell (p := ⟨b4, 2, none⟩) (by first | simp; done | (simp; omega)) _).setCell (p := ⟨b4, 3, none⟩) (by first | simp; done | (simp; omega)) _).setCell (p := ⟨b4, 4, none⟩) (by first | simp; done | (simp; omega)) _).setCell (p := ⟨b4, 5, none⟩) (by first | simp; done | (simp; omega)) _).setCell (p := ⟨b4, 6, none⟩) (by first | simp; done | (simp; omega)) _)).mono (Nat.le_refl _)
          · exact (((((((hp5'.set (b := b4) (j := 0) (by omega) _).set (b := b4) (j := 1) (by omega) _).set (b := b4) (j := 2) (by omega) _).set (b := b4) (j := 3) (by omega) _).set (b := b4) (j := 4) (by omega) _).set (b := b4) (j := 5) (by omega) _).set (b := b4) (j := 6) (by omega) _).mono (by omega)
          · exact ((((((((HBW.out.trans (hb.mono (by omega))).setCell (p := ⟨b4, 0, none⟩) (by first | simp; done | (simp; omega)) _).setCell (p := ⟨b4, 1, none⟩) (by first | simp; done | (simp; omega)) _).setCell (p := ⟨b4, 2, none⟩) (by first | simp; done | (simp; omega)) _).setCell (p := ⟨b4, 3, none⟩) (by first | simp; done | (simp; omega)) _).setCell (p := ⟨b4, 4, none⟩) (by first | simp; done | (simp; omega)) _).setCell (p := ⟨b4, 5, none⟩) (by first | simp; done | (simp; omega)) _).setCell (p := ⟨b4, 6, none⟩) (by first | simp; done | (simp; omega)) _)
        clear t0 t1 t2 t3 t4 t5 t6 zt0 zt1 zt2 zt3 zt4 zt5 zt6 zt q5
        simp only [hW]
        have HPA6 := Lib.hid hpa
        have HPN6 := Lib.hid hpn
        have HBW6 := Lib.hid hbw
        have Q0 := Lib.hid q0
        have Q1 := Lib.hid q1
        clear a0 a1 a2 a3 a4 a5 a6 za0 za1 za2 za3 za4 za5 za6
        obtain ⟨r0, r1, r2, r3, r4, r5, r6, zr⟩ := seven q0
        have zr0 := zr 0
        have zr1 := zr 1
        have zr2 := zr 2
        have zr3 := zr 3
        have zr4 := zr 4
        have zr5 := zr 5
        have zr6 := zr 6
        clear zr
        obtain ⟨a0, a1, a2, a3, a4, a5, a6, za⟩ := seven q1
        have za0 := za 0
        have za1 := za 1
        have za2 := za 2
        have za3 := za 3
        have za4 := za 4
        have za5 := za 5
        have za6 := za 6
        clear za
        obtain ⟨t0, t1, t2, t3, t4, t5, t6, zt⟩ := seven q7
        have zt0 := zt 0
        have zt1 := zt 1
        have zt2 := zt 2
        have zt3 := zt 3
        have zt4 := zt 4
        have zt5 := zt 5
        have zt6 := zt 6
        clear zt
        have m1 : IntKind.i64.wrap ((i : Int) + 1) = (i : Int) + 1 := by rw [IntKind.wrap_i64]; omega
        clear q0 q1 q7 hpa hpn hbw hb hp5 hb5 hHeld hW
        cases hap : applyS ⟨P, N, Q, O, D, T, X⟩ e with
        | none =>
          have HF := Lib.hid (show folds l = (⟨P, N, Q, O, D, T, X⟩, i + 1, 170) by rw [Hfo.out, Hdr.out]; exact foldS_step_no hap)
          obtain rfl : 170 = v9 := congrArg Prod.snd ((appV_none hap).symm.trans HV.out)
          clear hap
          go_wp2_with fail
          refine bodyPost_ret (v := .tuple #[stVal As m cs ⟨P, N, Q, O, D, T, X⟩, .int .i64 ((i : Int) + 1), .int .i64 170]) (by rw [results_cell_tmp2 rfl]; go_simp; rfl) rfl ⟨As, m, cs, by rw [HF.out]; rfl, ?_, ?_⟩
          · rw [HF.out]
            exact (((((((HPA6.out.set (b := B) (j := 0) (by omega) _).set (b := B) (j := 1) (by omega) _).set (b := B) (j := 2) (by omega) _).set (b := B) (j := 3) (by omega) _).set (b := B) (j := 4) (by omega) _).set (b := B) (j := 5) (by omega) _).set (b := B) (j := 6) (by omega) _).mono (by omega)
          · exact (((((((HBW6.out.setCell (p := ⟨B, 0, none⟩) (by first | simp; done | (simp; omega)) _).setCell (p := ⟨B, 1, none⟩) (by first | simp; done | (simp; omega)) _).setCell (p := ⟨B, 2, none⟩) (by first | simp; done | (simp; omega)) _).setCell (p := ⟨B, 3, none⟩) (by first | simp; done | (simp; omega)) _).setCell (p := ⟨B, 4, none⟩) (by first | simp; done | (simp; omega)) _).setCell (p := ⟨B, 5, none⟩) (by first | simp; done | (simp; omega)) _).setCell (p := ⟨B, 6, none⟩) (by first | simp; done | (simp; omega)) _)
        | some t =>
          have ht := (appV_some hap).symm.trans HV.out
          obtain rfl : 0 = v9 := congrArg Prod.snd ht
          obtain rfl : t = ⟨P', N', Q', O', D', T', X'⟩ := congrArg Prod.fst ht
          have HF := Lib.hid (show folds l = foldS ⟨P', N', Q', O', D', T', X'⟩ (l.drop (i + 1)) (i + 1) by rw [Hfo.out, Hdr.out]; exact foldS_step_ok hap)
          have HT := Lib.hid (Hok.out.app hap)
          clear hap ht
          go_wp2_with fail
          go_roundw
          case rel =>
            refine ⟨i + 1, A1, n1, c1, ⟨P', N', Q', O', D', T', X'⟩, by go_num, by omega, HT.out, HF.out, ?_, ?_, ?_, ?_⟩
            · exact (Below.heap_setCell _ _ _ _ (by simp)).trans ((Below.heap_setCell _ _ _ _ (by simp)).trans ((Below.heap_setCell _ _ _ _ (by simp)).trans ((Below.heap_setCell _ _ _ _ (by simp)).trans ((Below.heap_setCell _ _ _ _ (by simp)).trans ((Below.heap_setCell _ _ _ _ (by simp)).trans ((Below.heap_setCell _ _ _ _ (by simp)).trans (Q0.out)))))))
            · simp [World.setCell, Array.getElem?_modify, Q1.out]
            · exact (((((((HPN6.out.set (b := B + 1) (j := 0) (by omega) _).set (b := B + 1) (j := 1) (by omega) _).set (b := B + 1) (j := 2) (by omega) _).set (b := B + 1) (j := 3) (by omega) _).set (b := B + 1) (j := 4) (by omega) _).set (b := B + 1) (j := 5) (by omega) _).set (b := B + 1) (j := 6) (by omega) _).mono (Nat.le_refl _)
            · exact (((((((HBW6.out.setCell (p := ⟨B + 1, 0, none⟩) (by first | simp; done | (simp; omega)) _).setCell (p := ⟨B + 1, 1, none⟩) (by first | simp; done | (simp; omega)) _).setCell (p := ⟨B + 1, 2, none⟩) (by first | simp; done | (simp; omega)) _).setCell (p := ⟨B + 1, 3, none⟩) (by first | simp; done | (simp; omega)) _).setCell (p := ⟨B + 1, 4, none⟩) (by first | simp; done | (simp; omega)) _).setCell (p := ⟨B + 1, 5, none⟩) (by first | simp; done | (simp; omega)) _).setCell (p := ⟨B + 1, 6, none⟩) (by first | simp; done | (simp; omega)) _)
          case measure => simp [intOf]; omega
    · obtain rfl : i = n := by omega
      have HF := Lib.hid (show folds l = (s, 0, 0) by rw [hfo, List.drop_of_length_le (by rw [HN.out]; exact Nat.le_refl _)]; rfl)
      obtain ⟨P, N, Q, O, D, T, X⟩ := s
      have HPA := Lib.hid hp1
      have HBW := Lib.hid hb1
      obtain ⟨r0, r1, r2, r3, r4, r5, r6, zr⟩ := seven k0
      have zr0 := zr 0
      have zr1 := zr 1
      have zr2 := zr 2
      have zr3 := zr 3
      have zr4 := zr 4
      have zr5 := zr 5
      have zr6 := zr 6
      clear zr
      obtain ⟨a0, a1, a2, a3, a4, a5, a6, za⟩ := seven k1
      have za0 := za 0
      have za1 := za 1
      have za2 := za 2
      have za3 := za 3
      have za4 := za 4
      have za5 := za 5
      have za6 := za 6
      clear za
      clear k0 k1 hfo hok hp1 hb1
      go_wp2_with fail
      refine bodyPost_ret (v := .tuple #[stVal As m cs ⟨P, N, Q, O, D, T, X⟩, .int .i64 0, .int .i64 0]) (by rw [results_cell_tmp2 rfl]; go_simp; rfl) rfl ⟨As, m, cs, by rw [HF.out]; rfl, ?_, ?_⟩
      · rw [HF.out]
        exact (((((((HPA.out.set (b := B) (j := 0) (by omega) _).set (b := B) (j := 1) (by omega) _).set (b := B) (j := 2) (by omega) _).set (b := B) (j := 3) (by omega) _).set (b := B) (j := 4) (by omega) _).set (b := B) (j := 5) (by omega) _).set (b := B) (j := 6) (by omega) _).mono (by omega)
      · exact (((((((HBW.out.setCell (p := ⟨B, 0, none⟩) (by first | simp; done | (simp; omega)) _).setCell (p := ⟨B, 1, none⟩) (by first | simp; done | (simp; omega)) _).setCell (p := ⟨B, 2, none⟩) (by first | simp; done | (simp; omega)) _).setCell (p := ⟨B, 3, none⟩) (by first | simp; done | (simp; omega)) _).setCell (p := ⟨B, 4, none⟩) (by first | simp; done | (simp; omega)) _).setCell (p := ⟨B, 5, none⟩) (by first | simp; done | (simp; omega)) _).setCell (p := ⟨B, 6, none⟩) (by first | simp; done | (simp; omega)) _)
end Go.Proofs.YtbheoahpaidpmaaDoor
