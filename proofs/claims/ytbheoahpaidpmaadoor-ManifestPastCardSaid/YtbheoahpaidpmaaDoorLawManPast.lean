/-
  The walk of the law 'ManifestPast'.
-/
import Derived.Test.YtbheoahpaidpmaaDoorLawManKit
import Derived.StillTailTactics
namespace Go.Proofs.YtbheoahpaidpmaaDoor
open Go Go.RowKit

set_option linter.unusedSimpArgs false in
set_option maxRecDepth 100000 in
set_option maxHeartbeats 8000000 in
theorem manifestPast_walk {w : World} (v0 : Value) (g0 : ∃ A c, ∃ xs : List Ed, v0 = .slice A xs.length c ∧ Rd w 4 A xs.length (xs.flatMap edCells) ∧ (∀ x ∈ xs, Ed.ok x) ∧ xs.length ≤ c ∧ c ≤ maxLen) (hp : Pow w) :
    Calls Tryd.prog 6 #[v0] w fun e w' => e = .returned (.bool true) ∧ Below w.heap.size w w' := by
  obtain ⟨A, c, l, rfl, hrd, -, -, -⟩ := g0
  obtain ⟨n, hn⟩ : ∃ n, l.length = n := ⟨_, rfl⟩
  rw [hn] at hrd ⊢
  by_cases hlen : n ≤ 60
  · have HPW := Lib.hid hp
    have HRD := Lib.hid hrd
    have Hn := Lib.hid hn
    obtain ⟨V0, hV0⟩ : ∃ V0, folds [] = V0 := ⟨_, rfl⟩
    have HC := Lib.hid (mfold_any none 0 0 [] w (Rd.nil _ _ _) rfl (by omega) hp)
    have hok : OkFor V0.1 0 := by rw [← hV0]; exact folds_ok []
    rw [hV0] at HC
    obtain ⟨⟨P, N, Q, O, D, T, X⟩, k0, f0⟩ := V0
    have Hok := Lib.hid hok
    have t0 : decide ((60 : Int) < (n : Int)) = false := decide_eq_false (by omega)
    clear hV0 hrd hp hn hok
    go_enter Tryd.func6, Tryd.ntmps6
    go_wp2_with fail
    refine HC.out.mono ?_
    rintro e1 w1 ⟨A1, n1, c1, rfl, hp1, hb1⟩
    unfold stVal
    simp only at hp1 ⊢
    obtain ⟨b3, hb3'⟩ : ∃ b, w1.heap.size = b := ⟨_, rfl⟩
    obtain ⟨W3, hW3, hbel3, hv3⟩ : ∃ W, w1.alloc (.cells #[.slice A1 n1 c1, .int .i64 N, .int .i64 Q, .bool O, .int .i64 D, .int .i64 T, .int .i64 X] 25) = W ∧ Below w.heap.size w W ∧ Var W b3 25 A1 n1 c1 ⟨P, N, Q, O, D, T, X⟩ :=
      ⟨_, rfl, hb1.then (Below.one _ _), Var.new (T := 25) (A := A1) (n := n1) (c := c1) (s := ⟨P, N, Q, O, D, T, X⟩) hb3' hp1.rd hp1.len⟩
    have HQ3 := Lib.hid hv3
    have HB3 := Lib.hid (show w.heap.size ≤ b3 by rw [← hb3']; exact hb1.size)
    have HBW := Lib.hid hbel3
    clear hv3 hbel3 hp1 hb1 HC
    go_wp2_with fail
    try simp only [hW3]
    clear hW3 hb3'
    go_loopw [6] (fun ix wr => ∃ (i : Nat) (A1 : Option Addr) (n1 c1 : Nat) (s : St), ix = .int .i64 i ∧ i ≤ n ∧ OkFor s i ∧ Var wr b3 25 A1 n1 c1 s ∧ Below w.heap.size w wr) (fun ix _ => n - (intOf ix).toNat)
    case atStart => exact ⟨0, A1, n1, c1, _, rfl, by omega, Hok.out, HQ3.out, HBW.out⟩
    case round =>
      obtain ⟨i, A1, n1, c1, s, rfl, hi, hok, hv, hbel⟩ := hrel
      clear Hok HQ3 HBW
      by_cases hlt : i < n
      · have hlt' : i < l.length := by have := Hn.out; omega
        have hk1 : (i : Int) < n := by omega
        obtain ⟨gb, off, rfl, hgb, s0, s1, s2, s3⟩ := ed_at (HRD.out.below hbel) hlt'
        obtain ⟨e, he⟩ : ∃ e, l[i] = e := ⟨_, rfl⟩
        rw [he] at s0 s1 s2 s3
        have Hok := Lib.hid hok
        obtain ⟨P, N, Q, O, D, T, X⟩ := s
        have HBW := Lib.hid hbel
        have HQ3 := Lib.hid hv
        have lt3 := hv.lt
        have hln : n1 ≤ 60 := by have := hok.len; have := hv.len; simp only at *; omega
        obtain ⟨V, hV⟩ : ∃ V, appV ⟨P, N, Q, O, D, T, X⟩ e = V := ⟨_, rfl⟩
        have HV := Lib.hid hV
        have HA := fun (w' : World) (h : Below wr.heap.size wr w') => mapply_any A1 n1 c1 ⟨P, N, Q, O, D, T, X⟩ e w' (hv.below h).rd hv.len (by omega) hok.ok.asc hok.ok.n0 hok.ok.n1 hok.ok.done0 hok.ok.done1 (HPW.out.below (hbel.then h))
        rw [hV] at HA
        unfold stVal edVal at HA
        simp only at HA
        replace HA := Lib.hid HA
        obtain ⟨⟨vP, vN, vQ, vO, vD, vT, vX⟩, vf⟩ := V
        have Hln := Lib.hid hln
        clear he hlt' hok hV hv hbel hln
        obtain ⟨x3_0, x3_1, x3_2, x3_3, x3_4, x3_5, x3_6, -⟩ := seven HQ3.out.blk
        go_wp2_with fail
        apply cut5 (F := fun (b : Nat) (W : World) (A3 : Option Addr) (n3 c3 : Nat) => Var W b 25 A3 n3 c3 ⟨vP, vN, vQ, vO, vD, vT, vX⟩ ∧ PAt wr.heap.size A3 n3 vP W ∧ Below wr.heap.size wr W)
        case h1 =>
          intro key
          refine wp_region_held_drew (S := fun w' => Below wr.heap.size wr w') (by kernel_rfl) ?_ (fun hHeld => ?_)
          · exact (Below.refl _ _).drew
          refine wpAnyH_take (i := 0) (oi := _) (v := ?_) (by simp only [List.getElem?_toArray, List.getElem?_cons_succ, List.getElem?_cons_zero]; rfl) (by kernel_rfl) (by kernel_rfl) (by kernel_rfl) (by exact fun _ _ _ h => h) (Or.inl ⟨by rfl, ?_⟩) (by assumption) ?_
          rotate_left
          · (intro w' hSw; obtain ⟨hbc, -⟩ := bcell hSw; go_simp) <;> with_reducible rfl
          try simp only [Act.put, List.setIfInBounds_toArray, List.set_cons_zero, List.set_cons_succ]
          refine wpAnyH_take (i := 1) (oi := _) (v := ?_) (by simp only [List.getElem?_toArray, List.getElem?_cons_succ, List.getElem?_cons_zero]; rfl) (by kernel_rfl) (by kernel_rfl) (by kernel_rfl) (by exact fun _ _ _ h => h) (Or.inl ⟨by rfl, ?_⟩) (by assumption) ?_
          rotate_left
          · (intro w' hSw; obtain ⟨hbc, -⟩ := bcell hSw; go_simp) <;> with_reducible rfl
          try simp only [Act.put, List.setIfInBounds_toArray, List.set_cons_zero, List.set_cons_succ]
          refine wpAnyH_take (i := 2) (oi := _) (v := ?_) (by simp only [List.getElem?_toArray, List.getElem?_cons_succ, List.getElem?_cons_zero]; rfl) (by kernel_rfl) (by kernel_rfl) (by kernel_rfl) (by exact fun _ _ _ h => h) (Or.inl ⟨by rfl, ?_⟩) (by assumption) ?_
          rotate_left
          · (intro w' hSw; obtain ⟨hbc, -⟩ := bcell hSw; go_simp) <;> with_reducible rfl
          try simp only [Act.put, List.setIfInBounds_toArray, List.set_cons_zero, List.set_cons_succ]
          refine wpAnyH_take (i := 3) (oi := _) (v := ?_) (by simp only [List.getElem?_toArray, List.getElem?_cons_succ, List.getElem?_cons_zero]; rfl) (by kernel_rfl) (by kernel_rfl) (by kernel_rfl) (by exact fun _ _ _ h => h) (Or.inl ⟨by rfl, ?_⟩) (by assumption) ?_
          rotate_left
          · (intro w' hSw; obtain ⟨hbc, -⟩ := bcell hSw; go_simp) <;> with_reducible rfl
          try simp only [Act.put, List.setIfInBounds_toArray, List.set_cons_zero, List.set_cons_succ]
          refine wpAnyH_take (i := 4) (oi := _) (v := ?_) (by simp only [List.getElem?_toArray, List.getElem?_cons_succ, List.getElem?_cons_zero]; rfl) (by kernel_rfl) (by kernel_rfl) (by kernel_rfl) (by exact fun _ _ _ h => h) (Or.inl ⟨by rfl, ?_⟩) (by assumption) ?_
          rotate_left
          · (intro w' hSw; obtain ⟨hbc, -⟩ := bcell hSw; go_simp) <;> with_reducible rfl
          try simp only [Act.put, List.setIfInBounds_toArray, List.set_cons_zero, List.set_cons_succ]
          refine wpAnyH_ready (rs := [5, 9]) (by kernel_rfl) (by simp) ?_
          refine (AllReadyH.cons (o := _) (by simp only [List.getElem?_toArray, List.getElem?_cons_succ, List.getElem?_cons_zero]; rfl) (fun K hK => ?_) (AllReadyH.cons (o := _) (by simp only [List.getElem?_toArray, List.getElem?_cons_succ, List.getElem?_cons_zero]; rfl) (fun K hK => ?_) AllReadyH.nil))
          · go_simp
            refine (HA.out _ hHeld).mono ?_
            rintro e0c w0c ⟨A3, n3, c3, rfl, hp0c, hb0c⟩
            unfold stVal
            simp only at hp0c ⊢
            have hy0 := hb0c.size
            try simp only [World.size_alloc, World.size_drew] at hy0
            go_wp2_with fail
            refine hK.out _ _ ?_ (fun hHeld => ?_)
            · exact hHeld.then hb0c
            clear hK K
            try simp only [Act.put, List.setIfInBounds_toArray, List.set_cons_zero, List.set_cons_succ]
            have hHeld0 := hHeld
            refine wpAnyH_take (i := 6) (oi := _) (v := ?_) (by simp only [List.getElem?_toArray, List.getElem?_cons_succ, List.getElem?_cons_zero]; rfl) (by kernel_rfl) (by kernel_rfl) (by kernel_rfl) (by exact fun _ _ _ h => h) (Or.inl ⟨by rfl, ?_⟩) (by assumption) ?_
            rotate_left
            · (intro w' hSw; obtain ⟨hbc, -⟩ := bcell hSw; go_simp) <;> with_reducible rfl
            try simp only [Act.put, List.setIfInBounds_toArray, List.set_cons_zero, List.set_cons_succ]
            refine wpAnyH_take (i := 7) (oi := _) (v := ?_) (by simp only [List.getElem?_toArray, List.getElem?_cons_succ, List.getElem?_cons_zero]; rfl) (by kernel_rfl) (by kernel_rfl) (by kernel_rfl) (by exact fun _ _ _ h => h) (Or.inl ⟨by rfl, ?_⟩) (by assumption) ?_
            rotate_left
            · (intro w' hSw; obtain ⟨hbc, -⟩ := bcell hSw; go_simp) <;> with_reducible rfl
            try simp only [Act.put, List.setIfInBounds_toArray, List.set_cons_zero, List.set_cons_succ]
            refine wpAnyH_take (i := 8) (oi := _) (v := ?_) (by simp only [List.getElem?_toArray, List.getElem?_cons_succ, List.getElem?_cons_zero]; rfl) (by kernel_rfl) (by kernel_rfl) (by kernel_rfl) (by exact fun _ _ _ h => h) (Or.inl ⟨by rfl, ?_⟩) (by assumption) ?_
            rotate_left
            · (intro w' hSw; obtain ⟨hbc, -⟩ := bcell hSw; go_simp) <;> with_reducible rfl
            try simp only [Act.put, List.setIfInBounds_toArray, List.set_cons_zero, List.set_cons_succ]
            refine wpAnyH_ready (rs := [9]) (by kernel_rfl) (by simp) ?_
            refine (AllReadyH.cons (o := _) (by simp only [List.getElem?_toArray, List.getElem?_cons_succ, List.getElem?_cons_zero]; rfl) (fun K hK => ?_) AllReadyH.nil)
            go_simp
            refine hK.out _ _ ?_ (fun hHeld => ?_)
            · exact hHeld.then (Below.one _ _)
            clear hK K
            try simp only [Act.put, List.setIfInBounds_toArray, List.set_cons_zero, List.set_cons_succ]
            refine wpAnyH_ready (rs := [10]) (by kernel_rfl) (by simp) ?_
            refine (AllReadyH.cons (o := _) (by simp only [List.getElem?_toArray, List.getElem?_cons_succ, List.getElem?_cons_zero]; rfl) (fun K hK => ?_) AllReadyH.nil)
            go_simp
            refine hK.out _ _ ?_ (fun hHeld => ?_)
            · exact hHeld0.then (Below.one _ _)
            clear hK K
            try simp only [Act.put, List.setIfInBounds_toArray, List.set_cons_zero, List.set_cons_succ]
            refine wpAnyH_take (i := 11) (oi := _) (v := ?_) (by simp only [List.getElem?_toArray, List.getElem?_cons_succ, List.getElem?_cons_zero]; rfl) (by kernel_rfl) (by kernel_rfl) (by kernel_rfl) (by exact fun _ _ _ h => h) (Or.inl ⟨by rfl, ?_⟩) (by assumption) ?_
            rotate_left
            · (intro w' hSw; obtain ⟨hbc, -⟩ := bcell hSw; go_simp) <;> with_reducible rfl
            try simp only [Act.put, List.setIfInBounds_toArray, List.set_cons_zero, List.set_cons_succ]
            refine wpAnyH_done (by kernel_rfl) ?_ _
            obtain ⟨bz, hbz⟩ : ∃ b, w0c.heap.size = b := ⟨_, rfl⟩
            obtain ⟨Wn, hWn, hvn, hbn, hpn⟩ : ∃ Wn, w0c.alloc (.cells #[.slice A3 n3 c3, .int .i64 vN, .int .i64 vQ, .bool vO, .int .i64 vD, .int .i64 vT, .int .i64 vX] 25) = Wn ∧ Var Wn bz 25 A3 n3 c3 ⟨vP, vN, vQ, vO, vD, vT, vX⟩ ∧ Below wr.heap.size wr Wn ∧ PAt wr.heap.size A3 n3 vP Wn :=
              ⟨_, rfl, Var.new (T := 25) (A := A3) (n := n3) (c := c3) (s := ⟨vP, vN, vQ, vO, vD, vT, vX⟩) hbz hp0c.rd hp0c.len, hHeld, (hp0c.below (Below.one _ _)).mono (by first | (simp; done) | (simp; omega) | omega)⟩
            simp only [hbz, hWn]
            exact key bz Wn A3 n3 c3 ⟨hvn, hpn, hbn⟩

          · obtain ⟨bz0, hbz0⟩ : ∃ b, wr.heap.size = b := ⟨_, rfl⟩
            have zbz0 := heap_alloc_new wr.drew (.cells #[.slice none 0 0, .int .i64 0, .int .i64 0, .bool false, .int .i64 0, .int .i64 0, .int .i64 0] 25)
            rw [show wr.drew.heap.size = bz0 from hbz0] at zbz0
            have hlebz0 : wr.heap.size ≤ bz0 := by have := hHeld.size; have h0 : wr.drew.heap.size = bz0 := hbz0; omega
            go_simp
            refine hK.out _ _ ?_ (fun hHeld => ?_)
            · exact hHeld.then (Below.one _ _)
            clear hK K
            try simp only [Act.put, List.setIfInBounds_toArray, List.set_cons_zero, List.set_cons_succ]
            refine wpAnyH_ready (rs := [5]) (by kernel_rfl) (by simp) ?_
            refine (AllReadyH.cons (o := _) (by simp only [List.getElem?_toArray, List.getElem?_cons_succ, List.getElem?_cons_zero]; rfl) (fun K hK => ?_) AllReadyH.nil)
            go_simp
            refine (HA.out _ hHeld).mono ?_
            rintro e0c w0c ⟨A3, n3, c3, rfl, hp0c, hb0c⟩
            unfold stVal
            simp only at hp0c ⊢
            have hy0 := hb0c.size
            try simp only [World.size_alloc, World.size_drew] at hy0
            replace zbz0 := (hb0c.block bz0 (by first | (simp; done) | (simp; omega) | omega)).trans zbz0
            go_wp2_with fail
            refine hK.out _ _ ?_ (fun hHeld => ?_)
            · exact hHeld.then hb0c
            clear hK K
            try simp only [Act.put, List.setIfInBounds_toArray, List.set_cons_zero, List.set_cons_succ]
            refine wpAnyH_take (i := 6) (oi := _) (v := ?_) (by simp only [List.getElem?_toArray, List.getElem?_cons_succ, List.getElem?_cons_zero]; rfl) (by kernel_rfl) (by kernel_rfl) (by kernel_rfl) (by exact fun _ _ _ h => h) (Or.inl ⟨by rfl, ?_⟩) (by assumption) ?_
            rotate_left
            · (intro w' hSw; obtain ⟨hbc, -⟩ := bcell hSw; go_simp) <;> with_reducible rfl
            try simp only [Act.put, List.setIfInBounds_toArray, List.set_cons_zero, List.set_cons_succ]
            refine wpAnyH_take (i := 7) (oi := _) (v := ?_) (by simp only [List.getElem?_toArray, List.getElem?_cons_succ, List.getElem?_cons_zero]; rfl) (by kernel_rfl) (by kernel_rfl) (by kernel_rfl) (by exact fun _ _ _ h => h) (Or.inl ⟨by rfl, ?_⟩) (by assumption) ?_
            rotate_left
            · (intro w' hSw; obtain ⟨hbc, -⟩ := bcell hSw; go_simp) <;> with_reducible rfl
            try simp only [Act.put, List.setIfInBounds_toArray, List.set_cons_zero, List.set_cons_succ]
            refine wpAnyH_take (i := 8) (oi := _) (v := ?_) (by simp only [List.getElem?_toArray, List.getElem?_cons_succ, List.getElem?_cons_zero]; rfl) (by kernel_rfl) (by kernel_rfl) (by kernel_rfl) (by exact fun _ _ _ h => h) (Or.inl ⟨by rfl, ?_⟩) (by assumption) ?_
            rotate_left
            · (intro w' hSw; obtain ⟨hbc, -⟩ := bcell hSw; go_simp) <;> with_reducible rfl
            try simp only [Act.put, List.setIfInBounds_toArray, List.set_cons_zero, List.set_cons_succ]
            obtain ⟨t0, t1, t2, t3, t4, t5, t6, zt⟩ := seven zbz0
            have zt0 := zt 0
            have zt1 := zt 1
            have zt2 := zt 2
            have zt3 := zt 3
            have zt4 := zt 4
            have zt5 := zt 5
            have zt6 := zt 6
            refine wpAnyH_ready (rs := [10]) (by kernel_rfl) (by simp) ?_
            refine (AllReadyH.cons (o := _) (by simp only [List.getElem?_toArray, List.getElem?_cons_succ, List.getElem?_cons_zero]; rfl) (fun K hK => ?_) AllReadyH.nil)
            go_simp
            refine hK.out _ _ ?_ (fun hHeld => ?_)
            · exact (((((((hHeld.setCell (p := ⟨bz0, 0, none⟩) (by first | (simp; done) | (simp; omega) | omega) _).setCell (p := ⟨bz0, 1, none⟩) (by first | (simp; done) | (simp; omega) | omega) _).setCell (p := ⟨bz0, 2, none⟩) (by first | (simp; done) | (simp; omega) | omega) _).setCell (p := ⟨bz0, 3, none⟩) (by first | (simp; done) | (simp; omega) | omega) _).setCell (p := ⟨bz0, 4, none⟩) (by first | (simp; done) | (simp; omega) | omega) _).setCell (p := ⟨bz0, 5, none⟩) (by first | (simp; done) | (simp; omega) | omega) _).setCell (p := ⟨bz0, 6, none⟩) (by first | (simp; done) | (simp; omega) | omega) _)
            clear hK K t0 t1 t2 t3 t4 t5 t6 zt0 zt1 zt2 zt3 zt4 zt5 zt6 zt
            try simp only [Act.put, List.setIfInBounds_toArray, List.set_cons_zero, List.set_cons_succ]
            refine wpAnyH_take (i := 11) (oi := _) (v := ?_) (by simp only [List.getElem?_toArray, List.getElem?_cons_succ, List.getElem?_cons_zero]; rfl) (by kernel_rfl) (by kernel_rfl) (by kernel_rfl) (by exact fun _ _ _ h => h) (Or.inl ⟨by rfl, ?_⟩) (by assumption) ?_
            rotate_left
            · (intro w' hSw; obtain ⟨hbc, -⟩ := bcell hSw; go_simp) <;> with_reducible rfl
            try simp only [Act.put, List.setIfInBounds_toArray, List.set_cons_zero, List.set_cons_succ]
            refine wpAnyH_done (by kernel_rfl) ?_ _
            obtain ⟨Wn, hWn, hvn, hbn, hpn⟩ : ∃ Wn, (((((((w0c.setCell ⟨bz0, 0, none⟩ (.slice A3 n3 c3)).setCell ⟨bz0, 1, none⟩ (.int .i64 vN)).setCell ⟨bz0, 2, none⟩ (.int .i64 vQ)).setCell ⟨bz0, 3, none⟩ (.bool vO)).setCell ⟨bz0, 4, none⟩ (.int .i64 vD)).setCell ⟨bz0, 5, none⟩ (.int .i64 vT)).setCell ⟨bz0, 6, none⟩ (.int .i64 vX)) = Wn ∧ Var Wn bz0 25 A3 n3 c3 ⟨vP, vN, vQ, vO, vD, vT, vX⟩ ∧ Below wr.heap.size wr Wn ∧ PAt wr.heap.size A3 n3 vP Wn := by
              have hpx := (((((((hp0c.set (b := bz0) (j := 0) (by first | (simp; done) | (simp; omega) | omega) (.slice A3 n3 c3)).set (b := bz0) (j := 1) (by first | (simp; done) | (simp; omega) | omega) (.int .i64 vN)).set (b := bz0) (j := 2) (by first | (simp; done) | (simp; omega) | omega) (.int .i64 vQ)).set (b := bz0) (j := 3) (by first | (simp; done) | (simp; omega) | omega) (.bool vO)).set (b := bz0) (j := 4) (by first | (simp; done) | (simp; omega) | omega) (.int .i64 vD)).set (b := bz0) (j := 5) (by first | (simp; done) | (simp; omega) | omega) (.int .i64 vT)).set (b := bz0) (j := 6) (by first | (simp; done) | (simp; omega) | omega) (.int .i64 vX))
              exact ⟨_, rfl, ⟨by simp [World.setCell, Array.getElem?_modify, zbz0], hpx.rd, hpx.len⟩, hHeld, hpx.mono (by first | (simp; done) | (simp; omega) | omega)⟩
            simp only [hWn]
            exact key bz0 Wn A3 n3 c3 ⟨hvn, hpn, hbn⟩
        case h2 =>
          rintro b7 W7 A3 n3 c3 ⟨hv7, hp7, hb7⟩
          have HQ7 := Lib.hid hv7
          have HP7 := Lib.hid hp7
          replace HQ3 := Lib.hid (HQ3.out.below hb7)
          replace HBW := Lib.hid (HBW.out.then hb7)
          replace s0 := keepc hb7 s0
          replace s1 := keepc hb7 s1
          replace s2 := keepc hb7 s2
          replace s3 := keepc hb7 s3
          have lt7 := hv7.lt
          have hln3 : n3 ≤ 61 := by
            have h1 : OkFor (appV ⟨P, N, Q, O, D, T, X⟩ e).1 (i + 1) := appV_ok Hok.out e
            rw [HV.out] at h1
            have := h1.len
            have := hv7.len
            simp only at *
            omega
          have Hln3 := Lib.hid hln3
          have hsz7 : wr.heap.size ≤ W7.heap.size := hb7.size
          have hgb7 : gb < W7.heap.size := Nat.lt_of_lt_of_le hgb hsz7
          clear hv7 hp7 hb7 hln3 HA x3_0 x3_1 x3_2 x3_3 x3_4 x3_5 x3_6
          have HB := fun (w' : World) (h : Below W7.heap.size W7 w') => theirs_any A1 n1 c1 ⟨P, N, Q, O, D, T, X⟩ w' (HQ3.out.below h).rd HQ3.out.len (by have := Hln.out; omega)
          have HR := fun A2 n2 c2 (w' : World) (h : PAt 0 A2 n2 P w') => rapply_any A2 n2 c2 ⟨P, N, Q, O, D, T, X⟩ e w' h.rd h.len (by have := Hln.out; have := h.len; have := HQ3.out.len; simp only at *; omega) Hok.out.ok.n0 Hok.out.ok.done0 Hok.out.ok.done1
          rw [HV.out] at HR
          unfold stVal edVal at HR
          unfold stVal at HB
          simp only at HR HB
          replace HR := Lib.hid HR
          replace HB := Lib.hid HB
          obtain ⟨x3_0, x3_1, x3_2, x3_3, x3_4, x3_5, x3_6, -⟩ := seven HQ3.out.blk
          have lt3' := HQ3.out.lt
          go_wp2_with fail
          apply cut8 (F := fun (b : Nat) (W : World) (A4 : Option Addr) (n4 c4 : Nat) (A2 : Option Addr) (n2 c2 : Nat) => Var W b 31 A4 n4 c4 ⟨vP, vN, vQ, vO, vD, vT, vX⟩ ∧ Below W7.heap.size W7 W)
          case h1 =>
            intro key
            refine wp_region_held_drew (S := fun w' => Below W7.heap.size W7 w') (by kernel_rfl) ?_ (fun hHeld => ?_)
            · exact (Below.refl _ _).drew
            refine wpAnyH_take (i := 0) (oi := _) (v := ?_) (by simp only [List.getElem?_toArray, List.getElem?_cons_succ, List.getElem?_cons_zero]; rfl) (by kernel_rfl) (by kernel_rfl) (by kernel_rfl) (by exact fun _ _ _ h => h) (Or.inl ⟨by rfl, ?_⟩) (by assumption) ?_
            rotate_left
            · (intro w' hSw; obtain ⟨hbc, -⟩ := bcell hSw; go_simp) <;> with_reducible rfl
            try simp only [Act.put, List.setIfInBounds_toArray, List.set_cons_zero, List.set_cons_succ]
            refine wpAnyH_take (i := 2) (oi := _) (v := ?_) (by simp only [List.getElem?_toArray, List.getElem?_cons_succ, List.getElem?_cons_zero]; rfl) (by kernel_rfl) (by kernel_rfl) (by kernel_rfl) (by exact fun _ _ _ h => h) (Or.inl ⟨by rfl, ?_⟩) (by assumption) ?_
            rotate_left
            · (intro w' hSw; obtain ⟨hbc, -⟩ := bcell hSw; go_simp) <;> with_reducible rfl
            try simp only [Act.put, List.setIfInBounds_toArray, List.set_cons_zero, List.set_cons_succ]
            refine wpAnyH_take (i := 3) (oi := _) (v := ?_) (by simp only [List.getElem?_toArray, List.getElem?_cons_succ, List.getElem?_cons_zero]; rfl) (by kernel_rfl) (by kernel_rfl) (by kernel_rfl) (by exact fun _ _ _ h => h) (Or.inl ⟨by rfl, ?_⟩) (by assumption) ?_
            rotate_left
            · (intro w' hSw; obtain ⟨hbc, -⟩ := bcell hSw; go_simp) <;> with_reducible rfl
            try simp only [Act.put, List.setIfInBounds_toArray, List.set_cons_zero, List.set_cons_succ]
            refine wpAnyH_take (i := 4) (oi := _) (v := ?_) (by simp only [List.getElem?_toArray, List.getElem?_cons_succ, List.getElem?_cons_zero]; rfl) (by kernel_rfl) (by kernel_rfl) (by kernel_rfl) (by exact fun _ _ _ h => h) (Or.inl ⟨by rfl, ?_⟩) (by assumption) ?_
            rotate_left
            · (intro w' hSw; obtain ⟨hbc, -⟩ := bcell hSw; go_simp) <;> with_reducible rfl
            try simp only [Act.put, List.setIfInBounds_toArray, List.set_cons_zero, List.set_cons_succ]
            refine wpAnyH_take (i := 5) (oi := _) (v := ?_) (by simp only [List.getElem?_toArray, List.getElem?_cons_succ, List.getElem?_cons_zero]; rfl) (by kernel_rfl) (by kernel_rfl) (by kernel_rfl) (by exact fun _ _ _ h => h) (Or.inl ⟨by rfl, ?_⟩) (by assumption) ?_
            rotate_left
            · (intro w' hSw; obtain ⟨hbc, -⟩ := bcell hSw; go_simp) <;> with_reducible rfl
            try simp only [Act.put, List.setIfInBounds_toArray, List.set_cons_zero, List.set_cons_succ]
            refine wpAnyH_ready (rs := [1, 10]) (by kernel_rfl) (by simp) ?_
            refine (AllReadyH.cons (o := _) (by simp only [List.getElem?_toArray, List.getElem?_cons_succ, List.getElem?_cons_zero]; rfl) (fun K hK => ?_) (AllReadyH.cons (o := _) (by simp only [List.getElem?_toArray, List.getElem?_cons_succ, List.getElem?_cons_zero]; rfl) (fun K hK => ?_) AllReadyH.nil))
            · go_simp
              refine (HB.out _ hHeld).mono ?_
              rintro e0c w0c ⟨A2, n2, c2, rfl, hp0c, hb0c⟩
              unfold stVal
              simp only at hp0c ⊢
              have hy0 := hb0c.size
              try simp only [World.size_alloc, World.size_drew] at hy0
              go_wp2_with fail
              refine hK.out _ _ ?_ (fun hHeld => ?_)
              · exact hHeld.then hb0c
              clear hK K
              try simp only [Act.put, List.setIfInBounds_toArray, List.set_cons_zero, List.set_cons_succ]
              refine wpAnyH_ready (rs := [6, 10]) (by kernel_rfl) (by simp) ?_
              refine (AllReadyH.cons (o := _) (by simp only [List.getElem?_toArray, List.getElem?_cons_succ, List.getElem?_cons_zero]; rfl) (fun K hK => ?_) (AllReadyH.cons (o := _) (by simp only [List.getElem?_toArray, List.getElem?_cons_succ, List.getElem?_cons_zero]; rfl) (fun K hK => ?_) AllReadyH.nil))
              · go_simp
                refine (HR.out A2 n2 c2 _ (by first | exact hp0c.mono (Nat.zero_le _) | exact (hp0c.below (Below.one _ _)).mono (Nat.zero_le _))).mono ?_
                rintro e1c w1c ⟨A4, n4, c4, rfl, hp1c, hb1c⟩
                unfold stVal
                simp only at hp1c ⊢
                have hy1 := hb1c.size
                try simp only [World.size_alloc, World.size_drew] at hy1
                go_wp2_with fail
                refine hK.out _ _ ?_ (fun hHeld => ?_)
                · exact hHeld.then hb1c
                clear hK K
                try simp only [Act.put, List.setIfInBounds_toArray, List.set_cons_zero, List.set_cons_succ]
                have hHeld0 := hHeld
                refine wpAnyH_take (i := 7) (oi := _) (v := ?_) (by simp only [List.getElem?_toArray, List.getElem?_cons_succ, List.getElem?_cons_zero]; rfl) (by kernel_rfl) (by kernel_rfl) (by kernel_rfl) (by exact fun _ _ _ h => h) (Or.inl ⟨by rfl, ?_⟩) (by assumption) ?_
                rotate_left
                · (intro w' hSw; obtain ⟨hbc, -⟩ := bcell hSw; go_simp) <;> with_reducible rfl
                try simp only [Act.put, List.setIfInBounds_toArray, List.set_cons_zero, List.set_cons_succ]
                refine wpAnyH_take (i := 8) (oi := _) (v := ?_) (by simp only [List.getElem?_toArray, List.getElem?_cons_succ, List.getElem?_cons_zero]; rfl) (by kernel_rfl) (by kernel_rfl) (by kernel_rfl) (by exact fun _ _ _ h => h) (Or.inl ⟨by rfl, ?_⟩) (by assumption) ?_
                rotate_left
                · (intro w' hSw; obtain ⟨hbc, -⟩ := bcell hSw; go_simp) <;> with_reducible rfl
                try simp only [Act.put, List.setIfInBounds_toArray, List.set_cons_zero, List.set_cons_succ]
                refine wpAnyH_take (i := 9) (oi := _) (v := ?_) (by simp only [List.getElem?_toArray, List.getElem?_cons_succ, List.getElem?_cons_zero]; rfl) (by kernel_rfl) (by kernel_rfl) (by kernel_rfl) (by exact fun _ _ _ h => h) (Or.inl ⟨by rfl, ?_⟩) (by assumption) ?_
                rotate_left
                · (intro w' hSw; obtain ⟨hbc, -⟩ := bcell hSw; go_simp) <;> with_reducible rfl
                try simp only [Act.put, List.setIfInBounds_toArray, List.set_cons_zero, List.set_cons_succ]
                refine wpAnyH_ready (rs := [10]) (by kernel_rfl) (by simp) ?_
                refine (AllReadyH.cons (o := _) (by simp only [List.getElem?_toArray, List.getElem?_cons_succ, List.getElem?_cons_zero]; rfl) (fun K hK => ?_) AllReadyH.nil)
                go_simp
                refine hK.out _ _ ?_ (fun hHeld => ?_)
                · exact hHeld.then (Below.one _ _)
                clear hK K
                try simp only [Act.put, List.setIfInBounds_toArray, List.set_cons_zero, List.set_cons_succ]
                refine wpAnyH_ready (rs := [11]) (by kernel_rfl) (by simp) ?_
                refine (AllReadyH.cons (o := _) (by simp only [List.getElem?_toArray, List.getElem?_cons_succ, List.getElem?_cons_zero]; rfl) (fun K hK => ?_) AllReadyH.nil)
                go_simp
                refine hK.out _ _ ?_ (fun hHeld => ?_)
                · exact hHeld0.then (Below.one _ _)
                clear hK K
                try simp only [Act.put, List.setIfInBounds_toArray, List.set_cons_zero, List.set_cons_succ]
                refine wpAnyH_take (i := 12) (oi := _) (v := ?_) (by simp only [List.getElem?_toArray, List.getElem?_cons_succ, List.getElem?_cons_zero]; rfl) (by kernel_rfl) (by kernel_rfl) (by kernel_rfl) (by exact fun _ _ _ h => h) (Or.inl ⟨by rfl, ?_⟩) (by assumption) ?_
                rotate_left
                · (intro w' hSw; obtain ⟨hbc, -⟩ := bcell hSw; go_simp) <;> with_reducible rfl
                try simp only [Act.put, List.setIfInBounds_toArray, List.set_cons_zero, List.set_cons_succ]
                refine wpAnyH_done (by kernel_rfl) ?_ _
                obtain ⟨bz, hbz⟩ : ∃ b, w1c.heap.size = b := ⟨_, rfl⟩
                obtain ⟨Wn, hWn, hvn, hbn, hpn⟩ : ∃ Wn, w1c.alloc (.cells #[.slice A4 n4 c4, .int .i64 vN, .int .i64 vQ, .bool vO, .int .i64 vD, .int .i64 vT, .int .i64 vX] 31) = Wn ∧ Var Wn bz 31 A4 n4 c4 ⟨vP, vN, vQ, vO, vD, vT, vX⟩ ∧ Below W7.heap.size W7 Wn ∧ PAt W7.heap.size A4 n4 vP Wn :=
                  ⟨_, rfl, Var.new (T := 31) (A := A4) (n := n4) (c := c4) (s := ⟨vP, vN, vQ, vO, vD, vT, vX⟩) hbz hp1c.rd hp1c.len, hHeld, (hp1c.below (Below.one _ _)).mono (by first | (simp; done) | (simp; omega) | omega)⟩
                simp only [hbz, hWn]
                exact key bz Wn A4 n4 c4 A2 n2 c2 ⟨hvn, hbn⟩

              · obtain ⟨bz1, hbz1⟩ : ∃ b, w0c.heap.size = b := ⟨_, rfl⟩
                have zbz1 := heap_alloc_new w0c (.cells #[.slice none 0 0, .int .i64 0, .int .i64 0, .bool false, .int .i64 0, .int .i64 0, .int .i64 0] 31)
                rw [show w0c.heap.size = bz1 from hbz1] at zbz1
                have hlebz1 : W7.heap.size ≤ bz1 := by have := hHeld.size; have h0 : w0c.heap.size = bz1 := hbz1; omega
                go_simp
                refine hK.out _ _ ?_ (fun hHeld => ?_)
                · exact hHeld.then (Below.one _ _)
                clear hK K
                try simp only [Act.put, List.setIfInBounds_toArray, List.set_cons_zero, List.set_cons_succ]
                refine wpAnyH_ready (rs := [6]) (by kernel_rfl) (by simp) ?_
                refine (AllReadyH.cons (o := _) (by simp only [List.getElem?_toArray, List.getElem?_cons_succ, List.getElem?_cons_zero]; rfl) (fun K hK => ?_) AllReadyH.nil)
                go_simp
                refine (HR.out A2 n2 c2 _ (by first | exact hp0c.mono (Nat.zero_le _) | exact (hp0c.below (Below.one _ _)).mono (Nat.zero_le _))).mono ?_
                rintro e1c w1c ⟨A4, n4, c4, rfl, hp1c, hb1c⟩
                unfold stVal
                simp only at hp1c ⊢
                have hy1 := hb1c.size
                try simp only [World.size_alloc, World.size_drew] at hy1
                replace zbz1 := (hb1c.block bz1 (by first | (simp; done) | (simp; omega) | omega)).trans zbz1
                go_wp2_with fail
                refine hK.out _ _ ?_ (fun hHeld => ?_)
                · exact hHeld.then hb1c
                clear hK K
                try simp only [Act.put, List.setIfInBounds_toArray, List.set_cons_zero, List.set_cons_succ]
                refine wpAnyH_take (i := 7) (oi := _) (v := ?_) (by simp only [List.getElem?_toArray, List.getElem?_cons_succ, List.getElem?_cons_zero]; rfl) (by kernel_rfl) (by kernel_rfl) (by kernel_rfl) (by exact fun _ _ _ h => h) (Or.inl ⟨by rfl, ?_⟩) (by assumption) ?_
                rotate_left
                · (intro w' hSw; obtain ⟨hbc, -⟩ := bcell hSw; go_simp) <;> with_reducible rfl
                try simp only [Act.put, List.setIfInBounds_toArray, List.set_cons_zero, List.set_cons_succ]
                refine wpAnyH_take (i := 8) (oi := _) (v := ?_) (by simp only [List.getElem?_toArray, List.getElem?_cons_succ, List.getElem?_cons_zero]; rfl) (by kernel_rfl) (by kernel_rfl) (by kernel_rfl) (by exact fun _ _ _ h => h) (Or.inl ⟨by rfl, ?_⟩) (by assumption) ?_
                rotate_left
                · (intro w' hSw; obtain ⟨hbc, -⟩ := bcell hSw; go_simp) <;> with_reducible rfl
                try simp only [Act.put, List.setIfInBounds_toArray, List.set_cons_zero, List.set_cons_succ]
                refine wpAnyH_take (i := 9) (oi := _) (v := ?_) (by simp only [List.getElem?_toArray, List.getElem?_cons_succ, List.getElem?_cons_zero]; rfl) (by kernel_rfl) (by kernel_rfl) (by kernel_rfl) (by exact fun _ _ _ h => h) (Or.inl ⟨by rfl, ?_⟩) (by assumption) ?_
                rotate_left
                · (intro w' hSw; obtain ⟨hbc, -⟩ := bcell hSw; go_simp) <;> with_reducible rfl
                try simp only [Act.put, List.setIfInBounds_toArray, List.set_cons_zero, List.set_cons_succ]
                obtain ⟨t0, t1, t2, t3, t4, t5, t6, zt⟩ := seven zbz1
                have zt0 := zt 0
                have zt1 := zt 1
                have zt2 := zt 2
                have zt3 := zt 3
                have zt4 := zt 4
                have zt5 := zt 5
                have zt6 := zt 6
                refine wpAnyH_ready (rs := [11]) (by kernel_rfl) (by simp) ?_
                refine (AllReadyH.cons (o := _) (by simp only [List.getElem?_toArray, List.getElem?_cons_succ, List.getElem?_cons_zero]; rfl) (fun K hK => ?_) AllReadyH.nil)
                go_simp
                refine hK.out _ _ ?_ (fun hHeld => ?_)
                · exact (((((((hHeld.setCell (p := ⟨bz1, 0, none⟩) (by first | (simp; done) | (simp; omega) | omega) _).setCell (p := ⟨bz1, 1, none⟩) (by first | (simp; done) | (simp; omega) | omega) _).setCell (p := ⟨bz1, 2, none⟩) (by first | (simp; done) | (simp; omega) | omega) _).setCell (p := ⟨bz1, 3, none⟩) (by first | (simp; done) | (simp; omega) | omega) _).setCell (p := ⟨bz1, 4, none⟩) (by first | (simp; done) | (simp; omega) | omega) _).setCell (p := ⟨bz1, 5, none⟩) (by first | (simp; done) | (simp; omega) | omega) _).setCell (p := ⟨bz1, 6, none⟩) (by first | (simp; done) | (simp; omega) | omega) _)
                clear hK K t0 t1 t2 t3 t4 t5 t6 zt0 zt1 zt2 zt3 zt4 zt5 zt6 zt
                try simp only [Act.put, List.setIfInBounds_toArray, List.set_cons_zero, List.set_cons_succ]
                refine wpAnyH_take (i := 12) (oi := _) (v := ?_) (by simp only [List.getElem?_toArray, List.getElem?_cons_succ, List.getElem?_cons_zero]; rfl) (by kernel_rfl) (by kernel_rfl) (by kernel_rfl) (by exact fun _ _ _ h => h) (Or.inl ⟨by rfl, ?_⟩) (by assumption) ?_
                rotate_left
                · (intro w' hSw; obtain ⟨hbc, -⟩ := bcell hSw; go_simp) <;> with_reducible rfl
                try simp only [Act.put, List.setIfInBounds_toArray, List.set_cons_zero, List.set_cons_succ]
                refine wpAnyH_done (by kernel_rfl) ?_ _
                obtain ⟨Wn, hWn, hvn, hbn, hpn⟩ : ∃ Wn, (((((((w1c.setCell ⟨bz1, 0, none⟩ (.slice A4 n4 c4)).setCell ⟨bz1, 1, none⟩ (.int .i64 vN)).setCell ⟨bz1, 2, none⟩ (.int .i64 vQ)).setCell ⟨bz1, 3, none⟩ (.bool vO)).setCell ⟨bz1, 4, none⟩ (.int .i64 vD)).setCell ⟨bz1, 5, none⟩ (.int .i64 vT)).setCell ⟨bz1, 6, none⟩ (.int .i64 vX)) = Wn ∧ Var Wn bz1 31 A4 n4 c4 ⟨vP, vN, vQ, vO, vD, vT, vX⟩ ∧ Below W7.heap.size W7 Wn ∧ PAt W7.heap.size A4 n4 vP Wn := by
                  have hpx := (((((((hp1c.set (b := bz1) (j := 0) (by first | (simp; done) | (simp; omega) | omega) (.slice A4 n4 c4)).set (b := bz1) (j := 1) (by first | (simp; done) | (simp; omega) | omega) (.int .i64 vN)).set (b := bz1) (j := 2) (by first | (simp; done) | (simp; omega) | omega) (.int .i64 vQ)).set (b := bz1) (j := 3) (by first | (simp; done) | (simp; omega) | omega) (.bool vO)).set (b := bz1) (j := 4) (by first | (simp; done) | (simp; omega) | omega) (.int .i64 vD)).set (b := bz1) (j := 5) (by first | (simp; done) | (simp; omega) | omega) (.int .i64 vT)).set (b := bz1) (j := 6) (by first | (simp; done) | (simp; omega) | omega) (.int .i64 vX))
                  exact ⟨_, rfl, ⟨by simp [World.setCell, Array.getElem?_modify, zbz1], hpx.rd, hpx.len⟩, hHeld, hpx.mono (by first | (simp; done) | (simp; omega) | omega)⟩
                simp only [hWn]
                exact key bz1 Wn A4 n4 c4 A2 n2 c2 ⟨hvn, hbn⟩

            · obtain ⟨bz0, hbz0⟩ : ∃ b, W7.heap.size = b := ⟨_, rfl⟩
              have zbz0 := heap_alloc_new W7.drew (.cells #[.slice none 0 0, .int .i64 0, .int .i64 0, .bool false, .int .i64 0, .int .i64 0, .int .i64 0] 31)
              rw [show W7.drew.heap.size = bz0 from hbz0] at zbz0
              have hlebz0 : W7.heap.size ≤ bz0 := by have := hHeld.size; have h0 : W7.drew.heap.size = bz0 := hbz0; omega
              go_simp
              refine hK.out _ _ ?_ (fun hHeld => ?_)
              · exact hHeld.then (Below.one _ _)
              clear hK K
              try simp only [Act.put, List.setIfInBounds_toArray, List.set_cons_zero, List.set_cons_succ]
              refine wpAnyH_ready (rs := [1]) (by kernel_rfl) (by simp) ?_
              refine (AllReadyH.cons (o := _) (by simp only [List.getElem?_toArray, List.getElem?_cons_succ, List.getElem?_cons_zero]; rfl) (fun K hK => ?_) AllReadyH.nil)
              go_simp
              refine (HB.out _ hHeld).mono ?_
              rintro e0c w0c ⟨A2, n2, c2, rfl, hp0c, hb0c⟩
              unfold stVal
              simp only at hp0c ⊢
              have hy0 := hb0c.size
              try simp only [World.size_alloc, World.size_drew] at hy0
              replace zbz0 := (hb0c.block bz0 (by first | (simp; done) | (simp; omega) | omega)).trans zbz0
              go_wp2_with fail
              refine hK.out _ _ ?_ (fun hHeld => ?_)
              · exact hHeld.then hb0c
              clear hK K
              try simp only [Act.put, List.setIfInBounds_toArray, List.set_cons_zero, List.set_cons_succ]
              refine wpAnyH_ready (rs := [6]) (by kernel_rfl) (by simp) ?_
              refine (AllReadyH.cons (o := _) (by simp only [List.getElem?_toArray, List.getElem?_cons_succ, List.getElem?_cons_zero]; rfl) (fun K hK => ?_) AllReadyH.nil)
              go_simp
              refine (HR.out A2 n2 c2 _ (by first | exact hp0c.mono (Nat.zero_le _) | exact (hp0c.below (Below.one _ _)).mono (Nat.zero_le _))).mono ?_
              rintro e1c w1c ⟨A4, n4, c4, rfl, hp1c, hb1c⟩
              unfold stVal
              simp only at hp1c ⊢
              have hy1 := hb1c.size
              try simp only [World.size_alloc, World.size_drew] at hy1
              replace zbz0 := (hb1c.block bz0 (by first | (simp; done) | (simp; omega) | omega)).trans zbz0
              go_wp2_with fail
              refine hK.out _ _ ?_ (fun hHeld => ?_)
              · exact hHeld.then hb1c
              clear hK K
              try simp only [Act.put, List.setIfInBounds_toArray, List.set_cons_zero, List.set_cons_succ]
              refine wpAnyH_take (i := 7) (oi := _) (v := ?_) (by simp only [List.getElem?_toArray, List.getElem?_cons_succ, List.getElem?_cons_zero]; rfl) (by kernel_rfl) (by kernel_rfl) (by kernel_rfl) (by exact fun _ _ _ h => h) (Or.inl ⟨by rfl, ?_⟩) (by assumption) ?_
              rotate_left
              · (intro w' hSw; obtain ⟨hbc, -⟩ := bcell hSw; go_simp) <;> with_reducible rfl
              try simp only [Act.put, List.setIfInBounds_toArray, List.set_cons_zero, List.set_cons_succ]
              refine wpAnyH_take (i := 8) (oi := _) (v := ?_) (by simp only [List.getElem?_toArray, List.getElem?_cons_succ, List.getElem?_cons_zero]; rfl) (by kernel_rfl) (by kernel_rfl) (by kernel_rfl) (by exact fun _ _ _ h => h) (Or.inl ⟨by rfl, ?_⟩) (by assumption) ?_
              rotate_left
              · (intro w' hSw; obtain ⟨hbc, -⟩ := bcell hSw; go_simp) <;> with_reducible rfl
              try simp only [Act.put, List.setIfInBounds_toArray, List.set_cons_zero, List.set_cons_succ]
              refine wpAnyH_take (i := 9) (oi := _) (v := ?_) (by simp only [List.getElem?_toArray, List.getElem?_cons_succ, List.getElem?_cons_zero]; rfl) (by kernel_rfl) (by kernel_rfl) (by kernel_rfl) (by exact fun _ _ _ h => h) (Or.inl ⟨by rfl, ?_⟩) (by assumption) ?_
              rotate_left
              · (intro w' hSw; obtain ⟨hbc, -⟩ := bcell hSw; go_simp) <;> with_reducible rfl
              try simp only [Act.put, List.setIfInBounds_toArray, List.set_cons_zero, List.set_cons_succ]
              obtain ⟨t0, t1, t2, t3, t4, t5, t6, zt⟩ := seven zbz0
              have zt0 := zt 0
              have zt1 := zt 1
              have zt2 := zt 2
              have zt3 := zt 3
              have zt4 := zt 4
              have zt5 := zt 5
              have zt6 := zt 6
              refine wpAnyH_ready (rs := [11]) (by kernel_rfl) (by simp) ?_
              refine (AllReadyH.cons (o := _) (by simp only [List.getElem?_toArray, List.getElem?_cons_succ, List.getElem?_cons_zero]; rfl) (fun K hK => ?_) AllReadyH.nil)
              go_simp
              refine hK.out _ _ ?_ (fun hHeld => ?_)
              · exact (((((((hHeld.setCell (p := ⟨bz0, 0, none⟩) (by first | (simp; done) | (simp; omega) | omega) _).setCell (p := ⟨bz0, 1, none⟩) (by first | (simp; done) | (simp; omega) | omega) _).setCell (p := ⟨bz0, 2, none⟩) (by first | (simp; done) | (simp; omega) | omega) _).setCell (p := ⟨bz0, 3, none⟩) (by first | (simp; done) | (simp; omega) | omega) _).setCell (p := ⟨bz0, 4, none⟩) (by first | (simp; done) | (simp; omega) | omega) _).setCell (p := ⟨bz0, 5, none⟩) (by first | (simp; done) | (simp; omega) | omega) _).setCell (p := ⟨bz0, 6, none⟩) (by first | (simp; done) | (simp; omega) | omega) _)
              clear hK K t0 t1 t2 t3 t4 t5 t6 zt0 zt1 zt2 zt3 zt4 zt5 zt6 zt
              try simp only [Act.put, List.setIfInBounds_toArray, List.set_cons_zero, List.set_cons_succ]
              refine wpAnyH_take (i := 12) (oi := _) (v := ?_) (by simp only [List.getElem?_toArray, List.getElem?_cons_succ, List.getElem?_cons_zero]; rfl) (by kernel_rfl) (by kernel_rfl) (by kernel_rfl) (by exact fun _ _ _ h => h) (Or.inl ⟨by rfl, ?_⟩) (by assumption) ?_
              rotate_left
              · (intro w' hSw; obtain ⟨hbc, -⟩ := bcell hSw; go_simp) <;> with_reducible rfl
              try simp only [Act.put, List.setIfInBounds_toArray, List.set_cons_zero, List.set_cons_succ]
              refine wpAnyH_done (by kernel_rfl) ?_ _
              obtain ⟨Wn, hWn, hvn, hbn, hpn⟩ : ∃ Wn, (((((((w1c.setCell ⟨bz0, 0, none⟩ (.slice A4 n4 c4)).setCell ⟨bz0, 1, none⟩ (.int .i64 vN)).setCell ⟨bz0, 2, none⟩ (.int .i64 vQ)).setCell ⟨bz0, 3, none⟩ (.bool vO)).setCell ⟨bz0, 4, none⟩ (.int .i64 vD)).setCell ⟨bz0, 5, none⟩ (.int .i64 vT)).setCell ⟨bz0, 6, none⟩ (.int .i64 vX)) = Wn ∧ Var Wn bz0 31 A4 n4 c4 ⟨vP, vN, vQ, vO, vD, vT, vX⟩ ∧ Below W7.heap.size W7 Wn ∧ PAt W7.heap.size A4 n4 vP Wn := by
                have hpx := (((((((hp1c.set (b := bz0) (j := 0) (by first | (simp; done) | (simp; omega) | omega) (.slice A4 n4 c4)).set (b := bz0) (j := 1) (by first | (simp; done) | (simp; omega) | omega) (.int .i64 vN)).set (b := bz0) (j := 2) (by first | (simp; done) | (simp; omega) | omega) (.int .i64 vQ)).set (b := bz0) (j := 3) (by first | (simp; done) | (simp; omega) | omega) (.bool vO)).set (b := bz0) (j := 4) (by first | (simp; done) | (simp; omega) | omega) (.int .i64 vD)).set (b := bz0) (j := 5) (by first | (simp; done) | (simp; omega) | omega) (.int .i64 vT)).set (b := bz0) (j := 6) (by first | (simp; done) | (simp; omega) | omega) (.int .i64 vX))
                exact ⟨_, rfl, ⟨by simp [World.setCell, Array.getElem?_modify, zbz0], hpx.rd, hpx.len⟩, hHeld, hpx.mono (by first | (simp; done) | (simp; omega) | omega)⟩
              simp only [hWn]
              exact key bz0 Wn A4 n4 c4 A2 n2 c2 ⟨hvn, hbn⟩
          case h2 =>
            rintro b9 W9 A4 n4 c4 A2 n2 c2 ⟨hv9, hb9⟩
            have HQ9 := Lib.hid hv9
            replace HQ3 := Lib.hid (HQ3.out.below hb9)
            replace HQ7 := Lib.hid (HQ7.out.below hb9)
            replace HP7 := Lib.hid (HP7.out.below hb9)
            replace HBW := Lib.hid (HBW.out.then hb9)
            have hsz9 : W7.heap.size ≤ W9.heap.size := hb9.size
            have lt7' : b7 < W9.heap.size := HQ7.out.lt
            have lt9' : b9 < W9.heap.size := HQ9.out.lt
            clear hv9 hb9 HB HR x3_0 x3_1 x3_2 x3_3 x3_4 x3_5 x3_6
            have j1 : ((vf : Int) != (vf : Int)) = false := by simp
            have HB := fun (w' : World) (h : Below W9.heap.size W9 w') => theirs_any A3 n3 c3 ⟨vP, vN, vQ, vO, vD, vT, vX⟩ w' (HQ7.out.below h).rd HQ7.out.len (by have := Hln3.out; omega)
            unfold stVal at HB
            simp only at HB
            replace HB := Lib.hid HB
            obtain ⟨x7_0, x7_1, x7_2, x7_3, x7_4, x7_5, x7_6, -⟩ := seven HQ7.out.blk
            obtain ⟨x9_0, x9_1, x9_2, x9_3, x9_4, x9_5, x9_6, -⟩ := seven HQ9.out.blk
            go_wp2_with fail
            refine wp_region_held_drew (S := fun w' => Below W9.heap.size W9 w') (by kernel_rfl) ?_ (fun hHeld => ?_)
            · exact (Below.refl _ _).drew
            refine wpAnyH_take (i := 0) (oi := _) (v := ?_) (by simp only [List.getElem?_toArray, List.getElem?_cons_succ, List.getElem?_cons_zero]; rfl) (by kernel_rfl) (by kernel_rfl) (by kernel_rfl) (by exact fun _ _ _ h => h) (Or.inl ⟨by rfl, ?_⟩) (by assumption) ?_
            rotate_left
            · (intro w' hSw; obtain ⟨hbc, -⟩ := bcell hSw; go_simp) <;> with_reducible rfl
            try simp only [Act.put, List.setIfInBounds_toArray, List.set_cons_zero, List.set_cons_succ]
            refine wpAnyH_take (i := 1) (oi := _) (v := ?_) (by simp only [List.getElem?_toArray, List.getElem?_cons_succ, List.getElem?_cons_zero]; rfl) (by kernel_rfl) (by kernel_rfl) (by kernel_rfl) (by exact fun _ _ _ h => h) (Or.inl ⟨by rfl, ?_⟩) (by assumption) ?_
            rotate_left
            · (intro w' hSw; obtain ⟨hbc, -⟩ := bcell hSw; go_simp) <;> with_reducible rfl
            try simp only [Act.put, List.setIfInBounds_toArray, List.set_cons_zero, List.set_cons_succ]
            refine wpAnyH_take (i := 2) (oi := _) (v := ?_) (by simp only [List.getElem?_toArray, List.getElem?_cons_succ, List.getElem?_cons_zero]; rfl) (by kernel_rfl) (by kernel_rfl) (by kernel_rfl) (by exact fun _ _ _ h => h) (Or.inl ⟨by rfl, ?_⟩) (by assumption) ?_
            rotate_left
            · (intro w' hSw; obtain ⟨hbc, -⟩ := bcell hSw; go_simp) <;> with_reducible rfl
            try simp only [Act.put, List.setIfInBounds_toArray, List.set_cons_zero, List.set_cons_succ]
            refine wpAnyH_take (i := 3) (oi := _) (v := ?_) (by simp only [List.getElem?_toArray, List.getElem?_cons_succ, List.getElem?_cons_zero]; rfl) (by kernel_rfl) (by kernel_rfl) (by kernel_rfl) (by exact fun _ _ _ h => h) (Or.inl ⟨by rfl, ?_⟩) (by assumption) ?_
            rotate_left
            · (intro w' hSw; obtain ⟨hbc, -⟩ := bcell hSw; go_simp) <;> with_reducible rfl
            try simp only [Act.put, List.setIfInBounds_toArray, List.set_cons_zero, List.set_cons_succ]
            refine wpAnyH_take (i := 4) (oi := _) (v := ?_) (by simp only [List.getElem?_toArray, List.getElem?_cons_succ, List.getElem?_cons_zero]; rfl) (by kernel_rfl) (by kernel_rfl) (by kernel_rfl) (by exact fun _ _ _ h => h) (Or.inl ⟨by rfl, ?_⟩) (by assumption) ?_
            rotate_left
            · (intro w' hSw; obtain ⟨hbc, -⟩ := bcell hSw; go_simp) <;> with_reducible rfl
            try simp only [Act.put, List.setIfInBounds_toArray, List.set_cons_zero, List.set_cons_succ]
            refine wpAnyH_take (i := 6) (oi := _) (v := ?_) (by simp only [List.getElem?_toArray, List.getElem?_cons_succ, List.getElem?_cons_zero]; rfl) (by kernel_rfl) (by kernel_rfl) (by kernel_rfl) (by exact fun _ _ _ h => h) (Or.inl ⟨by rfl, ?_⟩) (by assumption) ?_
            rotate_left
            · (intro w' hSw; obtain ⟨hbc, -⟩ := bcell hSw; go_simp) <;> with_reducible rfl
            try simp only [Act.put, List.setIfInBounds_toArray, List.set_cons_zero, List.set_cons_succ]
            refine wpAnyH_ready (rs := [5]) (by kernel_rfl) (by simp) ?_
            refine (AllReadyH.cons (o := _) (by simp only [List.getElem?_toArray, List.getElem?_cons_succ, List.getElem?_cons_zero]; rfl) (fun K hK => ?_) AllReadyH.nil)
            go_simp
            refine (HB.out _ hHeld).mono ?_
            rintro e98 w98 ⟨A8, n8, c8, rfl, hp98, hb98⟩
            unfold stVal
            simp only at hp98 ⊢
            go_wp2_with fail
            refine hK.out _ _ ?_ (fun hHeld => ?_)
            · exact hHeld.then hb98
            clear hK K
            try simp only [Act.put, List.setIfInBounds_toArray, List.set_cons_zero, List.set_cons_succ]
            refine wpAnyH_ready (rs := [7]) (by kernel_rfl) (by simp) ?_
            refine (AllReadyH.cons (o := _) (by simp only [List.getElem?_toArray, List.getElem?_cons_succ, List.getElem?_cons_zero]; rfl) (fun K hK => ?_) AllReadyH.nil)
            go_simp
            have HS := same_any A8 A4 n8 c8 n4 c4 ⟨vP, vN, vQ, vO, vD, vT, vX⟩ w98 hp98.rd hp98.len (HQ9.out.below hHeld).rd HQ9.out.len (by have := Hln3.out; have := hp98.len; have := HQ7.out.len; simp only at *; omega)
            unfold stVal at HS
            simp only at HS
            refine HS.mono ?_
            rintro e99 w99 ⟨rfl, hb99⟩
            clear HS
            go_wp2_with fail
            refine hK.out _ _ ?_ (fun hHeld => ?_)
            · exact hHeld.then hb99
            clear hK K
            try simp only [Act.put, List.setIfInBounds_toArray, List.set_cons_zero, List.set_cons_succ]
            refine wpAnyH_take (i := 8) (oi := _) (v := ?_) (by simp only [List.getElem?_toArray, List.getElem?_cons_succ, List.getElem?_cons_zero]; rfl) (by kernel_rfl) (by kernel_rfl) (by kernel_rfl) (by exact fun _ _ _ h => h) (Or.inl ⟨by rfl, ?_⟩) (by assumption) ?_
            rotate_left
            · (intro w' hSw; obtain ⟨hbc, -⟩ := bcell hSw; go_simp) <;> with_reducible rfl
            try simp only [Act.put, List.setIfInBounds_toArray, List.set_cons_zero, List.set_cons_succ]
            refine wpAnyH_take (i := 9) (oi := _) (v := ?_) (by simp only [List.getElem?_toArray, List.getElem?_cons_succ, List.getElem?_cons_zero]; rfl) (by kernel_rfl) (by kernel_rfl) (by kernel_rfl) (by exact fun _ _ _ h => h) (Or.inl ⟨by rfl, ?_⟩) (by assumption) ?_
            rotate_left
            · (intro w' hSw; obtain ⟨hbc, -⟩ := bcell hSw; go_simp) <;> with_reducible rfl
            try simp only [Act.put, List.setIfInBounds_toArray, List.set_cons_zero, List.set_cons_succ]
            refine wpAnyH_done (by kernel_rfl) ?_ _
            obtain ⟨W10, hW10⟩ : ∃ W, w99 = W := ⟨_, rfl⟩
            rw [hW10] at hHeld
            simp only [hW10]
            replace HQ3 := Lib.hid (HQ3.out.below hHeld)
            replace HQ7 := Lib.hid (HQ7.out.below hHeld)
            replace HP7 := Lib.hid (HP7.out.below hHeld)
            replace HBW := Lib.hid (HBW.out.then hHeld)
            have hlb3 : w.heap.size ≤ b3 := HB3.out
            clear hHeld hb99 hb98 hp98 x7_0 x7_1 x7_2 x7_3 x7_4 x7_5 x7_6 x9_0 x9_1 x9_2 x9_3 x9_4 x9_5 x9_6 hW10 HB j1
            obtain ⟨-, x7_1, x7_2, -, -, -, -, -⟩ := seven HQ7.out.blk
            obtain ⟨x3_0, x3_1, x3_2, x3_3, x3_4, x3_5, x3_6, z3⟩ := seven HQ3.out.blk
            have z30 := z3 0
            have z31 := z3 1
            have z32 := z3 2
            have z33 := z3 3
            have z34 := z3 4
            have z35 := z3 5
            have z36 := z3 6
            clear z3
            cases hap : applyS ⟨P, N, Q, O, D, T, X⟩ e with
            | none =>
              obtain rfl : 170 = vf := congrArg Prod.snd ((appV_none hap).symm.trans HV.out)
              clear hap
              go_wp2_with fail
              go_roundw
              case rel => exact ⟨i + 1, A1, n1, c1, _, by go_num, by omega, Hok.out.mono (by omega), HQ3.out, HBW.out⟩
              case measure => simp [intOf]; omega
            | some t =>
              have ht := (appV_some hap).symm.trans HV.out
              obtain rfl : 0 = vf := congrArg Prod.snd ht
              obtain rfl : t = ⟨vP, vN, vQ, vO, vD, vT, vX⟩ := congrArg Prod.fst ht
              have hgr := app_grows hap
              have hn0 := Hok.out.ok.n0
              have hn1 := Hok.out.ok.n1
              simp only at hgr hn0 hn1
              have HT := Lib.hid (Hok.out.app hap)
              have g1 : decide (vQ < Q) = false := decide_eq_false (by omega)
              have g2 : decide (vN < N) = false := decide_eq_false (by omega)
              have g3 : decide (N + 1 < vN) = false := decide_eq_false (by omega)
              have m1 : IntKind.i64.wrap (N + 1) = N + 1 := by rw [IntKind.wrap_i64]; omega
              clear hap ht hgr hn0 hn1
              obtain ⟨x7_0, -, -, x7_3, x7_4, x7_5, x7_6, -⟩ := seven HQ7.out.blk
              go_wp2_with fail
              go_roundw
              case rel =>
                have hpx := (((((((HP7.out.set (b := b3) (j := 0) (by omega) (.slice A3 n3 c3)).set (b := b3) (j := 1) (by omega) (.int .i64 vN)).set (b := b3) (j := 2) (by omega) (.int .i64 vQ)).set (b := b3) (j := 3) (by omega) (.bool vO)).set (b := b3) (j := 4) (by omega) (.int .i64 vD)).set (b := b3) (j := 5) (by omega) (.int .i64 vT)).set (b := b3) (j := 6) (by omega) (.int .i64 vX))
                exact ⟨i + 1, A3, n3, c3, _, by go_num, by omega, HT.out, ⟨by simp [World.setCell, Array.getElem?_modify, HQ3.out.blk], hpx.rd, hpx.len⟩, (((((((HBW.out.setCell (p := ⟨b3, 0, none⟩) (by simp only; omega) _).setCell (p := ⟨b3, 1, none⟩) (by simp only; omega) _).setCell (p := ⟨b3, 2, none⟩) (by simp only; omega) _).setCell (p := ⟨b3, 3, none⟩) (by simp only; omega) _).setCell (p := ⟨b3, 4, none⟩) (by simp only; omega) _).setCell (p := ⟨b3, 5, none⟩) (by simp only; omega) _).setCell (p := ⟨b3, 6, none⟩) (by simp only; omega) _)⟩
              case measure => simp [intOf]; omega
      · obtain rfl : i = n := by omega
        obtain ⟨P, N, Q, O, D, T, X⟩ := s
        have HBW := Lib.hid hbel
        have HC := mapply_any A1 n1 c1 ⟨P, N, Q, O, D, T, X⟩ ⟨9, 0, 0, 0⟩ wr hv.rd hv.len (by have := hok.len; have := hv.len; simp only at *; omega) hok.ok.asc hok.ok.n0 hok.ok.n1 hok.ok.done0 hok.ok.done1 (HPW.out.below hbel)
        rw [appV_none (app7 (e := ⟨9, 0, 0, 0⟩) (by decide) (by decide) (by decide) (by decide) (by decide) (by decide) (by decide))] at HC
        unfold stVal edVal at HC
        simp only at HC
        replace HC := Lib.hid HC
        obtain ⟨x3_0, x3_1, x3_2, x3_3, x3_4, x3_5, x3_6, -⟩ := seven hv.blk
        clear hok hv hbel
        go_wp2_with fail
        refine HC.out.mono ?_
        rintro e5 w5 ⟨A5, n5, c5, rfl, hp5, hb5⟩
        unfold stVal st0
        simp only
        have HB5 := Lib.hid (HBW.out.then (hb5.then (Below.one _ (.cells #[.slice A5 n5 c5, .int .i64 0, .int .i64 0, .bool false, .int .i64 0, .int .i64 0, .int .i64 0] 25))))
        clear hp5 hb5
        go_wp2_with fail
        go_ret
        exact ⟨rfl, HB5.out⟩
  · have t0 : decide ((60 : Int) < (n : Int)) = true := decide_eq_true (by omega)
    go_enter Tryd.func6, Tryd.ntmps6
    go_wp2_with fail
    go_ret
    exact ⟨rfl, Below.refl _ _⟩
end Go.Proofs.YtbheoahpaidpmaaDoor
