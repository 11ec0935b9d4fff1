/-
  The walk of the law 'ManifestApplies'.
-/
import Derived.Test.YtbheoahpaidpmaaDoorLawManKit
import Derived.StillTailTactics
namespace Go.Proofs.YtbheoahpaidpmaaDoor
open Go Go.RowKit

theorem _root_.Go.RowKit.Below.then' {a b c : World} (h : Below a.heap.size a b) (k : Below b.heap.size b c) : Below a.heap.size a c := h.then k
set_option linter.unusedSimpArgs false in
set_option maxRecDepth 100000 in
set_option maxHeartbeats 8000000 in
theorem manifestApplies_walk {w : World} (v0 v1 : Value) (g0 : ∃ A c, ∃ xs : List Ed, v0 = .slice A xs.length c ∧ Rd w 4 A xs.length (xs.flatMap edCells) ∧ (∀ x ∈ xs, Ed.ok x) ∧ xs.length ≤ c ∧ c ≤ maxLen) (g1 : ∃ x : Ed, v1 = edVal x ∧ Ed.ok x) (hp : Pow w) :
    Calls Tryd.prog 4 #[v0, v1] w fun e w' => e = .returned (.bool true) ∧ Below w.heap.size w w' := by
  obtain ⟨A, c, l, rfl, hrd, -, -, -⟩ := g0
  obtain ⟨e, rfl, -⟩ := g1
  obtain ⟨n, hn⟩ : ∃ n, l.length = n := ⟨_, rfl⟩
  rw [hn] at hrd ⊢
  unfold edVal
  by_cases hlen : n ≤ 100
  · obtain ⟨W0, hW0, hbel0, q0⟩ : ∃ W, w.alloc (.cells #[.int .i64 e.Kind, .int .i64 e.Day, .int .i64 e.Layout, .int .i64 e.At] 47) = W ∧ Below w.heap.size w W ∧ W.heap[w.heap.size]? = some (.cells (edC e) 47 (0, 0)) := ⟨_, rfl, Below.one _ _, heap_alloc_new _ _⟩
    have HE := Lib.hid q0
    have HBW := Lib.hid hbel0
    have HPW := Lib.hid (hp.below hbel0)
    have HC := Lib.hid (mfold_any A n c l W0 (hrd.below hbel0) hn (by omega) (hp.below hbel0))
    obtain ⟨V0, hV0⟩ : ∃ V0, folds l = V0 := ⟨_, rfl⟩
    have hok : OkFor V0.1 100 := by rw [← hV0]; exact (folds_ok l).mono (by omega)
    rw [hV0] at HC
    obtain ⟨⟨P, N, Q, O, D, T, X⟩, k0, f0⟩ := V0
    have Hok := Lib.hid hok
    have t0 : decide ((100 : Int) < (n : Int)) = false := decide_eq_false (by omega)
    clear hV0 hrd hp hn hbel0 q0 hok hlen
    go_enter Tryd.func4, Tryd.ntmps4
    go_wp2_with fail
    try simp only [hW0]
    clear hW0
    refine HC.out.mono ?_
    rintro e1 w1 ⟨A1, n1, c1, rfl, hp1, hb1⟩
    unfold stVal
    simp only at hp1 ⊢
    obtain ⟨b5, hb5'⟩ : ∃ b, w1.heap.size = b := ⟨_, rfl⟩
    obtain ⟨W5, hW5, hbel5, hv5⟩ : ∃ W, w1.alloc (.cells #[.slice A1 n1 c1, .int .i64 N, .int .i64 Q, .bool O, .int .i64 D, .int .i64 T, .int .i64 X] 25) = W ∧ Below W0.heap.size W0 W ∧ Var W b5 25 A1 n1 c1 ⟨P, N, Q, O, D, T, X⟩ :=
      ⟨_, rfl, hb1.then (Below.one _ _), Var.new (T := 25) (A := A1) (n := n1) (c := c1) (s := ⟨P, N, Q, O, D, T, X⟩) hb5' hp1.rd hp1.len⟩
    have HQ5 := Lib.hid hv5
    replace HE := Lib.hid ((hbel5.block w.heap.size (by have := HBW.out.size; have := HE.out; have := (Array.getElem?_eq_some_iff.1 HE.out).1; omega)).trans HE.out)
    replace HBW := Lib.hid (HBW.out.then' hbel5)
    replace HPW := Lib.hid (HPW.out.below hbel5)
    clear hbel5 hv5
    have Hn1 := Lib.hid (show n1 ≤ 100 by have := Hok.out.len; have := hp1.len; simp only at *; omega)
    clear hp1 hb1
    obtain ⟨x5_0, x5_1, x5_2, x5_3, x5_4, x5_5, x5_6, -⟩ := seven HQ5.out.blk
    have HC := theirs_any A1 n1 c1 ⟨P, N, Q, O, D, T, X⟩ W5 HQ5.out.rd HQ5.out.len (by have := Hn1.out; omega)
    unfold stVal at HC
    simp only at HC
    replace HC := Lib.hid HC
    go_wp2_with fail
    try simp only [hW5]
    clear hW5
    refine HC.out.mono ?_
    rintro e2 w2 ⟨A2, n2, c2, rfl, hp2, hb2⟩
    unfold stVal
    simp only at hp2 ⊢
    clear x5_0 x5_1 x5_2 x5_3 x5_4 x5_5 x5_6
    obtain ⟨b8, hb8'⟩ : ∃ b, w2.heap.size = b := ⟨_, rfl⟩
    obtain ⟨W8, hW8, hbel8, hv8⟩ : ∃ W, w2.alloc (.cells #[.slice A2 n2 c2, .int .i64 N, .int .i64 Q, .bool O, .int .i64 D, .int .i64 T, .int .i64 X] 31) = W ∧ Below W5.heap.size W5 W ∧ Var W b8 31 A2 n2 c2 ⟨P, N, Q, O, D, T, X⟩ :=
      ⟨_, rfl, hb2.then (Below.one _ _), Var.new (T := 31) (A := A2) (n := n2) (c := c2) (s := ⟨P, N, Q, O, D, T, X⟩) hb8' hp2.rd hp2.len⟩
    have HQ8 := Lib.hid hv8
    replace HE := Lib.hid ((hbel8.block w.heap.size (by have := HBW.out.size; have := HE.out; have := (Array.getElem?_eq_some_iff.1 HE.out).1; omega)).trans HE.out)
    replace HQ5 := Lib.hid (HQ5.out.below hbel8)
    replace HBW := Lib.hid (HBW.out.then' hbel8)
    replace HPW := Lib.hid (HPW.out.below hbel8)
    clear hbel8 hv8
    clear hp2 hb2
    obtain ⟨x5_0, x5_1, x5_2, x5_3, x5_4, x5_5, x5_6, -⟩ := seven HQ5.out.blk
    obtain ⟨y0, y1, y2, y3, -⟩ := four HE.out
    have HC := mapply_any A1 n1 c1 ⟨P, N, Q, O, D, T, X⟩ e W8 HQ5.out.rd HQ5.out.len (by have := Hn1.out; omega) Hok.out.ok.asc Hok.out.ok.n0 Hok.out.ok.n1 Hok.out.ok.done0 Hok.out.ok.done1 HPW.out
    obtain ⟨V, hV⟩ : ∃ V, appV ⟨P, N, Q, O, D, T, X⟩ e = V := ⟨_, rfl⟩
    have HVok := Lib.hid (hV ▸ appV_ok Hok.out e)
    have HV := Lib.hid hV
    rw [hV] at HC
    clear hV
    obtain ⟨⟨vP, vN, vQ, vO, vD, vT, vX⟩, vf⟩ := V
    unfold stVal edVal at HC
    simp only at HC
    replace HC := Lib.hid HC
    go_wp2_with fail
    try simp only [hW8]
    clear hW8
    refine HC.out.mono ?_
    rintro e3 w3 ⟨A3, n3, c3, rfl, hp3, hb3⟩
    unfold stVal
    simp only at hp3 ⊢
    clear x5_0 x5_1 x5_2 x5_3 x5_4 x5_5 x5_6
    clear y0 y1 y2 y3
    obtain ⟨b9, hb9'⟩ : ∃ b, w3.heap.size = b := ⟨_, rfl⟩
    obtain ⟨W9, hW9, hbel9, hv9⟩ : ∃ W, w3.alloc (.cells #[.slice A3 n3 c3, .int .i64 vN, .int .i64 vQ, .bool vO, .int .i64 vD, .int .i64 vT, .int .i64 vX] 25) = W ∧ Below W8.heap.size W8 W ∧ Var W b9 25 A3 n3 c3 ⟨vP, vN, vQ, vO, vD, vT, vX⟩ :=
      ⟨_, rfl, hb3.then (Below.one _ _), Var.new (T := 25) (A := A3) (n := n3) (c := c3) (s := ⟨vP, vN, vQ, vO, vD, vT, vX⟩) hb9' hp3.rd hp3.len⟩
    have HQ9 := Lib.hid hv9
    replace HE := Lib.hid ((hbel9.block w.heap.size (by have := HBW.out.size; have := HE.out; have := (Array.getElem?_eq_some_iff.1 HE.out).1; omega)).trans HE.out)
    replace HQ5 := Lib.hid (HQ5.out.below hbel9)
    replace HQ8 := Lib.hid (HQ8.out.below hbel9)
    replace HBW := Lib.hid (HBW.out.then' hbel9)
    replace HPW := Lib.hid (HPW.out.below hbel9)
    clear hbel9 hv9
    have Hn3 := Lib.hid (show n3 ≤ 101 by have := HVok.out.len; have := hp3.len; simp only at *; omega)
    clear hp3 hb3
    obtain ⟨x8_0, x8_1, x8_2, x8_3, x8_4, x8_5, x8_6, -⟩ := seven HQ8.out.blk
    obtain ⟨y0, y1, y2, y3, -⟩ := four HE.out
    have HC := rapply_any A2 n2 c2 ⟨P, N, Q, O, D, T, X⟩ e W9 HQ8.out.rd HQ8.out.len (by have := Hok.out.len; have := HQ8.out.len; simp only at *; omega) Hok.out.ok.n0 Hok.out.ok.done0 Hok.out.ok.done1
    rw [HV.out] at HC
    unfold stVal edVal at HC
    simp only at HC
    replace HC := Lib.hid HC
    go_wp2_with fail
    try simp only [hW9]
    clear hW9
    refine HC.out.mono ?_
    rintro e4 w4 ⟨A4, n4, c4, rfl, hp4, hb4⟩
    unfold stVal
    simp only at hp4 ⊢
    clear x8_0 x8_1 x8_2 x8_3 x8_4 x8_5 x8_6
    clear y0 y1 y2 y3
    obtain ⟨b11, hb11'⟩ : ∃ b, w4.heap.size = b := ⟨_, rfl⟩
    obtain ⟨W11, hW11, hbel11, hv11⟩ : ∃ W, w4.alloc (.cells #[.slice A4 n4 c4, .int .i64 vN, .int .i64 vQ, .bool vO, .int .i64 vD, .int .i64 vT, .int .i64 vX] 31) = W ∧ Below W9.heap.size W9 W ∧ Var W b11 31 A4 n4 c4 ⟨vP, vN, vQ, vO, vD, vT, vX⟩ :=
      ⟨_, rfl, hb4.then (Below.one _ _), Var.new (T := 31) (A := A4) (n := n4) (c := c4) (s := ⟨vP, vN, vQ, vO, vD, vT, vX⟩) hb11' hp4.rd hp4.len⟩
    have HQ11 := Lib.hid hv11
    replace HE := Lib.hid ((hbel11.block w.heap.size (by have := HBW.out.size; have := HE.out; have := (Array.getElem?_eq_some_iff.1 HE.out).1; omega)).trans HE.out)
    replace HQ5 := Lib.hid (HQ5.out.below hbel11)
    replace HQ8 := Lib.hid (HQ8.out.below hbel11)
    replace HQ9 := Lib.hid (HQ9.out.below hbel11)
    replace HBW := Lib.hid (HBW.out.then' hbel11)
    replace HPW := Lib.hid (HPW.out.below hbel11)
    clear hbel11 hv11
    clear hp4 hb4
    obtain ⟨x5_0, x5_1, x5_2, x5_3, x5_4, x5_5, x5_6, -⟩ := seven HQ5.out.blk
    have HC := mapply_any A1 n1 c1 ⟨P, N, Q, O, D, T, X⟩ ⟨7, 0, 0, 0⟩ W11 HQ5.out.rd HQ5.out.len (by have := Hn1.out; omega) Hok.out.ok.asc Hok.out.ok.n0 Hok.out.ok.n1 Hok.out.ok.done0 Hok.out.ok.done1 HPW.out
    rw [appV_none (app7 (e := ⟨7, 0, 0, 0⟩) (by decide) (by decide) (by decide) (by decide) (by decide) (by decide) (by decide))] at HC
    unfold stVal edVal at HC
    simp only at HC
    replace HC := Lib.hid HC
    go_wp2_with fail
    try simp only [hW11]
    clear hW11
    refine HC.out.mono ?_
    rintro e5 w5 ⟨A5, n5, c5, rfl, hp5, hb5⟩
    unfold stVal st0
    simp only
    clear x5_0 x5_1 x5_2 x5_3 x5_4 x5_5 x5_6
    obtain ⟨W, hW, hbelW⟩ : ∃ W, w5.alloc (.cells #[.slice A5 n5 c5, .int .i64 0, .int .i64 0, .bool false, .int .i64 0, .int .i64 0, .int .i64 0] 25) = W ∧ Below W11.heap.size W11 W := ⟨_, rfl, hb5.then (Below.one _ _)⟩
    replace HE := Lib.hid ((hbelW.block w.heap.size (by have := HBW.out.size; have := HE.out; have := (Array.getElem?_eq_some_iff.1 HE.out).1; omega)).trans HE.out)
    replace HQ5 := Lib.hid (HQ5.out.below hbelW)
    replace HQ8 := Lib.hid (HQ8.out.below hbelW)
    replace HQ9 := Lib.hid (HQ9.out.below hbelW)
    replace HQ11 := Lib.hid (HQ11.out.below hbelW)
    replace HBW := Lib.hid (HBW.out.then' hbelW)
    replace HPW := Lib.hid (HPW.out.below hbelW)
    clear hbelW hp5 hb5
    have lt5 := HQ5.out.lt
    have lt8 := HQ8.out.lt
    have lt9 := HQ9.out.lt
    have lt11 := HQ11.out.lt
    obtain ⟨x5_0, x5_1, x5_2, x5_3, x5_4, x5_5, x5_6, -⟩ := seven HQ5.out.blk
    obtain ⟨x8_0, x8_1, x8_2, x8_3, x8_4, x8_5, x8_6, -⟩ := seven HQ8.out.blk
    obtain ⟨x9_0, x9_1, x9_2, x9_3, x9_4, x9_5, x9_6, -⟩ := seven HQ9.out.blk
    obtain ⟨x11_0, x11_1, x11_2, x11_3, x11_4, x11_5, x11_6, -⟩ := seven HQ11.out.blk
    have j1 : ((vf : Int) == (vf : Int)) = true := beq_self_eq_true _
    have j2 : ((170 : Int) == 170) = true := rfl
    have HW := Lib.hid hW
    clear hW
    go_wp2_with fail
    try simp only [HW.out]
    refine wp_region_held_drew (S := fun w' => Below W.heap.size W w') (by kernel_rfl) ?_ (fun hHeld => ?_)
    · exact (Below.refl _ _).drew
    refine wpAnyH_take (i := 0) (oi := _) (v := ?_) (by simp only [List.getElem?_toArray, List.getElem?_cons_succ, List.getElem?_cons_zero]; rfl) (by kernel_rfl) (by kernel_rfl) (by kernel_rfl) (by exact fun _ _ _ h => h) (Or.inl ⟨by rfl, ?_⟩) (by assumption) ?_
    rotate_left
    · (intro w' hSw; obtain ⟨hbc, -⟩ := bcell hSw; go_simp) <;> with_reducible rfl
    try simp only [Act.put, List.setIfInBounds_toArray, List.set_cons_zero, List.set_cons_succ]
    refine wpAnyH_take (i := 1) (oi := _) (v := ?_) (by simp only [List.getElem?_toArray, List.getElem?_cons_succ, List.getElem?_cons_zero]; rfl) (by kernel_rfl) (by kernel_rfl) (by kernel_rfl) (by exact fun _ _ _ h => h) (Or.inl ⟨by rfl, ?_⟩) (by assumption) ?_
    rotate_left
    · (intro w' hSw; obtain ⟨hbc, -⟩ := bcell hSw; go_simp) <;> with_reducible rfl
    try simp only [Act.put, List.setIfInBounds_toArray, List.set_cons_zero, List.set_cons_succ]
    refine wpAnyH_take (i := 2) (oi := _) (v := ?_) (by simp only [List.getElem?_toArray, List.getElem?_cons_succ, List.getElem?_cons_zero]; rfl) (by kernel_rfl) (by kernel_rfl) (by kernel_rfl) (by exact fun _ _ _ h => h) (Or.inl ⟨by rfl, ?_⟩) (by assumption) ?_
    rotate_left
    · (intro w' hSw; obtain ⟨hbc, -⟩ := bcell hSw; go_simp) <;> with_reducible rfl
    try simp only [Act.put, List.setIfInBounds_toArray, List.set_cons_zero, List.set_cons_succ]
    refine wpAnyH_take (i := 3) (oi := _) (v := ?_) (by simp only [List.getElem?_toArray, List.getElem?_cons_succ, List.getElem?_cons_zero]; rfl) (by kernel_rfl) (by kernel_rfl) (by kernel_rfl) (by exact fun _ _ _ h => h) (Or.inl ⟨by rfl, ?_⟩) (by assumption) ?_
    rotate_left
    · (intro w' hSw; obtain ⟨hbc, -⟩ := bcell hSw; go_simp) <;> with_reducible rfl
    try simp only [Act.put, List.setIfInBounds_toArray, List.set_cons_zero, List.set_cons_succ]
    refine wpAnyH_take (i := 4) (oi := _) (v := ?_) (by simp only [List.getElem?_toArray, List.getElem?_cons_succ, List.getElem?_cons_zero]; rfl) (by kernel_rfl) (by kernel_rfl) (by kernel_rfl) (by exact fun _ _ _ h => h) (Or.inl ⟨by rfl, ?_⟩) (by assumption) ?_
    rotate_left
    · (intro w' hSw; obtain ⟨hbc, -⟩ := bcell hSw; go_simp) <;> with_reducible rfl
    try simp only [Act.put, List.setIfInBounds_toArray, List.set_cons_zero, List.set_cons_succ]
    refine wpAnyH_take (i := 6) (oi := _) (v := ?_) (by simp only [List.getElem?_toArray, List.getElem?_cons_succ, List.getElem?_cons_zero]; rfl) (by kernel_rfl) (by kernel_rfl) (by kernel_rfl) (by exact fun _ _ _ h => h) (Or.inl ⟨by rfl, ?_⟩) (by assumption) ?_
    rotate_left
    · (intro w' hSw; obtain ⟨hbc, -⟩ := bcell hSw; go_simp) <;> with_reducible rfl
    try simp only [Act.put, List.setIfInBounds_toArray, List.set_cons_zero, List.set_cons_succ]
    refine wpAnyH_ready (rs := [5]) (by kernel_rfl) (by simp) ?_
    refine (AllReadyH.cons (o := _) (by simp only [List.getElem?_toArray, List.getElem?_cons_succ, List.getElem?_cons_zero]; rfl) (fun K hK => ?_) AllReadyH.nil)
    go_simp
    have HC := theirs_any A3 n3 c3 ⟨vP, vN, vQ, vO, vD, vT, vX⟩ _ (HQ9.out.below hHeld).rd HQ9.out.len (by have := Hn3.out; omega)
    unfold stVal at HC
    simp only at HC
    refine HC.mono ?_
    rintro e99 w99 ⟨A99, n99, c99, rfl, hp99, hb99⟩
    clear HC
    unfold stVal
    simp only at hp99 ⊢
    go_wp2_with fail
    refine hK.out _ _ ?_ (fun hHeld => ?_)
    · exact hHeld.then hb99
    clear hK K
    try simp only [Act.put, List.setIfInBounds_toArray, List.set_cons_zero, List.set_cons_succ]
    have hp99' := hp99
    refine wpAnyH_ready (rs := [7]) (by kernel_rfl) (by simp) ?_
    refine (AllReadyH.cons (o := _) (by simp only [List.getElem?_toArray, List.getElem?_cons_succ, List.getElem?_cons_zero]; rfl) (fun K hK => ?_) AllReadyH.nil)
    go_simp
    have HC := same_any A99 A4 n99 c99 n4 c4 ⟨vP, vN, vQ, vO, vD, vT, vX⟩ _ hp99'.rd hp99'.len (HQ11.out.below hHeld).rd HQ11.out.len (by have := Hn3.out; have := hp99'.len; have := HQ9.out.len; simp only at *; omega)
    unfold stVal at HC
    simp only at HC
    refine HC.mono ?_
    rintro e98 w98 ⟨rfl, hb98⟩
    clear HC
    go_wp2_with fail
    refine hK.out _ _ ?_ (fun hHeld => ?_)
    · exact hHeld.then hb98
    clear hK K
    try simp only [Act.put, List.setIfInBounds_toArray, List.set_cons_zero, List.set_cons_succ]
    refine wpAnyH_take (i := 8) (oi := _) (v := ?_) (by simp only [List.getElem?_toArray, List.getElem?_cons_succ, List.getElem?_cons_zero]; rfl) (by kernel_rfl) (by kernel_rfl) (by kernel_rfl) (by exact fun _ _ _ h => h) (Or.inl ⟨by rfl, ?_⟩) (by assumption) ?_
    rotate_left
    · (intro w' hSw; obtain ⟨hbc, -⟩ := bcell hSw; go_simp) <;> with_reducible rfl
    try simp only [Act.put, List.setIfInBounds_toArray, List.set_cons_zero, List.set_cons_succ]
    refine wpAnyH_take (i := 9) (oi := _) (v := ?_) (by simp only [List.getElem?_toArray, List.getElem?_cons_succ, List.getElem?_cons_zero]; rfl) (by kernel_rfl) (by kernel_rfl) (by kernel_rfl) (by exact fun _ _ _ h => h) (Or.inl ⟨by rfl, ?_⟩) (by assumption) ?_
    rotate_left
    · (intro w' hSw; obtain ⟨hbc, -⟩ := bcell hSw; go_simp) <;> with_reducible rfl
    try simp only [Act.put, List.setIfInBounds_toArray, List.set_cons_zero, List.set_cons_succ]
    refine wpAnyH_take (i := 10) (oi := _) (v := ?_) (by simp only [List.getElem?_toArray, List.getElem?_cons_succ, List.getElem?_cons_zero]; rfl) (by kernel_rfl) (by kernel_rfl) (by kernel_rfl) (by exact fun _ _ _ h => h) (Or.inl ⟨by rfl, ?_⟩) (by assumption) ?_
    rotate_left
    · (intro w' hSw; obtain ⟨hbc, -⟩ := bcell hSw; go_simp) <;> with_reducible rfl
    try simp only [Act.put, List.setIfInBounds_toArray, List.set_cons_zero, List.set_cons_succ]
    refine wpAnyH_take (i := 12) (oi := _) (v := ?_) (by simp only [List.getElem?_toArray, List.getElem?_cons_succ, List.getElem?_cons_zero]; rfl) (by kernel_rfl) (by kernel_rfl) (by kernel_rfl) (by exact fun _ _ _ h => h) (Or.inl ⟨by rfl, ?_⟩) (by assumption) ?_
    rotate_left
    · (intro w' hSw; obtain ⟨hbc, -⟩ := bcell hSw; go_simp) <;> with_reducible rfl
    try simp only [Act.put, List.setIfInBounds_toArray, List.set_cons_zero, List.set_cons_succ]
    refine wpAnyH_ready (rs := [11]) (by kernel_rfl) (by simp) ?_
    refine (AllReadyH.cons (o := _) (by simp only [List.getElem?_toArray, List.getElem?_cons_succ, List.getElem?_cons_zero]; rfl) (fun K hK => ?_) AllReadyH.nil)
    go_simp
    have HC := theirs_any A1 n1 c1 ⟨P, N, Q, O, D, T, X⟩ _ (HQ5.out.below hHeld).rd HQ5.out.len (by have := Hn1.out; omega)
    unfold stVal at HC
    simp only at HC
    refine HC.mono ?_
    rintro e59 w59 ⟨A59, n59, c59, rfl, hp59, hb59⟩
    clear HC
    unfold stVal
    simp only at hp59 ⊢
    go_wp2_with fail
    refine hK.out _ _ ?_ (fun hHeld => ?_)
    · exact hHeld.then hb59
    clear hK K
    try simp only [Act.put, List.setIfInBounds_toArray, List.set_cons_zero, List.set_cons_succ]
    have hp59' := hp59
    refine wpAnyH_ready (rs := [13]) (by kernel_rfl) (by simp) ?_
    refine (AllReadyH.cons (o := _) (by simp only [List.getElem?_toArray, List.getElem?_cons_succ, List.getElem?_cons_zero]; rfl) (fun K hK => ?_) AllReadyH.nil)
    go_simp
    have HC := same_any A59 A2 n59 c59 n2 c2 ⟨P, N, Q, O, D, T, X⟩ _ hp59'.rd hp59'.len (HQ8.out.below hHeld).rd HQ8.out.len (by have := Hn1.out; have := hp59'.len; have := HQ5.out.len; simp only at *; omega)
    unfold stVal at HC
    simp only at HC
    refine HC.mono ?_
    rintro e58 w58 ⟨rfl, hb58⟩
    clear HC
    go_wp2_with fail
    refine hK.out _ _ ?_ (fun hHeld => ?_)
    · exact hHeld.then hb58
    clear hK K
    try simp only [Act.put, List.setIfInBounds_toArray, List.set_cons_zero, List.set_cons_succ]
    refine wpAnyH_take (i := 14) (oi := _) (v := ?_) (by simp only [List.getElem?_toArray, List.getElem?_cons_succ, List.getElem?_cons_zero]; rfl) (by kernel_rfl) (by kernel_rfl) (by kernel_rfl) (by exact fun _ _ _ h => h) (Or.inl ⟨by rfl, ?_⟩) (by assumption) ?_
    rotate_left
    · (intro w' hSw; obtain ⟨hbc, -⟩ := bcell hSw; go_simp) <;> with_reducible rfl
    try simp only [Act.put, List.setIfInBounds_toArray, List.set_cons_zero, List.set_cons_succ]
    refine wpAnyH_take (i := 15) (oi := _) (v := ?_) (by simp only [List.getElem?_toArray, List.getElem?_cons_succ, List.getElem?_cons_zero]; rfl) (by kernel_rfl) (by kernel_rfl) (by kernel_rfl) (by exact fun _ _ _ h => h) (Or.inl ⟨by rfl, ?_⟩) (by assumption) ?_
    rotate_left
    · (intro w' hSw; obtain ⟨hbc, -⟩ := bcell hSw; go_simp) <;> with_reducible rfl
    try simp only [Act.put, List.setIfInBounds_toArray, List.set_cons_zero, List.set_cons_succ]
    refine wpAnyH_take (i := 16) (oi := _) (v := ?_) (by simp only [List.getElem?_toArray, List.getElem?_cons_succ, List.getElem?_cons_zero]; rfl) (by kernel_rfl) (by kernel_rfl) (by kernel_rfl) (by exact fun _ _ _ h => h) (Or.inl ⟨by rfl, ?_⟩) (by assumption) ?_
    rotate_left
    · (intro w' hSw; obtain ⟨hbc, -⟩ := bcell hSw; go_simp) <;> with_reducible rfl
    try simp only [Act.put, List.setIfInBounds_toArray, List.set_cons_zero, List.set_cons_succ]
    refine wpAnyH_take (i := 17) (oi := _) (v := ?_) (by simp only [List.getElem?_toArray, List.getElem?_cons_succ, List.getElem?_cons_zero]; rfl) (by kernel_rfl) (by kernel_rfl) (by kernel_rfl) (by exact fun _ _ _ h => h) (Or.inl ⟨by rfl, ?_⟩) (by assumption) ?_
    rotate_left
    · (intro w' hSw; obtain ⟨hbc, -⟩ := bcell hSw; go_simp) <;> with_reducible rfl
    try simp only [Act.put, List.setIfInBounds_toArray, List.set_cons_zero, List.set_cons_succ]
    refine wpAnyH_take (i := 18) (oi := _) (v := ?_) (by simp only [List.getElem?_toArray, List.getElem?_cons_succ, List.getElem?_cons_zero]; rfl) (by kernel_rfl) (by kernel_rfl) (by kernel_rfl) (by exact fun _ _ _ h => h) (Or.inl ⟨by rfl, ?_⟩) (by assumption) ?_
    rotate_left
    · (intro w' hSw; obtain ⟨hbc, -⟩ := bcell hSw; go_simp) <;> with_reducible rfl
    try simp only [Act.put, List.setIfInBounds_toArray, List.set_cons_zero, List.set_cons_succ]
    refine wpAnyH_take (i := 19) (oi := _) (v := ?_) (by simp only [List.getElem?_toArray, List.getElem?_cons_succ, List.getElem?_cons_zero]; rfl) (by kernel_rfl) (by kernel_rfl) (by kernel_rfl) (by exact fun _ _ _ h => h) (Or.inl ⟨by rfl, ?_⟩) (by assumption) ?_
    rotate_left
    · (intro w' hSw; obtain ⟨hbc, -⟩ := bcell hSw; go_simp) <;> with_reducible rfl
    try simp only [Act.put, List.setIfInBounds_toArray, List.set_cons_zero, List.set_cons_succ]
    refine wpAnyH_done (by kernel_rfl) ?_ _
    go_wp2_with fail
    go_ret
    exact ⟨rfl, HBW.out.then' hHeld⟩
  · have t0 : decide ((100 : Int) < (n : Int)) = true := decide_eq_true (by omega)
    go_enter Tryd.func4, Tryd.ntmps4
    go_wp2_with fail
    go_ret
    exact ⟨rfl, Below.one _ _⟩
end Go.Proofs.YtbheoahpaidpmaaDoor
