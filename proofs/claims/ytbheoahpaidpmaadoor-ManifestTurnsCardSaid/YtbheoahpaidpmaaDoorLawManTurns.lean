/-
  The walk of the law 'ManifestTurns'.
-/
import Derived.Test.YtbheoahpaidpmaaDoorManTurnP
import Derived.StillTailTactics
namespace Go.Proofs.YtbheoahpaidpmaaDoor
open Go Go.RowKit

set_option linter.unusedSimpArgs false in
set_option maxRecDepth 100000 in
set_option maxHeartbeats 8000000 in
theorem manifestTurns_walk {w : World} (v0 : Value) (a1 a2 : Nat) (g0 : ∃ A c, ∃ xs : List Ed, v0 = .slice A xs.length c ∧ Rd w 4 A xs.length (xs.flatMap edCells) ∧ (∀ x ∈ xs, Ed.ok x) ∧ xs.length ≤ c ∧ c ≤ maxLen) (h1 : a1 < 256) (h2 : a2 < 256) (hp : Pow w) :
    Calls Tryd.prog 5 #[v0, .int .u8 a1, .int .u8 a2] w fun e w' => e = .returned (.bool true) ∧ Below w.heap.size w w' := by
  obtain ⟨A, c, l, rfl, hrd, -, -, -⟩ := g0
  obtain ⟨n, hn⟩ : ∃ n, l.length = n := ⟨_, rfl⟩
  rw [hn] at hrd ⊢
  by_cases hlen : n ≤ 60
  · have HPW := Lib.hid hp
    have HPW0 := Lib.hid hp
    have HC := Lib.hid (mfold_any A n c l w hrd hn (by omega) hp)
    obtain ⟨V0, hV0⟩ : ∃ V0, folds l = V0 := ⟨_, rfl⟩
    have hok : OkFor V0.1 60 := by rw [← hV0]; exact (folds_ok l).mono (by omega)
    rw [hV0] at HC
    obtain ⟨⟨sP, sN, sQ, sO, sD, sT, sX⟩, k0, f0⟩ := V0
    have Hok := Lib.hid hok
    have HBW := Lib.hid (Below.refl w.heap.size w)
    have t0 : decide ((60 : Int) < (n : Int)) = false := decide_eq_false (by omega)
    clear hV0 hrd hp hn hok hlen
    go_enter Tryd.func5, Tryd.ntmps5
    go_wp2_with fail
    refine HC.out.mono ?_
    rintro e1 w1 ⟨A1, n1, c1, rfl, hp1, hb1⟩
    unfold stVal
    simp only at hp1 ⊢
    obtain ⟨b7, hb7'⟩ : ∃ b, w1.heap.size = b := ⟨_, rfl⟩
    obtain ⟨W7, hW7, hbel7, hv7⟩ : ∃ W, w1.alloc (.cells #[.slice A1 n1 c1, .int .i64 sN, .int .i64 sQ, .bool sO, .int .i64 sD, .int .i64 sT, .int .i64 sX] 25) = W ∧ Below w.heap.size w W ∧ Var W b7 25 A1 n1 c1 ⟨sP, sN, sQ, sO, sD, sT, sX⟩ :=
      ⟨_, rfl, hb1.then (Below.one _ _), Var.new (T := 25) (A := A1) (n := n1) (c := c1) (s := ⟨sP, sN, sQ, sO, sD, sT, sX⟩) hb7' hp1.rd hp1.len⟩
    have HQ7 := Lib.hid hv7
    replace HBW := Lib.hid (HBW.out.then' hbel7)
    replace HPW := Lib.hid (HPW.out.below hbel7)
    clear hbel7 hv7
    have Hn1 := Lib.hid (show n1 ≤ 60 by have := Hok.out.len; have := hp1.len; simp only at *; omega)
    clear hp1 hb1
    obtain ⟨d, hd⟩ : ∃ d : Nat, a1 % 4 = d := ⟨_, rfl⟩
    have hd3 : d ≤ 3 := by omega
    have hd' : (a1 : Int) % 4 = (d : Int) := by omega
    obtain ⟨K, hK⟩ : ∃ K : Nat, a2 % 20 = K := ⟨_, rfl⟩
    have hK19 : K ≤ 19 := by omega
    have hK' : (a2 : Int) % 20 = (K : Int) := by omega
    clear hd hK
    obtain ⟨aP, aN, aQ, aO, aD, aT, aX, hap, hoka, p, hpf, hpl⟩ : ∃ aP aN aQ aO aD aT aX, applyS ⟨sP, sN, sQ, sO, sD, sT, sX⟩ ⟨0, d, 0, 0⟩ = some ⟨aP, aN, aQ, aO, aD, aT, aX⟩ ∧ OkFor ⟨aP, aN, aQ, aO, aD, aT, aX⟩ 61 ∧ ∃ p, findP aP d = some p ∧ p.Layout = 0 := by
      obtain ⟨⟨aP, aN, aQ, aO, aD, aT, aX⟩, h1, h2, h3⟩ := turn_first Hok.out (by omega) (show (0 : Int) ≤ d by omega) (by omega)
      exact ⟨aP, aN, aQ, aO, aD, aT, aX, h1, h2, h3⟩
    have Hap := Lib.hid hap
    have Hoka := Lib.hid hoka
    have Hpf := Lib.hid (And.intro hpf hpl)
    clear hap hoka hpf hpl
    obtain ⟨x7_0, x7_1, x7_2, x7_3, x7_4, x7_5, x7_6, -⟩ := seven HQ7.out.blk
    have HC := theirs_any A1 n1 c1 ⟨sP, sN, sQ, sO, sD, sT, sX⟩ W7 HQ7.out.rd HQ7.out.len (by have := Hn1.out; omega)
    have HC2 := fun A2 n2 c2 (w' : World) (h : PAt 0 A2 n2 sP w') => rapply_any A2 n2 c2 ⟨sP, sN, sQ, sO, sD, sT, sX⟩ ⟨0, d, 0, 0⟩ w' h.rd h.len (by have := Hn1.out; have := h.len; have := HQ7.out.len; simp only at *; omega) Hok.out.ok.n0 Hok.out.ok.done0 Hok.out.ok.done1
    rw [appV_some Hap.out] at HC2
    unfold stVal edVal at HC2
    unfold stVal at HC
    simp only at HC HC2
    replace HC := Lib.hid HC
    replace HC2 := Lib.hid HC2
    go_wp2_with fail
    try simp only [hW7]
    clear hW7
    refine HC.out.mono ?_
    rintro e2 w2 ⟨A2, n2, c2, rfl, hp2, hb2⟩
    unfold stVal
    simp only at hp2 ⊢
    go_wp2_with fail
    refine (HC2.out A2 n2 c2 w2 (hp2.mono (Nat.zero_le _))).mono ?_
    rintro e3 w3 ⟨A3, n3, c3, rfl, hp3, hb3⟩
    unfold stVal
    simp only at hp3 ⊢
    clear x7_0 x7_1 x7_2 x7_3 x7_4 x7_5 x7_6
    obtain ⟨b10, hb10'⟩ : ∃ b, w3.heap.size = b := ⟨_, rfl⟩
    obtain ⟨W10, hW10, hbel10, hv10⟩ : ∃ W, w3.alloc (.cells #[.slice A3 n3 c3, .int .i64 aN, .int .i64 aQ, .bool aO, .int .i64 aD, .int .i64 aT, .int .i64 aX] 31) = W ∧ Below W7.heap.size W7 W ∧ Var W b10 31 A3 n3 c3 ⟨aP, aN, aQ, aO, aD, aT, aX⟩ :=
      ⟨_, rfl, (hb2.then hb3).then (Below.one _ _), Var.new (T := 31) (A := A3) (n := n3) (c := c3) (s := ⟨aP, aN, aQ, aO, aD, aT, aX⟩) hb10' hp3.rd hp3.len⟩
    have HQ10 := Lib.hid hv10
    replace HQ7 := Lib.hid (HQ7.out.below hbel10)
    replace HBW := Lib.hid (HBW.out.then' hbel10)
    replace HPW := Lib.hid (HPW.out.below hbel10)
    clear hbel10 hv10
    clear hp2 hb2 hp3 hb3 HC2
    obtain ⟨x7_0, x7_1, x7_2, x7_3, x7_4, x7_5, x7_6, -⟩ := seven HQ7.out.blk
    have HC := mapply_any A1 n1 c1 ⟨sP, sN, sQ, sO, sD, sT, sX⟩ ⟨0, d, 0, 0⟩ W10 HQ7.out.rd HQ7.out.len (by have := Hn1.out; omega) Hok.out.ok.asc Hok.out.ok.n0 Hok.out.ok.n1 Hok.out.ok.done0 Hok.out.ok.done1 HPW.out
    rw [appV_some Hap.out] at HC
    unfold stVal edVal at HC
    simp only at HC
    replace HC := Lib.hid HC
    go_wp2_with fail
    try simp only [hW10]
    clear hW10
    refine HC.out.mono ?_
    rintro e4 w4 ⟨A4, n4, c4, rfl, hp4, hb4⟩
    unfold stVal
    simp only at hp4 ⊢
    have hle12 : w.heap.size ≤ w4.heap.size := Nat.le_trans HBW.out.size hb4.size
    clear x7_0 x7_1 x7_2 x7_3 x7_4 x7_5 x7_6
    obtain ⟨b12, hb12'⟩ : ∃ b, w4.heap.size = b := ⟨_, rfl⟩
    obtain ⟨W12, hW12, hbel12, hv12⟩ : ∃ W, w4.alloc (.cells #[.slice A4 n4 c4, .int .i64 aN, .int .i64 aQ, .bool aO, .int .i64 aD, .int .i64 aT, .int .i64 aX] 25) = W ∧ Below W10.heap.size W10 W ∧ Var W b12 25 A4 n4 c4 ⟨aP, aN, aQ, aO, aD, aT, aX⟩ :=
      ⟨_, rfl, hb4.then (Below.one _ _), Var.new (T := 25) (A := A4) (n := n4) (c := c4) (s := ⟨aP, aN, aQ, aO, aD, aT, aX⟩) hb12' hp4.rd hp4.len⟩
    have HQ12 := Lib.hid hv12
    replace HQ7 := Lib.hid (HQ7.out.below hbel12)
    replace HQ10 := Lib.hid (HQ10.out.below hbel12)
    replace HBW := Lib.hid (HBW.out.then' hbel12)
    replace HPW := Lib.hid (HPW.out.below hbel12)
    clear hbel12 hv12
    rw [hb12'] at hle12
    have HB12 := Lib.hid hle12
    clear hle12
    have Hn4 := Lib.hid (show n4 ≤ 61 by have := Hoka.out.len; have := hp4.len; simp only at *; omega)
    clear hp4 hb4
    obtain ⟨x12_0, x12_1, x12_2, x12_3, x12_4, x12_5, x12_6, -⟩ := seven HQ12.out.blk
    obtain ⟨x10_0, x10_1, x10_2, x10_3, x10_4, x10_5, x10_6, -⟩ := seven HQ10.out.blk
    have lt12 := HQ12.out.lt
    have lt10 := HQ10.out.lt
    go_wp2_with fail
    try simp only [hW12]
    clear hW12
    refine wp_region_held_drew (S := fun w' => Below W12.heap.size W12 w') (by kernel_rfl) ?_ (fun hHeld => ?_)
    · exact (Below.refl _ _).drew
    refine wpAnyH_take (i := 0) (oi := _) (v := ?_) (by simp only [List.getElem?_toArray, List.getElem?_cons_succ, List.getElem?_cons_zero]; rfl) (by kernel_rfl) (by kernel_rfl) (by kernel_rfl) (by exact fun _ _ _ h => h) (Or.inl ⟨by rfl, ?_⟩) (by assumption) ?_
    rotate_left
    · (intro w' hSw; obtain ⟨hbc, -⟩ := bcell hSw; go_simp) <;> with_reducible rfl
    try simp only [Act.put, List.setIfInBounds_toArray, List.set_cons_zero, List.set_cons_succ]
    refine wpAnyH_take (i := 1) (oi := _) (v := ?_) (by simp only [List.getElem?_toArray, List.getElem?_cons_succ, List.getElem?_cons_zero]; rfl) (by kernel_rfl) (by kernel_rfl) (by kernel_rfl) (by exact fun _ _ _ h => h) (Or.inl ⟨by rfl, ?_⟩) (by assumption) ?_
    rotate_left
    · (intro w' hSw; obtain ⟨hbc, -⟩ := bcell hSw; go_simp) <;> with_reducible rfl
    try simp only [Act.put, List.setIfInBounds_toArray, List.set_cons_zero, List.set_cons_succ]
    refine wpAnyH_take (i := 2) (oi := _) (v := ?_) (by simp only [List.getElem?_toArray, List.getElem?_cons_succ, List.getElem?_cons_zero]; rfl) (by kernel_rfl) (by kernel_rfl) (by kernel_rfl) (by exact fun _ _ _ h => h) (Or.inl ⟨by rfl, ?_⟩) (by assumption) ?_
    rotate_left
    · (intro w' hSw; obtain ⟨hbc, -⟩ := bcell hSw; go_simp) <;> with_reducible rfl
    try simp only [Act.put, List.setIfInBounds_toArray, List.set_cons_zero, List.set_cons_succ]
    refine wpAnyH_take (i := 3) (oi := _) (v := ?_) (by simp only [List.getElem?_toArray, List.getElem?_cons_succ, List.getElem?_cons_zero]; rfl) (by kernel_rfl) (by kernel_rfl) (by kernel_rfl) (by exact fun _ _ _ h => h) (Or.inl ⟨by rfl, ?_⟩) (by assumption) ?_
    rotate_left
    · (intro w' hSw; obtain ⟨hbc, -⟩ := bcell hSw; go_simp) <;> with_reducible rfl
    try simp only [Act.put, List.setIfInBounds_toArray, List.set_cons_zero, List.set_cons_succ]
    refine wpAnyH_take (i := 4) (oi := _) (v := ?_) (by simp only [List.getElem?_toArray, List.getElem?_cons_succ, List.getElem?_cons_zero]; rfl) (by kernel_rfl) (by kernel_rfl) (by kernel_rfl) (by exact fun _ _ _ h => h) (Or.inl ⟨by rfl, ?_⟩) (by assumption) ?_
    rotate_left
    · (intro w' hSw; obtain ⟨hbc, -⟩ := bcell hSw; go_simp) <;> with_reducible rfl
    try simp only [Act.put, List.setIfInBounds_toArray, List.set_cons_zero, List.set_cons_succ]
    refine wpAnyH_take (i := 5) (oi := _) (v := ?_) (by simp only [List.getElem?_toArray, List.getElem?_cons_succ, List.getElem?_cons_zero]; rfl) (by kernel_rfl) (by kernel_rfl) (by kernel_rfl) (by exact fun _ _ _ h => h) (Or.inl ⟨by rfl, ?_⟩) (by assumption) ?_
    rotate_left
    · (intro w' hSw; obtain ⟨hbc, -⟩ := bcell hSw; go_simp) <;> with_reducible rfl
    try simp only [Act.put, List.setIfInBounds_toArray, List.set_cons_zero, List.set_cons_succ]
    refine wpAnyH_take (i := 6) (oi := _) (v := ?_) (by simp only [List.getElem?_toArray, List.getElem?_cons_succ, List.getElem?_cons_zero]; rfl) (by kernel_rfl) (by kernel_rfl) (by kernel_rfl) (by exact fun _ _ _ h => h) (Or.inl ⟨by rfl, ?_⟩) (by assumption) ?_
    rotate_left
    · (intro w' hSw; obtain ⟨hbc, -⟩ := bcell hSw; go_simp) <;> with_reducible rfl
    try simp only [Act.put, List.setIfInBounds_toArray, List.set_cons_zero, List.set_cons_succ]
    refine wpAnyH_take (i := 7) (oi := _) (v := ?_) (by simp only [List.getElem?_toArray, List.getElem?_cons_succ, List.getElem?_cons_zero]; rfl) (by kernel_rfl) (by kernel_rfl) (by kernel_rfl) (by exact fun _ _ _ h => h) (Or.inl ⟨by rfl, ?_⟩) (by assumption) ?_
    rotate_left
    · (intro w' hSw; obtain ⟨hbc, -⟩ := bcell hSw; go_simp) <;> with_reducible rfl
    try simp only [Act.put, List.setIfInBounds_toArray, List.set_cons_zero, List.set_cons_succ]
    refine wpAnyH_take (i := 9) (oi := _) (v := ?_) (by simp only [List.getElem?_toArray, List.getElem?_cons_succ, List.getElem?_cons_zero]; rfl) (by kernel_rfl) (by kernel_rfl) (by kernel_rfl) (by exact fun _ _ _ h => h) (Or.inl ⟨by rfl, ?_⟩) (by assumption) ?_
    rotate_left
    · (intro w' hSw; obtain ⟨hbc, -⟩ := bcell hSw; go_simp) <;> with_reducible rfl
    try simp only [Act.put, List.setIfInBounds_toArray, List.set_cons_zero, List.set_cons_succ]
    refine wpAnyH_ready (rs := [8]) (by kernel_rfl) (by simp) ?_
    refine (AllReadyH.cons (o := _) (by simp only [List.getElem?_toArray, List.getElem?_cons_succ, List.getElem?_cons_zero]; rfl) (fun K hK => ?_) AllReadyH.nil)
    go_simp
    have HS := theirs_any A4 n4 c4 ⟨aP, aN, aQ, aO, aD, aT, aX⟩ _ (HQ12.out.below hHeld).rd HQ12.out.len (by have := Hn4.out; omega)
    unfold stVal at HS
    simp only at HS
    refine HS.mono ?_
    rintro e8 w8 ⟨A8, n8, c8, rfl, hp8, hb8⟩
    clear HS
    unfold stVal
    simp only at hp8 ⊢
    go_wp2_with fail
    refine hK.out _ _ ?_ (fun hHeld => ?_)
    · exact hHeld.then hb8
    clear hK K
    try simp only [Act.put, List.setIfInBounds_toArray, List.set_cons_zero, List.set_cons_succ]
    refine wpAnyH_ready (rs := [10]) (by kernel_rfl) (by simp) ?_
    refine (AllReadyH.cons (o := _) (by simp only [List.getElem?_toArray, List.getElem?_cons_succ, List.getElem?_cons_zero]; rfl) (fun K hK => ?_) AllReadyH.nil)
    go_simp
    have HS := same_any A8 A3 n8 c8 n3 c3 ⟨aP, aN, aQ, aO, aD, aT, aX⟩ _ hp8.rd hp8.len (HQ10.out.below hHeld).rd HQ10.out.len (by have := Hn4.out; have := hp8.len; have := HQ12.out.len; simp only at *; omega)
    unfold stVal at HS
    simp only at HS
    refine HS.mono ?_
    rintro e9 w9 ⟨rfl, hb9⟩
    clear HS
    go_wp2_with fail
    refine hK.out _ _ ?_ (fun hHeld => ?_)
    · exact hHeld.then hb9
    clear hK K
    try simp only [Act.put, List.setIfInBounds_toArray, List.set_cons_zero, List.set_cons_succ]
    refine wpAnyH_take (i := 11) (oi := _) (v := ?_) (by simp only [List.getElem?_toArray, List.getElem?_cons_succ, List.getElem?_cons_zero]; rfl) (by kernel_rfl) (by kernel_rfl) (by kernel_rfl) (by exact fun _ _ _ h => h) (Or.inl ⟨by rfl, ?_⟩) (by assumption) ?_
    rotate_left
    · (intro w' hSw; obtain ⟨hbc, -⟩ := bcell hSw; go_simp) <;> with_reducible rfl
    try simp only [Act.put, List.setIfInBounds_toArray, List.set_cons_zero, List.set_cons_succ]
    refine wpAnyH_take (i := 12) (oi := _) (v := ?_) (by simp only [List.getElem?_toArray, List.getElem?_cons_succ, List.getElem?_cons_zero]; rfl) (by kernel_rfl) (by kernel_rfl) (by kernel_rfl) (by exact fun _ _ _ h => h) (Or.inl ⟨by rfl, ?_⟩) (by assumption) ?_
    rotate_left
    · (intro w' hSw; obtain ⟨hbc, -⟩ := bcell hSw; go_simp) <;> with_reducible rfl
    try simp only [Act.put, List.setIfInBounds_toArray, List.set_cons_zero, List.set_cons_succ]
    refine wpAnyH_done (by kernel_rfl) ?_ _
    obtain ⟨V12, hV12⟩ : ∃ W, w9 = W := ⟨_, rfl⟩
    rw [hV12] at hHeld
    simp only [hV12]
    clear hV12 hb9 hb8 hp8
    clear x12_0 x12_1 x12_2 x12_3 x12_4 x12_5 x12_6 x10_0 x10_1 x10_2 x10_3 x10_4 x10_5 x10_6
    replace HQ7 := Lib.hid (HQ7.out.below hHeld)
    replace HQ10 := Lib.hid (HQ10.out.below hHeld)
    replace HQ12 := Lib.hid (HQ12.out.below hHeld)
    replace HBW := Lib.hid (HBW.out.then' hHeld)
    replace HPW := Lib.hid (HPW.out.below hHeld)
    clear hHeld
    have lt12' := HQ12.out.lt
    clear HQ7 HQ10 lt10
    obtain ⟨x12_0, x12_1, x12_2, x12_3, x12_4, x12_5, x12_6, -⟩ := seven HQ12.out.blk
    cases aO with
    | true =>
      obtain ⟨zO, hzO⟩ : ∃ z, false = z := ⟨_, rfl⟩
      obtain ⟨zD, hzD⟩ : ∃ z, (0 : Int) = z := ⟨_, rfl⟩
      obtain ⟨zT, hzT⟩ : ∃ z, (0 : Int) = z := ⟨_, rfl⟩
      obtain ⟨zX, hzX⟩ : ∃ z, (0 : Int) = z := ⟨_, rfl⟩
      have HC := mapply_any A4 n4 c4 ⟨aP, aN, aQ, true, aD, aT, aX⟩ ⟨6, 0, 0, 0⟩ V12 HQ12.out.rd HQ12.out.len (by have := Hn4.out; omega) Hoka.out.ok.asc Hoka.out.ok.n0 Hoka.out.ok.n1 Hoka.out.ok.done0 Hoka.out.ok.done1 HPW.out
      rw [appV_some (show applyS ⟨aP, aN, aQ, true, aD, aT, aX⟩ ⟨6, 0, 0, 0⟩ = some ⟨aP, aN, aQ, zO, zD, zT, zX⟩ by rw [app6 rfl, if_pos rfl]; subst hzO hzD hzT hzX; rfl)] at HC
      unfold stVal edVal at HC
      simp only at HC
      replace HC := Lib.hid HC
      have HZ := Lib.hid (And.intro hzO (And.intro hzD (And.intro hzT hzX)))
      clear hzO hzD hzT hzX
      go_wp2_with fail
      refine HC.out.mono ?_
      rintro e5 w5 ⟨A5, n5, c5, rfl, hp5, hb5⟩
      unfold stVal
      simp only at hp5 ⊢
      clear x12_0 x12_1 x12_2 x12_3 x12_4 x12_5 x12_6
      obtain ⟨b14, hb14'⟩ : ∃ b, w5.heap.size = b := ⟨_, rfl⟩
      obtain ⟨W14, hW14, hbel14, hv14⟩ : ∃ W, w5.alloc (.cells #[.slice A5 n5 c5, .int .i64 aN, .int .i64 aQ, .bool zO, .int .i64 zD, .int .i64 zT, .int .i64 zX] 25) = W ∧ Below V12.heap.size V12 W ∧ Var W b14 25 A5 n5 c5 ⟨aP, aN, aQ, zO, zD, zT, zX⟩ :=
        ⟨_, rfl, hb5.then (Below.one _ _), Var.new (T := 25) (A := A5) (n := n5) (c := c5) (s := ⟨aP, aN, aQ, zO, zD, zT, zX⟩) hb14' hp5.rd hp5.len⟩
      have hp14 : PAt V12.heap.size A5 n5 aP W14 := by rw [← hW14]; exact hp5.below (Below.one _ _)
      have hv12 := HQ12.out.below hbel14
      have hbw14 := HBW.out.then hbel14
      obtain ⟨V15, hW15, hv15, hbw15⟩ : ∃ W, (((((((W14.setCell ⟨b12, 0, none⟩ (.slice A5 n5 c5)).setCell ⟨b12, 1, none⟩ (.int .i64 aN)).setCell ⟨b12, 2, none⟩ (.int .i64 aQ)).setCell ⟨b12, 3, none⟩ (.bool zO)).setCell ⟨b12, 4, none⟩ (.int .i64 zD)).setCell ⟨b12, 5, none⟩ (.int .i64 zT)).setCell ⟨b12, 6, none⟩ (.int .i64 zX)) = W ∧ Var W b12 25 A5 n5 c5 ⟨aP, aN, aQ, zO, zD, zT, zX⟩ ∧ Below w.heap.size w W := by
        have hpx := (((((((hp14.set (b := b12) (j := 0) (by omega) (.slice A5 n5 c5)).set (b := b12) (j := 1) (by omega) (.int .i64 aN)).set (b := b12) (j := 2) (by omega) (.int .i64 aQ)).set (b := b12) (j := 3) (by omega) (.bool zO)).set (b := b12) (j := 4) (by omega) (.int .i64 zD)).set (b := b12) (j := 5) (by omega) (.int .i64 zT)).set (b := b12) (j := 6) (by omega) (.int .i64 zX))
        have hlb := HB12.out
        exact ⟨_, rfl, ⟨by simp [World.setCell, Array.getElem?_modify, hv12.blk], hpx.rd, hpx.len⟩, (((((((hbw14.setCell (p := ⟨b12, 0, none⟩) (by simp only; omega) _).setCell (p := ⟨b12, 1, none⟩) (by simp only; omega) _).setCell (p := ⟨b12, 2, none⟩) (by simp only; omega) _).setCell (p := ⟨b12, 3, none⟩) (by simp only; omega) _).setCell (p := ⟨b12, 4, none⟩) (by simp only; omega) _).setCell (p := ⟨b12, 5, none⟩) (by simp only; omega) _).setCell (p := ⟨b12, 6, none⟩) (by simp only; omega) _)⟩
      obtain ⟨x12_0, x12_1, x12_2, x12_3, x12_4, x12_5, x12_6, z12⟩ := seven hv12.blk
      have z0 := z12 0
      have z1 := z12 1
      have z2 := z12 2
      have z3 := z12 3
      have z4 := z12 4
      have z5 := z12 5
      have z6 := z12 6
      obtain ⟨x14_0, x14_1, x14_2, x14_3, x14_4, x14_5, x14_6, -⟩ := seven hv14.blk
      replace HBW := Lib.hid hbw15
      have Hc := Lib.hid (show OkFor ⟨aP, aN, aQ, false, 0, 0, 0⟩ 61 from ⟨Hoka.out.ok.off, Hoka.out.len, Hoka.out.next⟩)
      have Hn12 := Lib.hid (show n5 ≤ 61 by have := Hoka.out.len; have := hp5.len; simp only at *; omega)
      replace HPW := Lib.hid (HPW0.out.below hbw15)
      replace HQ12 := Lib.hid hv15
      clear hp5 hb5 hbel14 hv14 hp14 hv12 hbw14 hv15 hbw15 z12 HC lt12'
      obtain ⟨y12_0, y12_1, y12_2, y12_3, y12_4, y12_5, y12_6, -⟩ := seven HQ12.out.blk
      have HC := mapply_any A5 n5 c5 ⟨aP, aN, aQ, false, 0, 0, 0⟩ ⟨3, d, 1, 0⟩ V15 HQ12.out.rd HQ12.out.len (by have := Hn12.out; omega) Hc.out.ok.asc Hc.out.ok.n0 Hc.out.ok.n1 Hc.out.ok.done0 Hc.out.ok.done1 HPW.out
      rw [appV_some (turn_begin (a := ⟨aP, aN, aQ, false, 0, 0, 0⟩) Hpf.out.1 Hpf.out.2 rfl)] at HC
      unfold stVal edVal at HC
      simp only at HC
      replace HC := Lib.hid HC
      go_wp2_with fail
      try simp only [hW15]
      obtain ⟨hzO, hzD, hzT, hzX⟩ := HZ.out
      clear HZ
      subst hzO hzD hzT hzX
      clear hW15 hW14 hb14' z0 z1 z2 z3 z4 z5 z6 x14_0 x14_1 x14_2 x14_3 x14_4 x14_5 x14_6 y12_0 y12_1 y12_2 y12_3 y12_4 y12_5 y12_6
      refine HC.out.mono ?_
      rintro e6 w6 ⟨A6, n6, c6, rfl, hp6, hb6⟩
      unfold stVal
      simp only at hp6 ⊢
      clear x12_0 x12_1 x12_2 x12_3 x12_4 x12_5 x12_6
      have hle16 : V15.heap.size ≤ w6.heap.size := hb6.size
      obtain ⟨b16, hb16'⟩ : ∃ b, w6.heap.size = b := ⟨_, rfl⟩
      rw [hb16'] at hle16
      obtain ⟨W16, hW16, hbel16, hv16⟩ : ∃ W, w6.alloc (.cells #[.slice A6 n6 c6, .int .i64 aN, .int .i64 aQ, .bool true, .int .i64 (d : Int), .int .i64 1, .int .i64 0] 25) = W ∧ Below V15.heap.size V15 W ∧ Var W b16 25 A6 n6 c6 ⟨aP, aN, aQ, true, (d : Int), 1, 0⟩ :=
        ⟨_, rfl, hb6.then (Below.one _ _), Var.new (T := 25) (A := A6) (n := n6) (c := c6) (s := ⟨aP, aN, aQ, true, (d : Int), 1, 0⟩) hb16' hp6.rd hp6.len⟩
      have H16 := Lib.hid (And.intro hv16 hbel16)
      have HW16 := Lib.hid hW16
      clear hp6 hb6 hv16 hbel16 HC hW16
      go_wp2_with fail
      simp only [HW16.out]
      clear hb16'
      go_loopw [17, 18] (fun gv iv wr => TurnRel V15 b16 25 K d aP aN aQ gv iv wr) (fun _ iv _ => K - (intOf iv).toNat)
      case atStart => exact ⟨0, A6, n6, c6, rfl, rfl, Nat.zero_le _, H16.out.1, H16.out.2⟩
      case round =>
        obtain ⟨i, A6, n6, c6, rfl, rfl, hi, hv, hbel⟩ := hrel
        clear H16
        have hPo := HPW.out.below hbel
        obtain ⟨x16_0, x16_1, x16_2, x16_3, x16_4, x16_5, x16_6, -⟩ := seven hv.blk
        have hln6 : n6 ≤ 61 := by have := Hc.out.len; have := hv.len; simp only at *; omega
        by_cases hlt : i < K
        · have hk1 : (i : Int) < K := by omega
          have HC := mapply_any A6 n6 c6 ⟨aP, aN, aQ, true, (d : Int), 1, (i : Int)⟩ ⟨4, 0, 0, 0⟩ wr hv.rd hv.len (by omega) Hc.out.ok.asc Hc.out.ok.n0 Hc.out.ok.n1 (by simp only; omega) (by simp only; omega) hPo
          rw [appV_some (turn_step (b := ⟨aP, aN, aQ, true, (d : Int), 1, (i : Int)⟩) rfl (by simp only; omega))] at HC
          unfold stVal edVal at HC
          simp only at HC
          replace HC := Lib.hid HC
          have Hv := Lib.hid hv
          have Hbel := Lib.hid hbel
          clear hv hbel hPo
          go_wp2_with fail
          refine HC.out.mono ?_
          rintro e7 w7 ⟨A7, n7, c7, rfl, hp7, hb7⟩
          unfold stVal
          simp only at hp7 ⊢
          have hv7 := Hv.out.below hb7
          have hl16 := Hv.out.lt
          have Hp7 := Lib.hid hp7
          have Hb7 := Lib.hid (Hbel.out.then hb7)
          clear x16_0 x16_1 x16_2 x16_3 x16_4 x16_5 x16_6
          obtain ⟨x16_0, x16_1, x16_2, x16_3, x16_4, x16_5, x16_6, z16⟩ := seven hv7.blk
          have z0 := z16 0
          have z1 := z16 1
          have z2 := z16 2
          have z3 := z16 3
          have z4 := z16 4
          have z5 := z16 5
          have z6 := z16 6
          have Hv7 := Lib.hid hv7
          clear z16 hv7 hp7 hb7
          go_wp2_with fail
          go_roundw
          case rel =>
            have hpx := (((((((Hp7.out.set (b := b16) (j := 0) (by omega) (.slice A7 n7 c7)).set (b := b16) (j := 1) (by omega) (.int .i64 aN)).set (b := b16) (j := 2) (by omega) (.int .i64 aQ)).set (b := b16) (j := 3) (by omega) (.bool true)).set (b := b16) (j := 4) (by omega) (.int .i64 (d : Int))).set (b := b16) (j := 5) (by omega) (.int .i64 1)).set (b := b16) (j := 6) (by omega) (.int .i64 ((i : Int) + 1)))
            exact ⟨i + 1, A7, n7, c7, by go_num, rfl, by omega, ⟨by simp [World.setCell, Array.getElem?_modify, Hv7.out.blk], hpx.rd, hpx.len⟩, (((((((Hb7.out.setCell (p := ⟨b16, 0, none⟩) (by simp only; omega) _).setCell (p := ⟨b16, 1, none⟩) (by simp only; omega) _).setCell (p := ⟨b16, 2, none⟩) (by simp only; omega) _).setCell (p := ⟨b16, 3, none⟩) (by simp only; omega) _).setCell (p := ⟨b16, 4, none⟩) (by simp only; omega) _).setCell (p := ⟨b16, 5, none⟩) (by simp only; omega) _).setCell (p := ⟨b16, 6, none⟩) (by simp only; omega) _)⟩
          case measure => simp [intOf]; omega
        · obtain rfl : i = K := by omega
          obtain ⟨⟨eP, eN, eQ, eO, eD, eT, eX⟩, hce, ho, hnx, hpp⟩ := turn_end (turn_okb Hc.out Hpf.out.1 Hpf.out.2 (show (0 : Int) ≤ i by omega) (by omega)) (by omega) rfl rfl
          simp only at ho hnx hpp
          subst ho hnx
          have HC := mapply_any A6 n6 c6 ⟨aP, aN, aQ, true, (d : Int), 1, (i : Int)⟩ ⟨5, 0, 0, 0⟩ wr hv.rd hv.len (by omega) Hc.out.ok.asc Hc.out.ok.n0 Hc.out.ok.n1 (by simp only; omega) (by simp only; omega) hPo
          rw [appV_some hce] at HC
          unfold stVal edVal at HC
          simp only at HC
          replace HC := Lib.hid HC
          have HE := Lib.hid (turns_parts Hc.out.ok.asc Hpf.out.1 (q := ⟨d, 1, fileB aN⟩) rfl)
          rw [← hpp] at HE
          have Hbel := Lib.hid hbel
          have HPo := Lib.hid hPo
          have q1 : ((i : Int) != (i : Int)) = false := by simp
          clear hv hbel hPo hce hpp
          go_wp2_with fail
          refine HC.out.mono ?_
          rintro e8 w8 ⟨A8, n8, c8, rfl, hp8, hb8⟩
          unfold stVal
          simp only at hp8 ⊢
          clear x16_0 x16_1 x16_2 x16_3 x16_4 x16_5 x16_6
          obtain ⟨b19, hb19'⟩ : ∃ b, w8.heap.size = b := ⟨_, rfl⟩
          obtain ⟨W19, hW19, hbel19, hv19⟩ : ∃ W, w8.alloc (.cells #[.slice A8 n8 c8, .int .i64 (aN + 1), .int .i64 eQ, .bool false, .int .i64 eD, .int .i64 eT, .int .i64 eX] 25) = W ∧ Below V15.heap.size V15 W ∧ Var W b19 25 A8 n8 c8 ⟨eP, (aN + 1), eQ, false, eD, eT, eX⟩ :=
            ⟨_, rfl, Hbel.out.then (hb8.then (Below.one _ _)), Var.new (T := 25) (A := A8) (n := n8) (c := c8) (s := ⟨eP, (aN + 1), eQ, false, eD, eT, eX⟩) hb19' hp8.rd hp8.len⟩
          have HQ19 := Lib.hid hv19
          replace HQ12 := Lib.hid (HQ12.out.below hbel19)
          replace HBW := Lib.hid (HBW.out.then hbel19)
          replace HPW := Lib.hid (HPW.out.below hbel19)
          obtain rfl : n8 = n5 := by have := HE.out.1; have := hp8.len; have := HQ12.out.len; simp only at *; omega
          have q2 : ((n8 : Int) != (n8 : Int)) = false := by simp
          have q3 : (aN + 1 != aN + 1) = false := by simp
          have m1 : IntKind.i64.wrap (aN + 1) = aN + 1 := by have := Hc.out.ok.n0; have := Hc.out.ok.n1; simp only at *; rw [IntKind.wrap_i64]; omega
          obtain ⟨x12_0, x12_1, -, -, -, -, -, -⟩ := seven HQ12.out.blk
          obtain ⟨x19_0, x19_1, -, x19_3, -, -, -, -⟩ := seven HQ19.out.blk
          clear hp8 hb8 hbel19 hv19 Hbel HPo HC
          go_wp2_with fail
          try simp only [hW19]
          clear hW19 hb19' x12_0 x12_1 x19_0 x19_1 x19_3 q1 q2 q3
          go_loopw [21] (fun iv wr => CntRel W19 n8 iv wr) (fun iv _ => n8 - (intOf iv).toNat)
          case atStart => exact ⟨0, rfl, Nat.zero_le _, Below.refl _ _⟩
          case round =>
            obtain ⟨k, rfl, hk, hbel⟩ := hrel
            have hn8 : n8 ≤ 61 := Hn12.out
            have hv12 := HQ12.out.below hbel
            have hv19 := HQ19.out.below hbel
            obtain ⟨x12_0, x12_1, -, -, -, -, -, -⟩ := seven hv12.blk
            obtain ⟨x19_0, -, -, -, -, -, -, -⟩ := seven hv19.blk
            have lt12 := hv12.lt
            have lt19 := hv19.lt
            by_cases hlt : k < n8
            · have hka : k < aP.length := by have := hv12.len; simp only at this; omega
              have hke : k < eP.length := by have := hv19.len; simp only at this; omega
              have hk1 : (k : Int) < n8 := by omega
              obtain ⟨g1, o1, rfl, hg1, s0, s1, s2⟩ := part_at hv12.rd hka
              obtain ⟨g2, o2, rfl, hg2, t0, t1, t2⟩ := part_at hv19.rd hke
              have hE := HE.out.2 k hka hke
              obtain ⟨y, hy⟩ : ∃ y, aP[k] = y := ⟨_, rfl⟩
              obtain ⟨z, hz⟩ : ∃ z, eP[k] = z := ⟨_, rfl⟩
              rw [hy] at s0 s1 s2 hE
              rw [hz] at t0 t1 t2 hE
              have Hbel := Lib.hid hbel
              have HF := Lib.hid (fun (w' : World) (h : Below wr.heap.size wr w') => file_any aN (by have := Hc.out.ok.n1; simp only at this; omega) w' ((HPW.out.below hbel).below h))
              clear hy hz hka hke hbel hv12 hv19
              by_cases hday : y.Day = (d : Int)
              · obtain ⟨rfl, rfl⟩ := hE.1 hday
                have u1 : (y.Day == (d : Int)) = true := beq_iff_eq.2 hday
                have u2 : y.Layout = 0 := Hpf.out.2
                rw [u2] at s1
                simp only at t0 t1 t2
                clear hE hday u2
                go_wp2_with fail
                refine wp_region_held_drew (S := fun w' => Below wr.heap.size wr w') (by kernel_rfl) ?_ (fun hHeld => ?_)
                · exact (Below.refl _ _).drew
                refine wpAnyH_take (i := 0) (oi := _) (v := ?_) (by simp only [List.getElem?_toArray, List.getElem?_cons_succ, List.getElem?_cons_zero]; rfl) (by kernel_rfl) (by kernel_rfl) (by kernel_rfl) (by exact fun _ _ _ h => h) (Or.inl ⟨by rfl, ?_⟩) (by assumption) ?_
                rotate_left
                · (intro w' hSw; obtain ⟨hbc, -⟩ := bcell hSw; go_simp) <;> with_reducible rfl
                try simp only [Act.put, List.setIfInBounds_toArray, List.set_cons_zero, List.set_cons_succ]
                refine wpAnyH_take (i := 1) (oi := _) (v := ?_) (by simp only [List.getElem?_toArray, List.getElem?_cons_succ, List.getElem?_cons_zero]; rfl) (by kernel_rfl) (by kernel_rfl) (by kernel_rfl) (by exact fun _ _ _ h => h) (Or.inl ⟨by rfl, ?_⟩) (by assumption) ?_
                rotate_left
                · (intro w' hSw; obtain ⟨hbc, -⟩ := bcell hSw; go_simp) <;> with_reducible rfl
                try simp only [Act.put, List.setIfInBounds_toArray, List.set_cons_zero, List.set_cons_succ]
                refine wpAnyH_take (i := 2) (oi := _) (v := ?_) (by simp only [List.getElem?_toArray, List.getElem?_cons_succ, List.getElem?_cons_zero]; rfl) (by kernel_rfl) (by kernel_rfl) (by kernel_rfl) (by exact fun _ _ _ h => h) (Or.inl ⟨by rfl, ?_⟩) (by assumption) ?_
                rotate_left
                · (intro w' hSw; obtain ⟨hbc, -⟩ := bcell hSw; go_simp) <;> with_reducible rfl
                try simp only [Act.put, List.setIfInBounds_toArray, List.set_cons_zero, List.set_cons_succ]
                refine wpAnyH_take (i := 3) (oi := _) (v := ?_) (by simp only [List.getElem?_toArray, List.getElem?_cons_succ, List.getElem?_cons_zero]; rfl) (by kernel_rfl) (by kernel_rfl) (by kernel_rfl) (by exact fun _ _ _ h => h) (Or.inl ⟨by rfl, ?_⟩) (by assumption) ?_
                rotate_left
                · (intro w' hSw; obtain ⟨hbc, -⟩ := bcell hSw; go_simp) <;> with_reducible rfl
                try simp only [Act.put, List.setIfInBounds_toArray, List.set_cons_zero, List.set_cons_succ]
                refine wpAnyH_take (i := 4) (oi := _) (v := ?_) (by simp only [List.getElem?_toArray, List.getElem?_cons_succ, List.getElem?_cons_zero]; rfl) (by kernel_rfl) (by kernel_rfl) (by kernel_rfl) (by exact fun _ _ _ h => h) (Or.inl ⟨by rfl, ?_⟩) (by assumption) ?_
                rotate_left
                · (intro w' hSw; obtain ⟨hbc, -⟩ := bcell hSw; go_simp) <;> with_reducible rfl
                try simp only [Act.put, List.setIfInBounds_toArray, List.set_cons_zero, List.set_cons_succ]
                refine wpAnyH_take (i := 5) (oi := _) (v := ?_) (by simp only [List.getElem?_toArray, List.getElem?_cons_succ, List.getElem?_cons_zero]; rfl) (by kernel_rfl) (by kernel_rfl) (by kernel_rfl) (by exact fun _ _ _ h => h) (Or.inl ⟨by rfl, ?_⟩) (by assumption) ?_
                rotate_left
                · (intro w' hSw; obtain ⟨hbc, -⟩ := bcell hSw; go_simp) <;> with_reducible rfl
                try simp only [Act.put, List.setIfInBounds_toArray, List.set_cons_zero, List.set_cons_succ]
                refine wpAnyH_take (i := 6) (oi := _) (v := ?_) (by simp only [List.getElem?_toArray, List.getElem?_cons_succ, List.getElem?_cons_zero]; rfl) (by kernel_rfl) (by kernel_rfl) (by kernel_rfl) (by exact fun _ _ _ h => h) (Or.inl ⟨by rfl, ?_⟩) (by assumption) ?_
                rotate_left
                · (intro w' hSw; obtain ⟨hbc, -⟩ := bcell hSw; go_simp) <;> with_reducible rfl
                try simp only [Act.put, List.setIfInBounds_toArray, List.set_cons_zero, List.set_cons_succ]
                refine wpAnyH_take (i := 7) (oi := _) (v := ?_) (by simp only [List.getElem?_toArray, List.getElem?_cons_succ, List.getElem?_cons_zero]; rfl) (by kernel_rfl) (by kernel_rfl) (by kernel_rfl) (by exact fun _ _ _ h => h) (Or.inl ⟨by rfl, ?_⟩) (by assumption) ?_
                rotate_left
                · (intro w' hSw; obtain ⟨hbc, -⟩ := bcell hSw; go_simp) <;> with_reducible rfl
                try simp only [Act.put, List.setIfInBounds_toArray, List.set_cons_zero, List.set_cons_succ]
                refine wpAnyH_take (i := 8) (oi := _) (v := ?_) (by simp only [List.getElem?_toArray, List.getElem?_cons_succ, List.getElem?_cons_zero]; rfl) (by kernel_rfl) (by kernel_rfl) (by kernel_rfl) (by exact fun _ _ _ h => h) (Or.inl ⟨by rfl, ?_⟩) (by assumption) ?_
                rotate_left
                · (intro w' hSw; obtain ⟨hbc, -⟩ := bcell hSw; go_simp) <;> with_reducible rfl
                try simp only [Act.put, List.setIfInBounds_toArray, List.set_cons_zero, List.set_cons_succ]
                refine wpAnyH_take (i := 9) (oi := _) (v := ?_) (by simp only [List.getElem?_toArray, List.getElem?_cons_succ, List.getElem?_cons_zero]; rfl) (by kernel_rfl) (by kernel_rfl) (by kernel_rfl) (by exact fun _ _ _ h => h) (Or.inl ⟨by rfl, ?_⟩) (by assumption) ?_
                rotate_left
                · (intro w' hSw; obtain ⟨hbc, -⟩ := bcell hSw; go_simp) <;> with_reducible rfl
                try simp only [Act.put, List.setIfInBounds_toArray, List.set_cons_zero, List.set_cons_succ]
                refine wpAnyH_take (i := 10) (oi := _) (v := ?_) (by simp only [List.getElem?_toArray, List.getElem?_cons_succ, List.getElem?_cons_zero]; rfl) (by kernel_rfl) (by kernel_rfl) (by kernel_rfl) (by exact fun _ _ _ h => h) (Or.inl ⟨by rfl, ?_⟩) (by assumption) ?_
                rotate_left
                · (intro w' hSw; obtain ⟨hbc, -⟩ := bcell hSw; go_simp) <;> with_reducible rfl
                try simp only [Act.put, List.setIfInBounds_toArray, List.set_cons_zero, List.set_cons_succ]
                refine wpAnyH_take (i := 11) (oi := _) (v := ?_) (by simp only [List.getElem?_toArray, List.getElem?_cons_succ, List.getElem?_cons_zero]; rfl) (by kernel_rfl) (by kernel_rfl) (by kernel_rfl) (by exact fun _ _ _ h => h) (Or.inl ⟨by rfl, ?_⟩) (by assumption) ?_
                rotate_left
                · (intro w' hSw; obtain ⟨hbc, -⟩ := bcell hSw; go_simp) <;> with_reducible rfl
                try simp only [Act.put, List.setIfInBounds_toArray, List.set_cons_zero, List.set_cons_succ]
                refine wpAnyH_take (i := 12) (oi := _) (v := ?_) (by simp only [List.getElem?_toArray, List.getElem?_cons_succ, List.getElem?_cons_zero]; rfl) (by kernel_rfl) (by kernel_rfl) (by kernel_rfl) (by exact fun _ _ _ h => h) (Or.inl ⟨by rfl, ?_⟩) (by assumption) ?_
                rotate_left
                · (intro w' hSw; obtain ⟨hbc, -⟩ := bcell hSw; go_simp) <;> with_reducible rfl
                try simp only [Act.put, List.setIfInBounds_toArray, List.set_cons_zero, List.set_cons_succ]
                refine wpAnyH_take (i := 13) (oi := _) (v := ?_) (by simp only [List.getElem?_toArray, List.getElem?_cons_succ, List.getElem?_cons_zero]; rfl) (by kernel_rfl) (by kernel_rfl) (by kernel_rfl) (by exact fun _ _ _ h => h) (Or.inl ⟨by rfl, ?_⟩) (by assumption) ?_
                rotate_left
                · (intro w' hSw; obtain ⟨hbc, -⟩ := bcell hSw; go_simp) <;> with_reducible rfl
                try simp only [Act.put, List.setIfInBounds_toArray, List.set_cons_zero, List.set_cons_succ]
                refine wpAnyH_take (i := 14) (oi := _) (v := ?_) (by simp only [List.getElem?_toArray, List.getElem?_cons_succ, List.getElem?_cons_zero]; rfl) (by kernel_rfl) (by kernel_rfl) (by kernel_rfl) (by exact fun _ _ _ h => h) (Or.inl ⟨by rfl, ?_⟩) (by assumption) ?_
                rotate_left
                · (intro w' hSw; obtain ⟨hbc, -⟩ := bcell hSw; go_simp) <;> with_reducible rfl
                try simp only [Act.put, List.setIfInBounds_toArray, List.set_cons_zero, List.set_cons_succ]
                refine wpAnyH_take (i := 15) (oi := _) (v := ?_) (by simp only [List.getElem?_toArray, List.getElem?_cons_succ, List.getElem?_cons_zero]; rfl) (by kernel_rfl) (by kernel_rfl) (by kernel_rfl) (by exact fun _ _ _ h => h) (Or.inl ⟨by rfl, ?_⟩) (by assumption) ?_
                rotate_left
                · (intro w' hSw; obtain ⟨hbc, -⟩ := bcell hSw; go_simp) <;> with_reducible rfl
                try simp only [Act.put, List.setIfInBounds_toArray, List.set_cons_zero, List.set_cons_succ]
                refine wpAnyH_ready (rs := [16]) (by kernel_rfl) (by simp) ?_
                refine (AllReadyH.cons (o := _) (by simp only [List.getElem?_toArray, List.getElem?_cons_succ, List.getElem?_cons_zero]; rfl) (fun K hK => ?_) AllReadyH.nil)
                go_simp
                refine (HF.out _ hHeld).mono ?_
                rintro e9 w9 ⟨rfl, hb9⟩
                go_wp2_with fail
                refine hK.out _ _ ?_ (fun hHeld => ?_)
                · exact hHeld.then hb9
                clear hK K
                try simp only [Act.put, List.setIfInBounds_toArray, List.set_cons_zero, List.set_cons_succ]
                refine wpAnyH_take (i := 17) (oi := _) (v := ?_) (by simp only [List.getElem?_toArray, List.getElem?_cons_succ, List.getElem?_cons_zero]; rfl) (by kernel_rfl) (by kernel_rfl) (by kernel_rfl) (by exact fun _ _ _ h => h) (Or.inl ⟨by rfl, ?_⟩) (by assumption) ?_
                rotate_left
                · (intro w' hSw; obtain ⟨hbc, -⟩ := bcell hSw; go_simp) <;> with_reducible rfl
                try simp only [Act.put, List.setIfInBounds_toArray, List.set_cons_zero, List.set_cons_succ]
                refine wpAnyH_take (i := 18) (oi := _) (v := ?_) (by simp only [List.getElem?_toArray, List.getElem?_cons_succ, List.getElem?_cons_zero]; rfl) (by kernel_rfl) (by kernel_rfl) (by kernel_rfl) (by exact fun _ _ _ h => h) (Or.inl ⟨by rfl, ?_⟩) (by assumption) ?_
                rotate_left
                · (intro w' hSw; obtain ⟨hbc, -⟩ := bcell hSw; go_simp) <;> with_reducible rfl
                try simp only [Act.put, List.setIfInBounds_toArray, List.set_cons_zero, List.set_cons_succ]
                refine wpAnyH_take (i := 19) (oi := _) (v := ?_) (by simp only [List.getElem?_toArray, List.getElem?_cons_succ, List.getElem?_cons_zero]; rfl) (by kernel_rfl) (by kernel_rfl) (by kernel_rfl) (by exact fun _ _ _ h => h) (Or.inl ⟨by rfl, ?_⟩) (by assumption) ?_
                rotate_left
                · (intro w' hSw; obtain ⟨hbc, -⟩ := bcell hSw; go_simp) <;> with_reducible rfl
                try simp only [Act.put, List.setIfInBounds_toArray, List.set_cons_zero, List.set_cons_succ]
                refine wpAnyH_take (i := 20) (oi := _) (v := ?_) (by simp only [List.getElem?_toArray, List.getElem?_cons_succ, List.getElem?_cons_zero]; rfl) (by kernel_rfl) (by kernel_rfl) (by kernel_rfl) (by exact fun _ _ _ h => h) (Or.inl ⟨by rfl, ?_⟩) (by assumption) ?_
                rotate_left
                · (intro w' hSw; obtain ⟨hbc, -⟩ := bcell hSw; go_simp) <;> with_reducible rfl
                try simp only [Act.put, List.setIfInBounds_toArray, List.set_cons_zero, List.set_cons_succ]
                refine wpAnyH_take (i := 21) (oi := _) (v := ?_) (by simp only [List.getElem?_toArray, List.getElem?_cons_succ, List.getElem?_cons_zero]; rfl) (by kernel_rfl) (by kernel_rfl) (by kernel_rfl) (by exact fun _ _ _ h => h) (Or.inl ⟨by rfl, ?_⟩) (by assumption) ?_
                rotate_left
                · (intro w' hSw; obtain ⟨hbc, -⟩ := bcell hSw; go_simp) <;> with_reducible rfl
                try simp only [Act.put, List.setIfInBounds_toArray, List.set_cons_zero, List.set_cons_succ]
                refine wpAnyH_take (i := 22) (oi := _) (v := ?_) (by simp only [List.getElem?_toArray, List.getElem?_cons_succ, List.getElem?_cons_zero]; rfl) (by kernel_rfl) (by kernel_rfl) (by kernel_rfl) (by exact fun _ _ _ h => h) (Or.inl ⟨by rfl, ?_⟩) (by assumption) ?_
                rotate_left
                · (intro w' hSw; obtain ⟨hbc, -⟩ := bcell hSw; go_simp) <;> with_reducible rfl
                try simp only [Act.put, List.setIfInBounds_toArray, List.set_cons_zero, List.set_cons_succ]
                refine wpAnyH_take (i := 23) (oi := _) (v := ?_) (by simp only [List.getElem?_toArray, List.getElem?_cons_succ, List.getElem?_cons_zero]; rfl) (by kernel_rfl) (by kernel_rfl) (by kernel_rfl) (by exact fun _ _ _ h => h) (Or.inl ⟨by rfl, ?_⟩) (by assumption) ?_
                rotate_left
                · (intro w' hSw; obtain ⟨hbc, -⟩ := bcell hSw; go_simp) <;> with_reducible rfl
                try simp only [Act.put, List.setIfInBounds_toArray, List.set_cons_zero, List.set_cons_succ]
                refine wpAnyH_take (i := 24) (oi := _) (v := ?_) (by simp only [List.getElem?_toArray, List.getElem?_cons_succ, List.getElem?_cons_zero]; rfl) (by kernel_rfl) (by kernel_rfl) (by kernel_rfl) (by exact fun _ _ _ h => h) (Or.inl ⟨by rfl, ?_⟩) (by assumption) ?_
                rotate_left
                · (intro w' hSw; obtain ⟨hbc, -⟩ := bcell hSw; go_simp) <;> with_reducible rfl
                try simp only [Act.put, List.setIfInBounds_toArray, List.set_cons_zero, List.set_cons_succ]
                refine wpAnyH_take (i := 25) (oi := _) (v := ?_) (by simp only [List.getElem?_toArray, List.getElem?_cons_succ, List.getElem?_cons_zero]; rfl) (by kernel_rfl) (by kernel_rfl) (by kernel_rfl) (by exact fun _ _ _ h => h) (Or.inl ⟨by rfl, ?_⟩) (by assumption) ?_
                rotate_left
                · (intro w' hSw; obtain ⟨hbc, -⟩ := bcell hSw; go_simp) <;> with_reducible rfl
                try simp only [Act.put, List.setIfInBounds_toArray, List.set_cons_zero, List.set_cons_succ]
                refine wpAnyH_take (i := 26) (oi := _) (v := ?_) (by simp only [List.getElem?_toArray, List.getElem?_cons_succ, List.getElem?_cons_zero]; rfl) (by kernel_rfl) (by kernel_rfl) (by kernel_rfl) (by exact fun _ _ _ h => h) (Or.inl ⟨by rfl, ?_⟩) (by assumption) ?_
                rotate_left
                · (intro w' hSw; obtain ⟨hbc, -⟩ := bcell hSw; go_simp) <;> with_reducible rfl
                try simp only [Act.put, List.setIfInBounds_toArray, List.set_cons_zero, List.set_cons_succ]
                refine wpAnyH_take (i := 27) (oi := _) (v := ?_) (by simp only [List.getElem?_toArray, List.getElem?_cons_succ, List.getElem?_cons_zero]; rfl) (by kernel_rfl) (by kernel_rfl) (by kernel_rfl) (by exact fun _ _ _ h => h) (Or.inl ⟨by rfl, ?_⟩) (by assumption) ?_
                rotate_left
                · (intro w' hSw; obtain ⟨hbc, -⟩ := bcell hSw; go_simp) <;> with_reducible rfl
                try simp only [Act.put, List.setIfInBounds_toArray, List.set_cons_zero, List.set_cons_succ]
                refine wpAnyH_done (by kernel_rfl) ?_ _
                go_wp2_with fail
                go_roundw
                case rel => exact ⟨k + 1, by go_num, by omega, Hbel.out.then hHeld⟩
                case measure => simp [intOf]; omega
              · have hz := hE.2 hday
                subst hz
                obtain ⟨pD, pL, pF⟩ := z
                simp only at s0 s1 s2 t0 t1 t2 hday
                have u1 : (pD == (d : Int)) = false := beq_eq_false_iff_ne.2 hday
                have hg := part_guard
                have hne := fun w => run_part_neq pD pL (S pF) pD pL (S pF) w
                rw [ptEq_self] at hne
                clear hE hday HF
                go_wp2_with fail
                go_quiet (fail)
                go_wp2_with fail
                go_roundw
                case rel => exact ⟨k + 1, by go_num, by omega, below_drewN Hbel.out _⟩
                case measure => simp [intOf]; omega
            · obtain rfl : k = n8 := by omega
              have Hbel := Lib.hid hbel
              clear hv12 hv19 hbel
              go_wp2_with fail
              go_ret
              exact ⟨rfl, HBW.out.then Hbel.out⟩
    | false =>
      obtain ⟨ha1, ha2, ha3⟩ := Hoka.out.ok.offs rfl
      simp only at ha1 ha2 ha3
      subst ha1 ha2 ha3
      have Hc := Hoka
      have Hn12 := Hn4
      clear x12_0 x12_1 x12_2 x12_3 x12_4 x12_5 x12_6 lt12'
      obtain ⟨x12_0, x12_1, x12_2, x12_3, x12_4, x12_5, x12_6, -⟩ := seven HQ12.out.blk
      have HC := mapply_any A4 n4 c4 ⟨aP, aN, aQ, false, 0, 0, 0⟩ ⟨3, d, 1, 0⟩ V12 HQ12.out.rd HQ12.out.len (by have := Hn12.out; omega) Hc.out.ok.asc Hc.out.ok.n0 Hc.out.ok.n1 Hc.out.ok.done0 Hc.out.ok.done1 HPW.out
      rw [appV_some (turn_begin (a := ⟨aP, aN, aQ, false, 0, 0, 0⟩) Hpf.out.1 Hpf.out.2 rfl)] at HC
      unfold stVal edVal at HC
      simp only at HC
      replace HC := Lib.hid HC
      go_wp2_with fail
      refine HC.out.mono ?_
      rintro e6 w6 ⟨A6, n6, c6, rfl, hp6, hb6⟩
      unfold stVal
      simp only at hp6 ⊢
      clear x12_0 x12_1 x12_2 x12_3 x12_4 x12_5 x12_6
      have hle16 : V12.heap.size ≤ w6.heap.size := hb6.size
      obtain ⟨b16, hb16'⟩ : ∃ b, w6.heap.size = b := ⟨_, rfl⟩
      rw [hb16'] at hle16
      obtain ⟨W16, hW16, hbel16, hv16⟩ : ∃ W, w6.alloc (.cells #[.slice A6 n6 c6, .int .i64 aN, .int .i64 aQ, .bool true, .int .i64 (d : Int), .int .i64 1, .int .i64 0] 25) = W ∧ Below V12.heap.size V12 W ∧ Var W b16 25 A6 n6 c6 ⟨aP, aN, aQ, true, (d : Int), 1, 0⟩ :=
        ⟨_, rfl, hb6.then (Below.one _ _), Var.new (T := 25) (A := A6) (n := n6) (c := c6) (s := ⟨aP, aN, aQ, true, (d : Int), 1, 0⟩) hb16' hp6.rd hp6.len⟩
      have H16 := Lib.hid (And.intro hv16 hbel16)
      have HW16 := Lib.hid hW16
      clear hp6 hb6 hv16 hbel16 HC hW16
      go_wp2_with fail
      simp only [HW16.out]
      clear hb16'
      go_loopw [17, 18] (fun gv iv wr => TurnRel V12 b16 25 K d aP aN aQ gv iv wr) (fun _ iv _ => K - (intOf iv).toNat)
      case atStart => exact ⟨0, A6, n6, c6, rfl, rfl, Nat.zero_le _, H16.out.1, H16.out.2⟩
      case round =>
        obtain ⟨i, A6, n6, c6, rfl, rfl, hi, hv, hbel⟩ := hrel
        clear H16
        have hPo := HPW.out.below hbel
        obtain ⟨x16_0, x16_1, x16_2, x16_3, x16_4, x16_5, x16_6, -⟩ := seven hv.blk
        have hln6 : n6 ≤ 61 := by have := Hc.out.len; have := hv.len; simp only at *; omega
        by_cases hlt : i < K
        · have hk1 : (i : Int) < K := by omega
          have HC := mapply_any A6 n6 c6 ⟨aP, aN, aQ, true, (d : Int), 1, (i : Int)⟩ ⟨4, 0, 0, 0⟩ wr hv.rd hv.len (by omega) Hc.out.ok.asc Hc.out.ok.n0 Hc.out.ok.n1 (by simp only; omega) (by simp only; omega) hPo
          rw [appV_some (turn_step (b := ⟨aP, aN, aQ, true, (d : Int), 1, (i : Int)⟩) rfl (by simp only; omega))] at HC
          unfold stVal edVal at HC
          simp only at HC
          replace HC := Lib.hid HC
          have Hv := Lib.hid hv
          have Hbel := Lib.hid hbel
          clear hv hbel hPo
          go_wp2_with fail
          refine HC.out.mono ?_
          rintro e7 w7 ⟨A7, n7, c7, rfl, hp7, hb7⟩
          unfold stVal
          simp only at hp7 ⊢
          have hv7 := Hv.out.below hb7
          have hl16 := Hv.out.lt
          have Hp7 := Lib.hid hp7
          have Hb7 := Lib.hid (Hbel.out.then hb7)
          clear x16_0 x16_1 x16_2 x16_3 x16_4 x16_5 x16_6
          obtain ⟨x16_0, x16_1, x16_2, x16_3, x16_4, x16_5, x16_6, z16⟩ := seven hv7.blk
          have z0 := z16 0
          have z1 := z16 1
          have z2 := z16 2
          have z3 := z16 3
          have z4 := z16 4
          have z5 := z16 5
          have z6 := z16 6
          have Hv7 := Lib.hid hv7
          clear z16 hv7 hp7 hb7
          go_wp2_with fail
          go_roundw
          case rel =>
            have hpx := (((((((Hp7.out.set (b := b16) (j := 0) (by omega) (.slice A7 n7 c7)).set (b := b16) (j := 1) (by omega) (.int .i64 aN)).set (b := b16) (j := 2) (by omega) (.int .i64 aQ)).set (b := b16) (j := 3) (by omega) (.bool true)).set (b := b16) (j := 4) (by omega) (.int .i64 (d : Int))).set (b := b16) (j := 5) (by omega) (.int .i64 1)).set (b := b16) (j := 6) (by omega) (.int .i64 ((i : Int) + 1)))
            exact ⟨i + 1, A7, n7, c7, by go_num, rfl, by omega, ⟨by simp [World.setCell, Array.getElem?_modify, Hv7.out.blk], hpx.rd, hpx.len⟩, (((((((Hb7.out.setCell (p := ⟨b16, 0, none⟩) (by simp only; omega) _).setCell (p := ⟨b16, 1, none⟩) (by simp only; omega) _).setCell (p := ⟨b16, 2, none⟩) (by simp only; omega) _).setCell (p := ⟨b16, 3, none⟩) (by simp only; omega) _).setCell (p := ⟨b16, 4, none⟩) (by simp only; omega) _).setCell (p := ⟨b16, 5, none⟩) (by simp only; omega) _).setCell (p := ⟨b16, 6, none⟩) (by simp only; omega) _)⟩
          case measure => simp [intOf]; omega
        · obtain rfl : i = K := by omega
          obtain ⟨⟨eP, eN, eQ, eO, eD, eT, eX⟩, hce, ho, hnx, hpp⟩ := turn_end (turn_okb Hc.out Hpf.out.1 Hpf.out.2 (show (0 : Int) ≤ i by omega) (by omega)) (by omega) rfl rfl
          simp only at ho hnx hpp
          subst ho hnx
          have HC := mapply_any A6 n6 c6 ⟨aP, aN, aQ, true, (d : Int), 1, (i : Int)⟩ ⟨5, 0, 0, 0⟩ wr hv.rd hv.len (by omega) Hc.out.ok.asc Hc.out.ok.n0 Hc.out.ok.n1 (by simp only; omega) (by simp only; omega) hPo
          rw [appV_some hce] at HC
          unfold stVal edVal at HC
          simp only at HC
          replace HC := Lib.hid HC
          have HE := Lib.hid (turns_parts Hc.out.ok.asc Hpf.out.1 (q := ⟨d, 1, fileB aN⟩) rfl)
          rw [← hpp] at HE
          have Hbel := Lib.hid hbel
          have HPo := Lib.hid hPo
          have q1 : ((i : Int) != (i : Int)) = false := by simp
          clear hv hbel hPo hce hpp
          go_wp2_with fail
          refine HC.out.mono ?_
          rintro e8 w8 ⟨A8, n8, c8, rfl, hp8, hb8⟩
          unfold stVal
          simp only at hp8 ⊢
          clear x16_0 x16_1 x16_2 x16_3 x16_4 x16_5 x16_6
          obtain ⟨b19, hb19'⟩ : ∃ b, w8.heap.size = b := ⟨_, rfl⟩
          obtain ⟨W19, hW19, hbel19, hv19⟩ : ∃ W, w8.alloc (.cells #[.slice A8 n8 c8, .int .i64 (aN + 1), .int .i64 eQ, .bool false, .int .i64 eD, .int .i64 eT, .int .i64 eX] 25) = W ∧ Below V12.heap.size V12 W ∧ Var W b19 25 A8 n8 c8 ⟨eP, (aN + 1), eQ, false, eD, eT, eX⟩ :=
            ⟨_, rfl, Hbel.out.then (hb8.then (Below.one _ _)), Var.new (T := 25) (A := A8) (n := n8) (c := c8) (s := ⟨eP, (aN + 1), eQ, false, eD, eT, eX⟩) hb19' hp8.rd hp8.len⟩
          have HQ19 := Lib.hid hv19
          replace HQ12 := Lib.hid (HQ12.out.below hbel19)
          replace HBW := Lib.hid (HBW.out.then hbel19)
          replace HPW := Lib.hid (HPW.out.below hbel19)
          obtain rfl : n8 = n4 := by have := HE.out.1; have := hp8.len; have := HQ12.out.len; simp only at *; omega
          have q2 : ((n8 : Int) != (n8 : Int)) = false := by simp
          have q3 : (aN + 1 != aN + 1) = false := by simp
          have m1 : IntKind.i64.wrap (aN + 1) = aN + 1 := by have := Hc.out.ok.n0; have := Hc.out.ok.n1; simp only at *; rw [IntKind.wrap_i64]; omega
          obtain ⟨x12_0, x12_1, -, -, -, -, -, -⟩ := seven HQ12.out.blk
          obtain ⟨x19_0, x19_1, -, x19_3, -, -, -, -⟩ := seven HQ19.out.blk
          clear hp8 hb8 hbel19 hv19 Hbel HPo HC
          go_wp2_with fail
          try simp only [hW19]
          clear hW19 hb19' x12_0 x12_1 x19_0 x19_1 x19_3 q1 q2 q3
          go_loopw [21] (fun iv wr => CntRel W19 n8 iv wr) (fun iv _ => n8 - (intOf iv).toNat)
          case atStart => exact ⟨0, rfl, Nat.zero_le _, Below.refl _ _⟩
          case round =>
            obtain ⟨k, rfl, hk, hbel⟩ := hrel
            have hn8 : n8 ≤ 61 := Hn12.out
            have hv12 := HQ12.out.below hbel
            have hv19 := HQ19.out.below hbel
            obtain ⟨x12_0, x12_1, -, -, -, -, -, -⟩ := seven hv12.blk
            obtain ⟨x19_0, -, -, -, -, -, -, -⟩ := seven hv19.blk
            have lt12 := hv12.lt
            have lt19 := hv19.lt
            by_cases hlt : k < n8
            · have hka : k < aP.length := by have := hv12.len; simp only at this; omega
              have hke : k < eP.length := by have := hv19.len; simp only at this; omega
              have hk1 : (k : Int) < n8 := by omega
              obtain ⟨g1, o1, rfl, hg1, s0, s1, s2⟩ := part_at hv12.rd hka
              obtain ⟨g2, o2, rfl, hg2, t0, t1, t2⟩ := part_at hv19.rd hke
              have hE := HE.out.2 k hka hke
              obtain ⟨y, hy⟩ : ∃ y, aP[k] = y := ⟨_, rfl⟩
              obtain ⟨z, hz⟩ : ∃ z, eP[k] = z := ⟨_, rfl⟩
              rw [hy] at s0 s1 s2 hE
              rw [hz] at t0 t1 t2 hE
              have Hbel := Lib.hid hbel
              have HF := Lib.hid (fun (w' : World) (h : Below wr.heap.size wr w') => file_any aN (by have := Hc.out.ok.n1; simp only at this; omega) w' ((HPW.out.below hbel).below h))
              clear hy hz hka hke hbel hv12 hv19
              by_cases hday : y.Day = (d : Int)
              · obtain ⟨rfl, rfl⟩ := hE.1 hday
                have u1 : (y.Day == (d : Int)) = true := beq_iff_eq.2 hday
                have u2 : y.Layout = 0 := Hpf.out.2
                rw [u2] at s1
                simp only at t0 t1 t2
                clear hE hday u2
                go_wp2_with fail
                refine wp_region_held_drew (S := fun w' => Below wr.heap.size wr w') (by kernel_rfl) ?_ (fun hHeld => ?_)
                · exact (Below.refl _ _).drew
                refine wpAnyH_take (i := 0) (oi := _) (v := ?_) (by simp only [List.getElem?_toArray, List.getElem?_cons_succ, List.getElem?_cons_zero]; rfl) (by kernel_rfl) (by kernel_rfl) (by kernel_rfl) (by exact fun _ _ _ h => h) (Or.inl ⟨by rfl, ?_⟩) (by assumption) ?_
                rotate_left
                · (intro w' hSw; obtain ⟨hbc, -⟩ := bcell hSw; go_simp) <;> with_reducible rfl
                try simp only [Act.put, List.setIfInBounds_toArray, List.set_cons_zero, List.set_cons_succ]
                refine wpAnyH_take (i := 1) (oi := _) (v := ?_) (by simp only [List.getElem?_toArray, List.getElem?_cons_succ, List.getElem?_cons_zero]; rfl) (by kernel_rfl) (by kernel_rfl) (by kernel_rfl) (by exact fun _ _ _ h => h) (Or.inl ⟨by rfl, ?_⟩) (by assumption) ?_
                rotate_left
                · (intro w' hSw; obtain ⟨hbc, -⟩ := bcell hSw; go_simp) <;> with_reducible rfl
                try simp only [Act.put, List.setIfInBounds_toArray, List.set_cons_zero, List.set_cons_succ]
                refine wpAnyH_take (i := 2) (oi := _) (v := ?_) (by simp only [List.getElem?_toArray, List.getElem?_cons_succ, List.getElem?_cons_zero]; rfl) (by kernel_rfl) (by kernel_rfl) (by kernel_rfl) (by exact fun _ _ _ h => h) (Or.inl ⟨by rfl, ?_⟩) (by assumption) ?_
                rotate_left
                · (intro w' hSw; obtain ⟨hbc, -⟩ := bcell hSw; go_simp) <;> with_reducible rfl
                try simp only [Act.put, List.setIfInBounds_toArray, List.set_cons_zero, List.set_cons_succ]
                refine wpAnyH_take (i := 3) (oi := _) (v := ?_) (by simp only [List.getElem?_toArray, List.getElem?_cons_succ, List.getElem?_cons_zero]; rfl) (by kernel_rfl) (by kernel_rfl) (by kernel_rfl) (by exact fun _ _ _ h => h) (Or.inl ⟨by rfl, ?_⟩) (by assumption) ?_
                rotate_left
                · (intro w' hSw; obtain ⟨hbc, -⟩ := bcell hSw; go_simp) <;> with_reducible rfl
                try simp only [Act.put, List.setIfInBounds_toArray, List.set_cons_zero, List.set_cons_succ]
                refine wpAnyH_take (i := 4) (oi := _) (v := ?_) (by simp only [List.getElem?_toArray, List.getElem?_cons_succ, List.getElem?_cons_zero]; rfl) (by kernel_rfl) (by kernel_rfl) (by kernel_rfl) (by exact fun _ _ _ h => h) (Or.inl ⟨by rfl, ?_⟩) (by assumption) ?_
                rotate_left
                · (intro w' hSw; obtain ⟨hbc, -⟩ := bcell hSw; go_simp) <;> with_reducible rfl
                try simp only [Act.put, List.setIfInBounds_toArray, List.set_cons_zero, List.set_cons_succ]
                refine wpAnyH_take (i := 5) (oi := _) (v := ?_) (by simp only [List.getElem?_toArray, List.getElem?_cons_succ, List.getElem?_cons_zero]; rfl) (by kernel_rfl) (by kernel_rfl) (by kernel_rfl) (by exact fun _ _ _ h => h) (Or.inl ⟨by rfl, ?_⟩) (by assumption) ?_
                rotate_left
                · (intro w' hSw; obtain ⟨hbc, -⟩ := bcell hSw; go_simp) <;> with_reducible rfl
                try simp only [Act.put, List.setIfInBounds_toArray, List.set_cons_zero, List.set_cons_succ]
                refine wpAnyH_take (i := 6) (oi := _) (v := ?_) (by simp only [List.getElem?_toArray, List.getElem?_cons_succ, List.getElem?_cons_zero]; rfl) (by kernel_rfl) (by kernel_rfl) (by kernel_rfl) (by exact fun _ _ _ h => h) (Or.inl ⟨by rfl, ?_⟩) (by assumption) ?_
                rotate_left
                · (intro w' hSw; obtain ⟨hbc, -⟩ := bcell hSw; go_simp) <;> with_reducible rfl
                try simp only [Act.put, List.setIfInBounds_toArray, List.set_cons_zero, List.set_cons_succ]
                refine wpAnyH_take (i := 7) (oi := _) (v := ?_) (by simp only [List.getElem?_toArray, List.getElem?_cons_succ, List.getElem?_cons_zero]; rfl) (by kernel_rfl) (by kernel_rfl) (by kernel_rfl) (by exact fun _ _ _ h => h) (Or.inl ⟨by rfl, ?_⟩) (by assumption) ?_
                rotate_left
                · (intro w' hSw; obtain ⟨hbc, -⟩ := bcell hSw; go_simp) <;> with_reducible rfl
                try simp only [Act.put, List.setIfInBounds_toArray, List.set_cons_zero, List.set_cons_succ]
                refine wpAnyH_take (i := 8) (oi := _) (v := ?_) (by simp only [List.getElem?_toArray, List.getElem?_cons_succ, List.getElem?_cons_zero]; rfl) (by kernel_rfl) (by kernel_rfl) (by kernel_rfl) (by exact fun _ _ _ h => h) (Or.inl ⟨by rfl, ?_⟩) (by assumption) ?_
                rotate_left
                · (intro w' hSw; obtain ⟨hbc, -⟩ := bcell hSw; go_simp) <;> with_reducible rfl
                try simp only [Act.put, List.setIfInBounds_toArray, List.set_cons_zero, List.set_cons_succ]
                refine wpAnyH_take (i := 9) (oi := _) (v := ?_) (by simp only [List.getElem?_toArray, List.getElem?_cons_succ, List.getElem?_cons_zero]; rfl) (by kernel_rfl) (by kernel_rfl) (by kernel_rfl) (by exact fun _ _ _ h => h) (Or.inl ⟨by rfl, ?_⟩) (by assumption) ?_
                rotate_left
                · (intro w' hSw; obtain ⟨hbc, -⟩ := bcell hSw; go_simp) <;> with_reducible rfl
                try simp only [Act.put, List.setIfInBounds_toArray, List.set_cons_zero, List.set_cons_succ]
                refine wpAnyH_take (i := 10) (oi := _) (v := ?_) (by simp only [List.getElem?_toArray, List.getElem?_cons_succ, List.getElem?_cons_zero]; rfl) (by kernel_rfl) (by kernel_rfl) (by kernel_rfl) (by exact fun _ _ _ h => h) (Or.inl ⟨by rfl, ?_⟩) (by assumption) ?_
                rotate_left
                · (intro w' hSw; obtain ⟨hbc, -⟩ := bcell hSw; go_simp) <;> with_reducible rfl
                try simp only [Act.put, List.setIfInBounds_toArray, List.set_cons_zero, List.set_cons_succ]
                refine wpAnyH_take (i := 11) (oi := _) (v := ?_) (by simp only [List.getElem?_toArray, List.getElem?_cons_succ, List.getElem?_cons_zero]; rfl) (by kernel_rfl) (by kernel_rfl) (by kernel_rfl) (by exact fun _ _ _ h => h) (Or.inl ⟨by rfl, ?_⟩) (by assumption) ?_
                rotate_left
                · (intro w' hSw; obtain ⟨hbc, -⟩ := bcell hSw; go_simp) <;> with_reducible rfl
                try simp only [Act.put, List.setIfInBounds_toArray, List.set_cons_zero, List.set_cons_succ]
                refine wpAnyH_take (i := 12) (oi := _) (v := ?_) (by simp only [List.getElem?_toArray, List.getElem?_cons_succ, List.getElem?_cons_zero]; rfl) (by kernel_rfl) (by kernel_rfl) (by kernel_rfl) (by exact fun _ _ _ h => h) (Or.inl ⟨by rfl, ?_⟩) (by assumption) ?_
                rotate_left
                · (intro w' hSw; obtain ⟨hbc, -⟩ := bcell hSw; go_simp) <;> with_reducible rfl
                try simp only [Act.put, List.setIfInBounds_toArray, List.set_cons_zero, List.set_cons_succ]
                refine wpAnyH_take (i := 13) (oi := _) (v := ?_) (by simp only [List.getElem?_toArray, List.getElem?_cons_succ, List.getElem?_cons_zero]; rfl) (by kernel_rfl) (by kernel_rfl) (by kernel_rfl) (by exact fun _ _ _ h => h) (Or.inl ⟨by rfl, ?_⟩) (by assumption) ?_
                rotate_left
                · (intro w' hSw; obtain ⟨hbc, -⟩ := bcell hSw; go_simp) <;> with_reducible rfl
                try simp only [Act.put, List.setIfInBounds_toArray, List.set_cons_zero, List.set_cons_succ]
                refine wpAnyH_take (i := 14) (oi := _) (v := ?_) (by simp only [List.getElem?_toArray, List.getElem?_cons_succ, List.getElem?_cons_zero]; rfl) (by kernel_rfl) (by kernel_rfl) (by kernel_rfl) (by exact fun _ _ _ h => h) (Or.inl ⟨by rfl, ?_⟩) (by assumption) ?_
                rotate_left
                · (intro w' hSw; obtain ⟨hbc, -⟩ := bcell hSw; go_simp) <;> with_reducible rfl
                try simp only [Act.put, List.setIfInBounds_toArray, List.set_cons_zero, List.set_cons_succ]
                refine wpAnyH_take (i := 15) (oi := _) (v := ?_) (by simp only [List.getElem?_toArray, List.getElem?_cons_succ, List.getElem?_cons_zero]; rfl) (by kernel_rfl) (by kernel_rfl) (by kernel_rfl) (by exact fun _ _ _ h => h) (Or.inl ⟨by rfl, ?_⟩) (by assumption) ?_
                rotate_left
                · (intro w' hSw; obtain ⟨hbc, -⟩ := bcell hSw; go_simp) <;> with_reducible rfl
                try simp only [Act.put, List.setIfInBounds_toArray, List.set_cons_zero, List.set_cons_succ]
                refine wpAnyH_ready (rs := [16]) (by kernel_rfl) (by simp) ?_
                refine (AllReadyH.cons (o := _) (by simp only [List.getElem?_toArray, List.getElem?_cons_succ, List.getElem?_cons_zero]; rfl) (fun K hK => ?_) AllReadyH.nil)
                go_simp
                refine (HF.out _ hHeld).mono ?_
                rintro e9 w9 ⟨rfl, hb9⟩
                go_wp2_with fail
                refine hK.out _ _ ?_ (fun hHeld => ?_)
                · exact hHeld.then hb9
                clear hK K
                try simp only [Act.put, List.setIfInBounds_toArray, List.set_cons_zero, List.set_cons_succ]
                refine wpAnyH_take (i := 17) (oi := _) (v := ?_) (by simp only [List.getElem?_toArray, List.getElem?_cons_succ, List.getElem?_cons_zero]; rfl) (by kernel_rfl) (by kernel_rfl) (by kernel_rfl) (by exact fun _ _ _ h => h) (Or.inl ⟨by rfl, ?_⟩) (by assumption) ?_
                rotate_left
                · (intro w' hSw; obtain ⟨hbc, -⟩ := bcell hSw; go_simp) <;> with_reducible rfl
                try simp only [Act.put, List.setIfInBounds_toArray, List.set_cons_zero, List.set_cons_succ]
                refine wpAnyH_take (i := 18) (oi := _) (v := ?_) (by simp only [List.getElem?_toArray, List.getElem?_cons_succ, List.getElem?_cons_zero]; rfl) (by kernel_rfl) (by kernel_rfl) (by kernel_rfl) (by exact fun _ _ _ h => h) (Or.inl ⟨by rfl, ?_⟩) (by assumption) ?_
                rotate_left
                · (intro w' hSw; obtain ⟨hbc, -⟩ := bcell hSw; go_simp) <;> with_reducible rfl
                try simp only [Act.put, List.setIfInBounds_toArray, List.set_cons_zero, List.set_cons_succ]
                refine wpAnyH_take (i := 19) (oi := _) (v := ?_) (by simp only [List.getElem?_toArray, List.getElem?_cons_succ, List.getElem?_cons_zero]; rfl) (by kernel_rfl) (by kernel_rfl) (by kernel_rfl) (by exact fun _ _ _ h => h) (Or.inl ⟨by rfl, ?_⟩) (by assumption) ?_
                rotate_left
                · (intro w' hSw; obtain ⟨hbc, -⟩ := bcell hSw; go_simp) <;> with_reducible rfl
                try simp only [Act.put, List.setIfInBounds_toArray, List.set_cons_zero, List.set_cons_succ]
                refine wpAnyH_take (i := 20) (oi := _) (v := ?_) (by simp only [List.getElem?_toArray, List.getElem?_cons_succ, List.getElem?_cons_zero]; rfl) (by kernel_rfl) (by kernel_rfl) (by kernel_rfl) (by exact fun _ _ _ h => h) (Or.inl ⟨by rfl, ?_⟩) (by assumption) ?_
                rotate_left
                · (intro w' hSw; obtain ⟨hbc, -⟩ := bcell hSw; go_simp) <;> with_reducible rfl
                try simp only [Act.put, List.setIfInBounds_toArray, List.set_cons_zero, List.set_cons_succ]
                refine wpAnyH_take (i := 21) (oi := _) (v := ?_) (by simp only [List.getElem?_toArray, List.getElem?_cons_succ, List.getElem?_cons_zero]; rfl) (by kernel_rfl) (by kernel_rfl) (by kernel_rfl) (by exact fun _ _ _ h => h) (Or.inl ⟨by rfl, ?_⟩) (by assumption) ?_
                rotate_left
                · (intro w' hSw; obtain ⟨hbc, -⟩ := bcell hSw; go_simp) <;> with_reducible rfl
                try simp only [Act.put, List.setIfInBounds_toArray, List.set_cons_zero, List.set_cons_succ]
                refine wpAnyH_take (i := 22) (oi := _) (v := ?_) (by simp only [List.getElem?_toArray, List.getElem?_cons_succ, List.getElem?_cons_zero]; rfl) (by kernel_rfl) (by kernel_rfl) (by kernel_rfl) (by exact fun _ _ _ h => h) (Or.inl ⟨by rfl, ?_⟩) (by assumption) ?_
                rotate_left
                · (intro w' hSw; obtain ⟨hbc, -⟩ := bcell hSw; go_simp) <;> with_reducible rfl
                try simp only [Act.put, List.setIfInBounds_toArray, List.set_cons_zero, List.set_cons_succ]
                refine wpAnyH_take (i := 23) (oi := _) (v := ?_) (by simp only [List.getElem?_toArray, List.getElem?_cons_succ, List.getElem?_cons_zero]; rfl) (by kernel_rfl) (by kernel_rfl) (by kernel_rfl) (by exact fun _ _ _ h => h) (Or.inl ⟨by rfl, ?_⟩) (by assumption) ?_
                rotate_left
                · (intro w' hSw; obtain ⟨hbc, -⟩ := bcell hSw; go_simp) <;> with_reducible rfl
                try simp only [Act.put, List.setIfInBounds_toArray, List.set_cons_zero, List.set_cons_succ]
                refine wpAnyH_take (i := 24) (oi := _) (v := ?_) (by simp only [List.getElem?_toArray, List.getElem?_cons_succ, List.getElem?_cons_zero]; rfl) (by kernel_rfl) (by kernel_rfl) (by kernel_rfl) (by exact fun _ _ _ h => h) (Or.inl ⟨by rfl, ?_⟩) (by assumption) ?_
                rotate_left
                · (intro w' hSw; obtain ⟨hbc, -⟩ := bcell hSw; go_simp) <;> with_reducible rfl
                try simp only [Act.put, List.setIfInBounds_toArray, List.set_cons_zero, List.set_cons_succ]
                refine wpAnyH_take (i := 25) (oi := _) (v := ?_) (by simp only [List.getElem?_toArray, List.getElem?_cons_succ, List.getElem?_cons_zero]; rfl) (by kernel_rfl) (by kernel_rfl) (by kernel_rfl) (by exact fun _ _ _ h => h) (Or.inl ⟨by rfl, ?_⟩) (by assumption) ?_
                rotate_left
                · (intro w' hSw; obtain ⟨hbc, -⟩ := bcell hSw; go_simp) <;> with_reducible rfl
                try simp only [Act.put, List.setIfInBounds_toArray, List.set_cons_zero, List.set_cons_succ]
                refine wpAnyH_take (i := 26) (oi := _) (v := ?_) (by simp only [List.getElem?_toArray, List.getElem?_cons_succ, List.getElem?_cons_zero]; rfl) (by kernel_rfl) (by kernel_rfl) (by kernel_rfl) (by exact fun _ _ _ h => h) (Or.inl ⟨by rfl, ?_⟩) (by assumption) ?_
                rotate_left
                · (intro w' hSw; obtain ⟨hbc, -⟩ := bcell hSw; go_simp) <;> with_reducible rfl
                try simp only [Act.put, List.setIfInBounds_toArray, List.set_cons_zero, List.set_cons_succ]
                refine wpAnyH_take (i := 27) (oi := _) (v := ?_) (by simp only [List.getElem?_toArray, List.getElem?_cons_succ, List.getElem?_cons_zero]; rfl) (by kernel_rfl) (by kernel_rfl) (by kernel_rfl) (by exact fun _ _ _ h => h) (Or.inl ⟨by rfl, ?_⟩) (by assumption) ?_
                rotate_left
                · (intro w' hSw; obtain ⟨hbc, -⟩ := bcell hSw; go_simp) <;> with_reducible rfl
                try simp only [Act.put, List.setIfInBounds_toArray, List.set_cons_zero, List.set_cons_succ]
                refine wpAnyH_done (by kernel_rfl) ?_ _
                go_wp2_with fail
                go_roundw
                case rel => exact ⟨k + 1, by go_num, by omega, Hbel.out.then hHeld⟩
                case measure => simp [intOf]; omega
              · have hz := hE.2 hday
                subst hz
                obtain ⟨pD, pL, pF⟩ := z
                simp only at s0 s1 s2 t0 t1 t2 hday
                have u1 : (pD == (d : Int)) = false := beq_eq_false_iff_ne.2 hday
                have hg := part_guard
                have hne := fun w => run_part_neq pD pL (S pF) pD pL (S pF) w
                rw [ptEq_self] at hne
                clear hE hday HF
                go_wp2_with fail
                go_quiet (fail)
                go_wp2_with fail
                go_roundw
                case rel => exact ⟨k + 1, by go_num, by omega, below_drewN Hbel.out _⟩
                case measure => simp [intOf]; omega
            · obtain rfl : k = n8 := by omega
              have Hbel := Lib.hid hbel
              clear hv12 hv19 hbel
              go_wp2_with fail
              go_ret
              exact ⟨rfl, HBW.out.then Hbel.out⟩
  · have t0 : decide ((60 : Int) < (n : Int)) = true := decide_eq_true (by omega)
    go_enter Tryd.func5, Tryd.ntmps5
    go_wp2_with fail
    go_ret
    exact ⟨rfl, Below.refl _ _⟩
end Go.Proofs.YtbheoahpaidpmaaDoor
