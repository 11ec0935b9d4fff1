/-
  The walk of the law 'ManifestFolds'.
-/
import Derived.Test.YtbheoahpaidpmaaDoorRManRight
import Derived.StillTailTactics
namespace Go.Proofs.YtbheoahpaidpmaaDoor
open Go Go.RowKit

theorem okst_files {s : St} (h : OkSt s) : ∀ p ∈ s.Parts, p.File.length ≤ 1000000 := fun p hp => by
  obtain ⟨-, -, m, h3, h4⟩ := h.part p hp
  have h1 := h.n1
  have := (fileB_len (m := m) (by omega)).2
  rw [h4]
  omega
theorem rd_four (w : World) (u v x y : Value) (T : TypeId) : Rd (w.alloc (.cells #[u, v, x, y] T)) 4 (some ⟨w.heap.size, 0, none⟩) 1 [u, v, x, y] := by
  have h := heap_alloc_new w (.cells #[u, v, x, y] T)
  refine ⟨rfl, fun _ => ⟨_, _, rfl, by simp, fun j z hz => ?_⟩⟩
  rw [Lib.cell_of_heap h, Nat.zero_add]
  match j, hz with
  | 0, hz => simpa using hz
  | 1, hz => simpa using hz
  | 2, hz => simpa using hz
  | 3, hz => simpa using hz
  | j + 4, hz => simp at hz
set_option linter.unusedSimpArgs false in
set_option maxRecDepth 100000 in
set_option maxHeartbeats 8000000 in
theorem manifestFolds_walk {w : World} (v0 : Value) (a1 : Int) (g0 : ∃ A c, ∃ xs : List Ed, v0 = .slice A xs.length c ∧ Rd w 4 A xs.length (xs.flatMap edCells) ∧ (∀ x ∈ xs, Ed.ok x) ∧ xs.length ≤ c ∧ c ≤ maxLen) (_h1 : -9223372036854775808 ≤ a1) (_h2 : a1 ≤ 9223372036854775807) (hp : Pow w) :
    Calls Tryd.prog 3 #[v0, .int .i64 a1] w fun e w' => e = .returned (.bool true) ∧ Below w.heap.size w w' := by
  obtain ⟨A, c, l, rfl, hrd, -, -, -⟩ := g0
  obtain ⟨n, hn⟩ : ∃ n, l.length = n := ⟨_, rfl⟩
  rw [hn] at hrd ⊢
  by_cases hlen : n ≤ 100
  · have HPW := Lib.hid hp
    have HC := Lib.hid (mfold_any A n c l w hrd hn (by omega) hp)
    have HRD := Lib.hid hrd
    have HN := Lib.hid hn
    obtain ⟨V0, hV0⟩ : ∃ V0, folds l = V0 := ⟨_, rfl⟩
    have hok : OkFor V0.1 100 := by rw [← hV0]; exact (folds_ok l).mono (by omega)
    rw [hV0] at HC
    obtain ⟨⟨sP, sN, sQ, sO, sD, sT, sX⟩, k0, f0⟩ := V0
    have Hok := Lib.hid hok
    have HV0 := Lib.hid hV0
    have HBW := Lib.hid (Below.refl w.heap.size w)
    have t0 : decide ((100 : Int) < (n : Int)) = false := decide_eq_false (by omega)
    have hlen' := hlen
    clear hV0 hrd hp hn hok hlen
    go_enter Tryd.func3, Tryd.ntmps3
    go_wp2_with fail
    refine HC.out.mono ?_
    rintro e1 w1 ⟨A1, n1, c1, rfl, hp1, hb1⟩
    unfold stVal
    simp only at hp1 ⊢
    obtain ⟨b5, hb5'⟩ : ∃ b, w1.heap.size = b := ⟨_, rfl⟩
    obtain ⟨W5, hW5, hbel5, hv5⟩ : ∃ W, w1.alloc (.cells #[.slice A1 n1 c1, .int .i64 sN, .int .i64 sQ, .bool sO, .int .i64 sD, .int .i64 sT, .int .i64 sX] 25) = W ∧ Below w.heap.size w W ∧ Var W b5 25 A1 n1 c1 ⟨sP, sN, sQ, sO, sD, sT, sX⟩ :=
      ⟨_, rfl, hb1.then (Below.one _ _), Var.new (T := 25) (A := A1) (n := n1) (c := c1) (s := ⟨sP, sN, sQ, sO, sD, sT, sX⟩) hb5' hp1.rd hp1.len⟩
    have HQ5 := Lib.hid hv5
    replace HBW := Lib.hid (HBW.out.then' hbel5)
    replace HPW := Lib.hid (HPW.out.below hbel5)
    clear hbel5 hv5
    have Hn1 := Lib.hid (show n1 ≤ 100 by have := Hok.out.len; have := hp1.len; simp only at *; omega)
    clear hp1 hb1
    have HC := Lib.hid (edits_any A n c l W5 (HRD.out.below HBW.out) HN.out (by omega))
    go_wp2_with fail
    try simp only [hW5]
    clear hW5
    refine HC.out.mono ?_
    rintro e2 w2 ⟨A2, c2, rfl, hrd2, hb2⟩
    have HC := rfold_any A2 n c2 l w2 hrd2 HN.out (by omega)
    rw [HV0.out] at HC
    replace HC := Lib.hid HC
    clear hrd2
    go_wp2_with fail
    refine HC.out.mono ?_
    rintro e3 w3 ⟨A3, n3, c3, rfl, hp3, hb3⟩
    unfold stVal
    simp only at hp3 ⊢
    obtain ⟨b8, hb8'⟩ : ∃ b, w3.heap.size = b := ⟨_, rfl⟩
    obtain ⟨W8, hW8, hbel8, hv8⟩ : ∃ W, w3.alloc (.cells #[.slice A3 n3 c3, .int .i64 sN, .int .i64 sQ, .bool sO, .int .i64 sD, .int .i64 sT, .int .i64 sX] 31) = W ∧ Below W5.heap.size W5 W ∧ Var W b8 31 A3 n3 c3 ⟨sP, sN, sQ, sO, sD, sT, sX⟩ :=
      ⟨_, rfl, (hb2.then hb3).then (Below.one _ _), Var.new (T := 31) (A := A3) (n := n3) (c := c3) (s := ⟨sP, sN, sQ, sO, sD, sT, sX⟩) hb8' hp3.rd hp3.len⟩
    have HQ8 := Lib.hid hv8
    replace HQ5 := Lib.hid (HQ5.out.below hbel8)
    replace HBW := Lib.hid (HBW.out.then' hbel8)
    replace HPW := Lib.hid (HPW.out.below hbel8)
    clear hbel8 hv8
    clear hp3 hb2 hb3
    obtain ⟨x5_0, x5_1, x5_2, x5_3, x5_4, x5_5, x5_6, -⟩ := seven HQ5.out.blk
    obtain ⟨x8_0, x8_1, x8_2, x8_3, x8_4, x8_5, x8_6, -⟩ := seven HQ8.out.blk
    have lt5 := HQ5.out.lt
    have lt8 := HQ8.out.lt
    have j1 : ((k0 : Int) != (k0 : Int)) = false := by simp
    have j2 : ((f0 : Int) != (f0 : Int)) = false := by simp
    go_wp2_with fail
    try simp only [hW8]
    clear hW8
    refine wp_region_held_drew (S := fun w' => Below W8.heap.size W8 w') (by kernel_rfl) ?_ (fun hHeld => ?_)
    · exact (Below.refl _ _).drew
    refine wpAnyH_take (i := 0) (oi := _) (v := ?_) (by simp only [List.getElem?_toArray, List.getElem?_cons_succ, List.getElem?_cons_zero]; rfl) (by kernel_rfl) (by kernel_rfl) (by kernel_rfl) (by exact fun _ _ _ h => h) (Or.inl ⟨by rfl, ?_⟩) (by assumption) ?_
    rotate_left
    · (intro w' hSw; obtain ⟨hbc, -⟩ := bcell hSw; go_simp) <;> with_reducible rfl
    try simp only [Act.put, List.setIfInBounds_toArray, List.set_cons_zero, List.set_cons_succ]
    refine wpAnyH_take (i := 1) (oi := _) (v := ?_) (by simp only [List.getElem?_toArray, List.getElem?_cons_succ, List.getElem?_cons_zero]; rfl) (by kernel_rfl) (by kernel_rfl) (by kernel_rfl) (by exact fun _ _ _ h => h) (Or.inl ⟨by rfl, ?_⟩) (by assumption) ?_
    rotate_left
    · (intro w' hSw; obtain ⟨hbc, -⟩ := bcell hSw; go_simp) <;> with_reducible rfl
    try simp only [Act.put, List.setIfInBounds_toArray, List.set_cons_zero, List.set_cons_succ]
    refine wpAnyH_take (i := 2) (oi := _) (v := ?_) (by simp only [List.getElem?_toArray, List.getElem?_cons_succ, List.getElem?_cons_zero]; rfl) (by kernel_rfl) (by kernel_rfl) (by kernel_rfl) (by exact fun _ _ _ h => h) (Or.inl ⟨by rfl, ?_⟩) (by assumption) ?_
    rotate_left
    · (intro w' hSw; obtain ⟨hbc, -⟩ := bcell hSw; go_simp) <;> with_reducible rfl
    try simp only [Act.put, List.setIfInBounds_toArray, List.set_cons_zero, List.set_cons_succ]
    refine wpAnyH_take (i := 3) (oi := _) (v := ?_) (by simp only [List.getElem?_toArray, List.getElem?_cons_succ, List.getElem?_cons_zero]; rfl) (by kernel_rfl) (by kernel_rfl) (by kernel_rfl) (by exact fun _ _ _ h => h) (Or.inl ⟨by rfl, ?_⟩) (by assumption) ?_
    rotate_left
    · (intro w' hSw; obtain ⟨hbc, -⟩ := bcell hSw; go_simp) <;> with_reducible rfl
    try simp only [Act.put, List.setIfInBounds_toArray, List.set_cons_zero, List.set_cons_succ]
    refine wpAnyH_take (i := 4) (oi := _) (v := ?_) (by simp only [List.getElem?_toArray, List.getElem?_cons_succ, List.getElem?_cons_zero]; rfl) (by kernel_rfl) (by kernel_rfl) (by kernel_rfl) (by exact fun _ _ _ h => h) (Or.inl ⟨by rfl, ?_⟩) (by assumption) ?_
    rotate_left
    · (intro w' hSw; obtain ⟨hbc, -⟩ := bcell hSw; go_simp) <;> with_reducible rfl
    try simp only [Act.put, List.setIfInBounds_toArray, List.set_cons_zero, List.set_cons_succ]
    refine wpAnyH_take (i := 5) (oi := _) (v := ?_) (by simp only [List.getElem?_toArray, List.getElem?_cons_succ, List.getElem?_cons_zero]; rfl) (by kernel_rfl) (by kernel_rfl) (by kernel_rfl) (by exact fun _ _ _ h => h) (Or.inl ⟨by rfl, ?_⟩) (by assumption) ?_
    rotate_left
    · (intro w' hSw; obtain ⟨hbc, -⟩ := bcell hSw; go_simp) <;> with_reducible rfl
    try simp only [Act.put, List.setIfInBounds_toArray, List.set_cons_zero, List.set_cons_succ]
    refine wpAnyH_take (i := 6) (oi := _) (v := ?_) (by simp only [List.getElem?_toArray, List.getElem?_cons_succ, List.getElem?_cons_zero]; rfl) (by kernel_rfl) (by kernel_rfl) (by kernel_rfl) (by exact fun _ _ _ h => h) (Or.inl ⟨by rfl, ?_⟩) (by assumption) ?_
    rotate_left
    · (intro w' hSw; obtain ⟨hbc, -⟩ := bcell hSw; go_simp) <;> with_reducible rfl
    try simp only [Act.put, List.setIfInBounds_toArray, List.set_cons_zero, List.set_cons_succ]
    refine wpAnyH_take (i := 7) (oi := _) (v := ?_) (by simp only [List.getElem?_toArray, List.getElem?_cons_succ, List.getElem?_cons_zero]; rfl) (by kernel_rfl) (by kernel_rfl) (by kernel_rfl) (by exact fun _ _ _ h => h) (Or.inl ⟨by rfl, ?_⟩) (by assumption) ?_
    rotate_left
    · (intro w' hSw; obtain ⟨hbc, -⟩ := bcell hSw; go_simp) <;> with_reducible rfl
    try simp only [Act.put, List.setIfInBounds_toArray, List.set_cons_zero, List.set_cons_succ]
    refine wpAnyH_take (i := 8) (oi := _) (v := ?_) (by simp only [List.getElem?_toArray, List.getElem?_cons_succ, List.getElem?_cons_zero]; rfl) (by kernel_rfl) (by kernel_rfl) (by kernel_rfl) (by exact fun _ _ _ h => h) (Or.inl ⟨by rfl, ?_⟩) (by assumption) ?_
    rotate_left
    · (intro w' hSw; obtain ⟨hbc, -⟩ := bcell hSw; go_simp) <;> with_reducible rfl
    try simp only [Act.put, List.setIfInBounds_toArray, List.set_cons_zero, List.set_cons_succ]
    refine wpAnyH_take (i := 9) (oi := _) (v := ?_) (by simp only [List.getElem?_toArray, List.getElem?_cons_succ, List.getElem?_cons_zero]; rfl) (by kernel_rfl) (by kernel_rfl) (by kernel_rfl) (by exact fun _ _ _ h => h) (Or.inl ⟨by rfl, ?_⟩) (by assumption) ?_
    rotate_left
    · (intro w' hSw; obtain ⟨hbc, -⟩ := bcell hSw; go_simp) <;> with_reducible rfl
    try simp only [Act.put, List.setIfInBounds_toArray, List.set_cons_zero, List.set_cons_succ]
    refine wpAnyH_take (i := 11) (oi := _) (v := ?_) (by simp only [List.getElem?_toArray, List.getElem?_cons_succ, List.getElem?_cons_zero]; rfl) (by kernel_rfl) (by kernel_rfl) (by kernel_rfl) (by exact fun _ _ _ h => h) (Or.inl ⟨by rfl, ?_⟩) (by assumption) ?_
    rotate_left
    · (intro w' hSw; obtain ⟨hbc, -⟩ := bcell hSw; go_simp) <;> with_reducible rfl
    try simp only [Act.put, List.setIfInBounds_toArray, List.set_cons_zero, List.set_cons_succ]
    refine wpAnyH_ready (rs := [10]) (by kernel_rfl) (by simp) ?_
    refine (AllReadyH.cons (o := _) (by simp only [List.getElem?_toArray, List.getElem?_cons_succ, List.getElem?_cons_zero]; rfl) (fun K hK => ?_) AllReadyH.nil)
    go_simp
    have HS := theirs_any A1 n1 c1 ⟨sP, sN, sQ, sO, sD, sT, sX⟩ _ (HQ5.out.below hHeld).rd HQ5.out.len (by have := Hn1.out; omega)
    unfold stVal at HS
    simp only at HS
    refine HS.mono ?_
    rintro e6 w6 ⟨B6, m6, d6, rfl, hp6, hb6⟩
    clear HS
    unfold stVal
    simp only at hp6 ⊢
    go_wp2_with fail
    refine hK.out _ _ ?_ (fun hHeld => ?_)
    · exact hHeld.then hb6
    clear hK K
    try simp only [Act.put, List.setIfInBounds_toArray, List.set_cons_zero, List.set_cons_succ]
    refine wpAnyH_ready (rs := [12]) (by kernel_rfl) (by simp) ?_
    refine (AllReadyH.cons (o := _) (by simp only [List.getElem?_toArray, List.getElem?_cons_succ, List.getElem?_cons_zero]; rfl) (fun K hK => ?_) AllReadyH.nil)
    go_simp
    have HS := same_any B6 A3 m6 d6 n3 c3 ⟨sP, sN, sQ, sO, sD, sT, sX⟩ _ hp6.rd hp6.len (HQ8.out.below hHeld).rd HQ8.out.len (by have := Hn1.out; have := hp6.len; have := HQ5.out.len; simp only at *; omega)
    unfold stVal at HS
    simp only at HS
    refine HS.mono ?_
    rintro e7 w7 ⟨rfl, hb7⟩
    clear HS
    go_wp2_with fail
    refine hK.out _ _ ?_ (fun hHeld => ?_)
    · exact hHeld.then hb7
    clear hK K
    try simp only [Act.put, List.setIfInBounds_toArray, List.set_cons_zero, List.set_cons_succ]
    refine wpAnyH_take (i := 13) (oi := _) (v := ?_) (by simp only [List.getElem?_toArray, List.getElem?_cons_succ, List.getElem?_cons_zero]; rfl) (by kernel_rfl) (by kernel_rfl) (by kernel_rfl) (by exact fun _ _ _ h => h) (Or.inl ⟨by rfl, ?_⟩) (by assumption) ?_
    rotate_left
    · (intro w' hSw; obtain ⟨hbc, -⟩ := bcell hSw; go_simp) <;> with_reducible rfl
    try simp only [Act.put, List.setIfInBounds_toArray, List.set_cons_zero, List.set_cons_succ]
    refine wpAnyH_take (i := 14) (oi := _) (v := ?_) (by simp only [List.getElem?_toArray, List.getElem?_cons_succ, List.getElem?_cons_zero]; rfl) (by kernel_rfl) (by kernel_rfl) (by kernel_rfl) (by exact fun _ _ _ h => h) (Or.inl ⟨by rfl, ?_⟩) (by assumption) ?_
    rotate_left
    · (intro w' hSw; obtain ⟨hbc, -⟩ := bcell hSw; go_simp) <;> with_reducible rfl
    try simp only [Act.put, List.setIfInBounds_toArray, List.set_cons_zero, List.set_cons_succ]
    refine wpAnyH_take (i := 15) (oi := _) (v := ?_) (by simp only [List.getElem?_toArray, List.getElem?_cons_succ, List.getElem?_cons_zero]; rfl) (by kernel_rfl) (by kernel_rfl) (by kernel_rfl) (by exact fun _ _ _ h => h) (Or.inl ⟨by rfl, ?_⟩) (by assumption) ?_
    rotate_left
    · (intro w' hSw; obtain ⟨hbc, -⟩ := bcell hSw; go_simp) <;> with_reducible rfl
    try simp only [Act.put, List.setIfInBounds_toArray, List.set_cons_zero, List.set_cons_succ]
    refine wpAnyH_take (i := 16) (oi := _) (v := ?_) (by simp only [List.getElem?_toArray, List.getElem?_cons_succ, List.getElem?_cons_zero]; rfl) (by kernel_rfl) (by kernel_rfl) (by kernel_rfl) (by exact fun _ _ _ h => h) (Or.inl ⟨by rfl, ?_⟩) (by assumption) ?_
    rotate_left
    · (intro w' hSw; obtain ⟨hbc, -⟩ := bcell hSw; go_simp) <;> with_reducible rfl
    try simp only [Act.put, List.setIfInBounds_toArray, List.set_cons_zero, List.set_cons_succ]
    refine wpAnyH_ready (rs := [17]) (by kernel_rfl) (by simp) ?_
    refine (AllReadyH.cons (o := _) (by simp only [List.getElem?_toArray, List.getElem?_cons_succ, List.getElem?_cons_zero]; rfl) (fun K hK => ?_) AllReadyH.nil)
    go_simp
    have HS := theirs_any A1 n1 c1 ⟨sP, sN, sQ, sO, sD, sT, sX⟩ _ (HQ5.out.below hHeld).rd HQ5.out.len (by have := Hn1.out; omega)
    unfold stVal at HS
    simp only at HS
    refine HS.mono ?_
    rintro e8 w8 ⟨B8, m8, d8, rfl, hp8, hb8⟩
    clear HS
    unfold stVal
    simp only at hp8 ⊢
    go_wp2_with fail
    refine hK.out _ _ ?_ (fun hHeld => ?_)
    · exact hHeld.then hb8
    clear hK K
    try simp only [Act.put, List.setIfInBounds_toArray, List.set_cons_zero, List.set_cons_succ]
    refine wpAnyH_ready (rs := [18]) (by kernel_rfl) (by simp) ?_
    refine (AllReadyH.cons (o := _) (by simp only [List.getElem?_toArray, List.getElem?_cons_succ, List.getElem?_cons_zero]; rfl) (fun K hK => ?_) AllReadyH.nil)
    go_simp
    have HS := rright_any B8 m8 d8 ⟨sP, sN, sQ, sO, sD, sT, sX⟩ w8 hp8.rd hp8.len (by have := Hn1.out; have := hp8.len; have := HQ5.out.len; simp only at *; omega) (okst_files Hok.out.ok)
    unfold stVal at HS
    refine HS.mono ?_
    rintro e9 w9 ⟨bb, rfl, hbb, hb9⟩
    obtain rfl : true = bb := (hbb.2 Hok.out.ok).symm
    clear HS hbb
    go_wp2_with fail
    refine hK.out _ _ ?_ (fun hHeld => ?_)
    · exact hHeld.then hb9
    clear hK K
    try simp only [Act.put, List.setIfInBounds_toArray, List.set_cons_zero, List.set_cons_succ]
    refine wpAnyH_take (i := 19) (oi := _) (v := ?_) (by simp only [List.getElem?_toArray, List.getElem?_cons_succ, List.getElem?_cons_zero]; rfl) (by kernel_rfl) (by kernel_rfl) (by kernel_rfl) (by exact fun _ _ _ h => h) (Or.inl ⟨by rfl, ?_⟩) (by assumption) ?_
    rotate_left
    · (intro w' hSw; obtain ⟨hbc, -⟩ := bcell hSw; go_simp) <;> with_reducible rfl
    try simp only [Act.put, List.setIfInBounds_toArray, List.set_cons_zero, List.set_cons_succ]
    refine wpAnyH_take (i := 20) (oi := _) (v := ?_) (by simp only [List.getElem?_toArray, List.getElem?_cons_succ, List.getElem?_cons_zero]; rfl) (by kernel_rfl) (by kernel_rfl) (by kernel_rfl) (by exact fun _ _ _ h => h) (Or.inl ⟨by rfl, ?_⟩) (by assumption) ?_
    rotate_left
    · (intro w' hSw; obtain ⟨hbc, -⟩ := bcell hSw; go_simp) <;> with_reducible rfl
    try simp only [Act.put, List.setIfInBounds_toArray, List.set_cons_zero, List.set_cons_succ]
    refine wpAnyH_done (by kernel_rfl) ?_ _
    obtain ⟨V9, hV9⟩ : ∃ W, w9 = W := ⟨_, rfl⟩
    rw [hV9] at hHeld
    simp only [hV9]
    clear hV9 hb9 hb8 hp8 hb7 hb6 hp6
    clear x5_0 x5_1 x5_2 x5_3 x5_4 x5_5 x5_6 x8_0 x8_1 x8_2 x8_3 x8_4 x8_5 x8_6
    replace HQ5 := Lib.hid (HQ5.out.below hHeld)
    replace HQ8 := Lib.hid (HQ8.out.below hHeld)
    replace HBW := Lib.hid (HBW.out.then' hHeld)
    replace HPW := Lib.hid (HPW.out.below hHeld)
    clear hHeld j1 j2 lt5 lt8
    obtain ⟨x5_0, x5_1, x5_2, x5_3, x5_4, x5_5, x5_6, -⟩ := seven HQ5.out.blk
    obtain ⟨p, hpp⟩ : ∃ p, (findP sP a1).getD p0 = p := ⟨_, rfl⟩
    obtain ⟨q, hq⟩ : ∃ q, (findP sP a1).isSome = q := ⟨_, rfl⟩
    have HC := mfind_any a1 A1 c1 n1 ⟨sP, sN, sQ, sO, sD, sT, sX⟩ V9 HQ5.out.rd HQ5.out.len (by have := Hn1.out; omega)
    have HC2 := fun (w' : World) (h : Below V9.heap.size V9 w') => rfind_any a1 A3 c3 n3 ⟨sP, sN, sQ, sO, sD, sT, sX⟩ w' (HQ8.out.below h).rd HQ8.out.len (by have := Hn1.out; have := HQ8.out.len; have := HQ5.out.len; simp only at *; omega)
    simp only [hpp, hq] at HC HC2
    clear hpp hq
    obtain ⟨pD, pL, pF⟩ := p
    unfold stVal partVal at HC HC2
    simp only at HC HC2
    replace HC := Lib.hid HC
    replace HC2 := Lib.hid HC2
    go_wp2_with fail
    refine HC.out.mono ?_
    rintro e10 w10 ⟨rfl, hb10⟩
    obtain ⟨b11, hb11'⟩ : ∃ b, w10.heap.size = b := ⟨_, rfl⟩
    obtain ⟨W11, hW11, hbel11, q11⟩ : ∃ W, w10.alloc (.cells #[.int .i64 pD, .int .i64 pL, .string (S pF)] 40) = W ∧ Below V9.heap.size V9 W ∧ W.heap[b11]? = some (.cells #[.int .i64 pD, .int .i64 pL, .string (S pF)] 40 (0, 0)) := ⟨_, rfl, hb10.then (Below.one _ _), by rw [← hb11']; exact heap_alloc_new _ _⟩
    have hv8 := HQ8.out.below hbel11
    clear x5_0 x5_1 x5_2 x5_3 x5_4 x5_5 x5_6
    obtain ⟨x8_0, x8_1, x8_2, x8_3, x8_4, x8_5, x8_6, -⟩ := seven hv8.blk
    clear hv8 hb10
    go_wp2_with fail
    try simp only [hW11]
    clear hW11
    refine (HC2.out _ hbel11).mono ?_
    rintro e12 w12 ⟨rfl, hb12⟩
    obtain ⟨b13, hb13'⟩ : ∃ b, w12.heap.size = b := ⟨_, rfl⟩
    obtain ⟨W13, hW13, hbel13, q13⟩ : ∃ W, w12.alloc (.cells #[.int .i64 pD, .int .i64 pL, .string (S pF)] 43) = W ∧ Below W11.heap.size W11 W ∧ W.heap[b13]? = some (.cells #[.int .i64 pD, .int .i64 pL, .string (S pF)] 43 (0, 0)) := ⟨_, rfl, hb12.then (Below.one _ _), by rw [← hb13']; exact heap_alloc_new _ _⟩
    have lt11 : b11 < W11.heap.size := (Array.getElem?_eq_some_iff.1 q11).1
    have q11' := (hbel13.block b11 lt11).trans q11
    have lt13 : b13 < W13.heap.size := (Array.getElem?_eq_some_iff.1 q13).1
    have lt11' : b11 < W13.heap.size := Nat.lt_of_lt_of_le lt11 hbel13.size
    have HB13 := Lib.hid (HBW.out.then (hbel11.then hbel13))
    obtain ⟨b15, hb15'⟩ : ∃ b, W13.heap.size = b := ⟨_, rfl⟩
    obtain ⟨W15, hW15, hbel15, hrd15⟩ : ∃ W, W13.alloc (.cells #[.int .i64 7, .int .i64 0, .int .i64 0, .int .i64 0] 47) = W ∧ Below W13.heap.size W13 W ∧ Rd W 4 (some ⟨b15, 0, none⟩) 1 ([(⟨7, 0, 0, 0⟩ : Ed)].flatMap edCells) := ⟨_, rfl, Below.one _ _, by rw [← hb15']; exact rd_four _ _ _ _ _ _⟩
    have HC := mfold_any (some ⟨b15, 0, none⟩) 1 1 [⟨7, 0, 0, 0⟩] W15 hrd15 rfl (by omega) (HPW.out.below ((hbel11.then hbel13).then hbel15))
    rw [show folds [(⟨7, 0, 0, 0⟩ : Ed)] = (st0, 1, 170) from foldS_step_no (app7 (e := ⟨7, 0, 0, 0⟩) (by decide) (by decide) (by decide) (by decide) (by decide) (by decide) (by decide))] at HC
    obtain ⟨z0, hz⟩ : ∃ z, st0 = z := ⟨_, rfl⟩
    rw [hz] at HC
    clear hz
    obtain ⟨zP, zN, zQ, zO, zD, zT, zX⟩ := z0
    unfold FdAt at HC
    replace HC := Lib.hid HC
    have Q11 := Lib.hid ((hbel15.block b11 lt11').trans q11')
    have Q13 := Lib.hid ((hbel15.block b13 lt13).trans q13)
    have LT := Lib.hid (And.intro (Nat.lt_of_lt_of_le lt11' hbel15.size) (Nat.lt_of_lt_of_le lt13 hbel15.size))
    have HB15 := Lib.hid (HB13.out.then hbel15)
    clear hb12 q11 q13 q11' lt11 lt13 lt11' hbel11 hbel13 hbel15 hrd15 HB13 x8_0 x8_1 x8_2 x8_3 x8_4 x8_5 x8_6
    go_wp2_with fail
    try simp only [hW13, hW15]
    clear hW13 hW15
    refine HC.out.mono ?_
    rintro e16 w16 ⟨A16, n16, c16, rfl, hp16, hb16⟩
    unfold stVal
    simp only
    have k11 := (hb16.block b11 LT.out.1).trans Q11.out
    have k13 := (hb16.block b13 LT.out.2).trans Q13.out
    have lt16 := hb16.size
    obtain ⟨W16, hW16, hbel16⟩ : ∃ W, w16.alloc (.cells #[.slice A16 n16 c16, .int .i64 zN, .int .i64 zQ, .bool zO, .int .i64 zD, .int .i64 zT, .int .i64 zX] 25) = W ∧ Below w16.heap.size w16 W := ⟨_, rfl, Below.one _ _⟩
    have l1 := LT.out.1
    have l2 := LT.out.2
    have m11 := (hbel16.block b11 (by omega)).trans k11
    have m13 := (hbel16.block b13 (by omega)).trans k13
    obtain ⟨y0, y1, y2, -⟩ := three m11
    obtain ⟨z0, z1, z2, -⟩ := three m13
    have HB16 := Lib.hid (HB15.out.then (hb16.then hbel16))
    have hg := rpart_guard
    have hne := fun w => run_rpart_eql pD pL (S pF) pD pL (S pF) w
    rw [ptEq_self] at hne
    have u1 : (q == q) = true := beq_self_eq_true _
    clear hp16 hb16 k11 k13 hbel16 m11 m13 l1 l2
    go_wp2_with fail
    try simp only [hW16]
    go_ret
    exact ⟨by first | rfl | simp, HB16.out⟩
  · have t0 : decide ((100 : Int) < (n : Int)) = true := decide_eq_true (by omega)
    go_enter Tryd.func3, Tryd.ntmps3
    go_wp2_with fail
    go_ret
    exact ⟨rfl, Below.refl _ _⟩
end Go.Proofs.YtbheoahpaidpmaaDoor
