/-
  The walk of the law 'ManifestBack'. Written by gen-LawManBack.py.
-/
import Derived.Test.YtbheoahpaidpmaaDoorLawManFolds
import Derived.Test.YtbheoahpaidpmaaDoorMEncode
import Derived.Test.YtbheoahpaidpmaaDoorREncode
import Derived.Test.YtbheoahpaidpmaaDoorMDecode
import Derived.StillTailTactics
namespace Go.Proofs.YtbheoahpaidpmaaDoor
open Go Go.RowKit

theorem back_size {s : St} (h : OkSt s) (hl : s.Parts.length ≤ 1000) : 4 ≤ (S (encB s)).size ∧ (S (encB s)).size ≤ 100000 := by
  have h1 := flat_len (encL s) fun y hy => by have := encL_small h (by omega) y hy; omega
  have h2 : (s.Parts.flatMap partN).length = 3 * s.Parts.length := partsN_length _
  have h3 : (encL s).length = 1 + 3 * s.Parts.length + 2 + (endN s).length := by
    unfold encL
    simp only [List.length_cons, List.length_append, h2, List.length_nil]
    omega
  have h4 : (endN s).length = 4 ∨ (endN s).length = 1 := by unfold endN; split <;> simp
  have h5 : ∀ L : List Nat, L.length ≤ (L.flatMap uint).length := fun L => by
    induction L with
    | nil => simp
    | cons x L ih => have := uint_pos x; rw [List.flatMap_cons, List.length_append, List.length_cons]; omega
  have h6 := h5 (encL s)
  have h7 : (S (encB s)).size = ((encL s).flatMap uint).length := by rw [Lib.size_eq, S_toList]; rfl
  omega

set_option linter.unusedSimpArgs false in
set_option maxRecDepth 100000 in
set_option maxHeartbeats 8000000 in
theorem manifestBack_walk {w : World} (v0 : Value) (g0 : ∃ A c, ∃ xs : List Ed, v0 = .slice A xs.length c ∧ Rd w 4 A xs.length (xs.flatMap edCells) ∧ (∀ x ∈ xs, Ed.ok x) ∧ xs.length ≤ c ∧ c ≤ maxLen) (hp : Pow w) (he : Errs w) :
    Calls Tryd.prog 8 #[v0] w fun e w' => e = .returned (.bool true) ∧ Below w.heap.size w w' := by
  obtain ⟨A, c, l, rfl, hrd, -, -, -⟩ := g0
  obtain ⟨n, hn⟩ : ∃ n, l.length = n := ⟨_, rfl⟩
  rw [hn] at hrd ⊢
  by_cases hlen : n ≤ 100
  · have HPW := Lib.hid hp
    have HEr := Lib.hid he
    have HC := Lib.hid (mfold_any A n c l w hrd hn (by omega) hp)
    obtain ⟨V0, hV0⟩ : ∃ V0, folds l = V0 := ⟨_, rfl⟩
    have hok : OkFor V0.1 100 := by rw [← hV0]; exact (folds_ok l).mono (by omega)
    rw [hV0] at HC
    obtain ⟨⟨sP, sN, sQ, sO, sD, sT, sX⟩, k0, f0⟩ := V0
    have Hok := Lib.hid hok
    have HBW := Lib.hid (Below.refl w.heap.size w)
    have t0 : decide ((100 : Int) < (n : Int)) = false := decide_eq_false (by omega)
    clear hV0 hrd hp he hn hok hlen
    go_enter Tryd.func8, Tryd.ntmps8
    go_wp2_with fail
    refine HC.out.mono ?_
    rintro e1 w1 ⟨A1, n1, c1, rfl, hp1, hb1⟩
    unfold stVal
    simp only at hp1 ⊢
    obtain ⟨b3, hb3'⟩ : ∃ b, w1.heap.size = b := ⟨_, rfl⟩
    obtain ⟨W3, hW3, hbel3, hv3⟩ : ∃ W, w1.alloc (.cells #[.slice A1 n1 c1, .int .i64 sN, .int .i64 sQ, .bool sO, .int .i64 sD, .int .i64 sT, .int .i64 sX] 25) = W ∧ Below w.heap.size w W ∧ Var W b3 25 A1 n1 c1 ⟨sP, sN, sQ, sO, sD, sT, sX⟩ :=
      ⟨_, rfl, hb1.then (Below.one _ _), Var.new (T := 25) (A := A1) (n := n1) (c := c1) (s := ⟨sP, sN, sQ, sO, sD, sT, sX⟩) hb3' hp1.rd hp1.len⟩
    have HQ3 := Lib.hid hv3
    replace HBW := Lib.hid (HBW.out.then' hbel3)
    replace HPW := Lib.hid (HPW.out.below hbel3)
    clear hbel3 hv3
    have Hn1 := Lib.hid (show n1 ≤ 100 by have := Hok.out.len; have := hp1.len; simp only at *; omega)
    clear hp1 hb1
    have HSZ := Lib.hid (back_size Hok.out.ok (by have := Hok.out.len; simp only at *; omega))
    have HC := mencode_any A1 n1 c1 ⟨sP, sN, sQ, sO, sD, sT, sX⟩ W3 HQ3.out.rd HQ3.out.len (by have := Hn1.out; omega) (okst_files Hok.out.ok) HPW.out (HEr.out.below HBW.out)
    unfold stVal at HC
    replace HC := Lib.hid HC
    obtain ⟨x3_0, x3_1, x3_2, x3_3, x3_4, x3_5, x3_6, -⟩ := seven HQ3.out.blk
    go_wp2_with fail
    try simp only [hW3]
    clear hW3
    refine HC.out.mono ?_
    rintro e4 w4 ⟨h4, hb4⟩
    obtain ⟨-, rfl⟩ := h4.resolve_right fun h => h.1 Hok.out.ok
    clear x3_0 x3_1 x3_2 x3_3 x3_4 x3_5 x3_6
    replace HQ3 := Lib.hid (HQ3.out.below hb4)
    replace HBW := Lib.hid (HBW.out.then' hb4)
    replace HPW := Lib.hid (HPW.out.below hb4)
    clear hb4 h4
    have HT := theirs_any A1 n1 c1 ⟨sP, sN, sQ, sO, sD, sT, sX⟩ w4 HQ3.out.rd HQ3.out.len (by have := Hn1.out; omega)
    unfold stVal at HT
    replace HT := Lib.hid HT
    obtain ⟨x3_0, x3_1, x3_2, x3_3, x3_4, x3_5, x3_6, -⟩ := seven HQ3.out.blk
    go_wp2_with fail
    refine HT.out.mono ?_
    rintro e5 w5 ⟨A5, n5, c5, rfl, hp5, hb5⟩
    clear x3_0 x3_1 x3_2 x3_3 x3_4 x3_5 x3_6
    replace HQ3 := Lib.hid (HQ3.out.below hb5)
    replace HBW := Lib.hid (HBW.out.then' hb5)
    replace HPW := Lib.hid (HPW.out.below hb5)
    clear hb5
    have HC := rencode_any A5 n5 c5 ⟨sP, sN, sQ, sO, sD, sT, sX⟩ w5 hp5.rd hp5.len (by have := Hn1.out; have := hp5.len; have := HQ3.out.len; simp only at *; omega) (okst_files Hok.out.ok)
    replace HC := Lib.hid HC
    clear hp5
    unfold stVal at HC ⊢
    simp only at HC ⊢
    go_wp2_with fail
    refine HC.out.mono ?_
    rintro e6 w6 ⟨h6, hb6⟩
    obtain ⟨-, rfl⟩ := h6.resolve_right fun h => h.1 Hok.out.ok
    replace HQ3 := Lib.hid (HQ3.out.below hb6)
    replace HBW := Lib.hid (HBW.out.then' hb6)
    replace HPW := Lib.hid (HPW.out.below hb6)
    clear hb6 h6
    have HD := Lib.hid (mdecode_any (S (encB ⟨sP, sN, sQ, sO, sD, sT, sX⟩)) w6 (by have := HSZ.out.2; omega) HPW.out (HEr.out.below HBW.out))
    go_wp2_with fail
    refine HD.out.mono ?_
    rintro e7 w7 ⟨h7, hb7⟩
    rw [S_toList] at h7
    rcases h7 with ⟨t, A7, n7, c7, ht, het, hlt, hn7, rfl, hrd7⟩ | ⟨h7, -⟩
    rotate_left
    · exact absurd rfl (h7 _ Hok.out.ok (by have := Hok.out.len; simp only at *; omega))
    obtain rfl := enc_inj ht Hok.out.ok (by omega) (by have := Hok.out.len; simp only at *; omega) het
    unfold stVal
    simp only at hrd7 hlt ⊢
    obtain ⟨b10, hb10'⟩ : ∃ b, w7.heap.size = b := ⟨_, rfl⟩
    obtain ⟨W10, hW10, hbel10, hv10⟩ : ∃ W, w7.alloc (.cells #[.slice A7 n7 c7, .int .i64 sN, .int .i64 sQ, .bool sO, .int .i64 sD, .int .i64 sT, .int .i64 sX] 25) = W ∧ Below w6.heap.size w6 W ∧ Var W b10 25 A7 n7 c7 ⟨sP, sN, sQ, sO, sD, sT, sX⟩ :=
      ⟨_, rfl, hb7.then (Below.one _ _), Var.new (T := 25) (A := A7) (n := n7) (c := c7) (s := ⟨sP, sN, sQ, sO, sD, sT, sX⟩) hb10' hrd7 hlt⟩
    have HQ10 := Lib.hid hv10
    replace HQ3 := Lib.hid (HQ3.out.below hbel10)
    replace HBW := Lib.hid (HBW.out.then' hbel10)
    replace HPW := Lib.hid (HPW.out.below hbel10)
    clear hbel10 hv10
    clear hrd7 hb7 ht het
    obtain ⟨x3_0, x3_1, x3_2, x3_3, x3_4, x3_5, x3_6, -⟩ := seven HQ3.out.blk
    obtain ⟨x10_0, x10_1, x10_2, x10_3, x10_4, x10_5, x10_6, -⟩ := seven HQ10.out.blk
    have lt3 := HQ3.out.lt
    have lt10 := HQ10.out.lt
    obtain ⟨E, hE⟩ : ∃ E, S (encB ⟨sP, sN, sQ, sO, sD, sT, sX⟩) = E := ⟨_, rfl⟩
    have HS4 := HSZ.out.1
    rw [hE] at HS4
    simp only [hE]
    have j1 : (E.toList == E.toList) = true := by simp
    have j3 : decide ((4 : Int) ≤ (E.size : Int)) = true := decide_eq_true (by omega)
    have j4 : decide (4 ≤ E.size) = true := decide_eq_true (by omega)
    go_wp2_with fail
    try simp only [hW10]
    clear hW10
    refine wp_region_held_drew (S := fun w' => Below W10.heap.size W10 w') (by kernel_rfl) ?_ (fun hHeld => ?_)
    · exact (Below.refl _ _).drew
    refine wpAnyH_take (i := 0) (oi := _) (v := ?_) (by simp only [List.getElem?_toArray, List.getElem?_cons_succ, List.getElem?_cons_zero]; rfl) (by kernel_rfl) (by kernel_rfl) (by kernel_rfl) (by exact fun _ _ _ h => h) (Or.inl ⟨by rfl, ?_⟩) (by assumption) ?_
    rotate_left
    · (intro w' hSw; obtain ⟨hbc, -⟩ := bcell hSw; go_simp) <;> with_reducible rfl
    try simp only [Act.put, List.setIfInBounds_toArray, List.set_cons_zero, List.set_cons_succ]
    refine wpAnyH_take (i := 1) (oi := _) (v := ?_) (by simp only [List.getElem?_toArray, List.getElem?_cons_succ, List.getElem?_cons_zero]; rfl) (by kernel_rfl) (by kernel_rfl) (by kernel_rfl) (by exact fun _ _ _ h => h) (Or.inl ⟨by rfl, ?_⟩) (by assumption) ?_
    rotate_left
    · (intro w' hSw; obtain ⟨hbc, -⟩ := bcell hSw; go_simp) <;> with_reducible rfl
    try simp only [Act.put, List.setIfInBounds_toArray, List.set_cons_zero, List.set_cons_succ]
    refine wpAnyH_take (i := 2) (oi := _) (v := ?_) (by simp only [List.getElem?_toArray, List.getElem?_cons_succ, List.getElem?_cons_zero]; rfl) (by kernel_rfl) (by kernel_rfl) (by kernel_rfl) (by exact fun _ _ _ h => h) (Or.inl ⟨by rfl, ?_⟩) (by assumption) ?_
    rotate_left
    · (intro w' hSw; obtain ⟨hbc, -⟩ := bcell hSw; go_simp) <;> with_reducible rfl
    try simp only [Act.put, List.setIfInBounds_toArray, List.set_cons_zero, List.set_cons_succ]
    refine wpAnyH_take (i := 3) (oi := _) (v := ?_) (by simp only [List.getElem?_toArray, List.getElem?_cons_succ, List.getElem?_cons_zero]; rfl) (by kernel_rfl) (by kernel_rfl) (by kernel_rfl) (by exact fun _ _ _ h => h) (Or.inl ⟨by rfl, ?_⟩) (by assumption) ?_
    rotate_left
    · (intro w' hSw; obtain ⟨hbc, -⟩ := bcell hSw; go_simp) <;> with_reducible rfl
    try simp only [Act.put, List.setIfInBounds_toArray, List.set_cons_zero, List.set_cons_succ]
    refine wpAnyH_take (i := 4) (oi := _) (v := ?_) (by simp only [List.getElem?_toArray, List.getElem?_cons_succ, List.getElem?_cons_zero]; rfl) (by kernel_rfl) (by kernel_rfl) (by kernel_rfl) (by exact fun _ _ _ h => h) (Or.inl ⟨by rfl, ?_⟩) (by assumption) ?_
    rotate_left
    · (intro w' hSw; obtain ⟨hbc, -⟩ := bcell hSw; go_simp) <;> with_reducible rfl
    try simp only [Act.put, List.setIfInBounds_toArray, List.set_cons_zero, List.set_cons_succ]
    refine wpAnyH_take (i := 5) (oi := _) (v := ?_) (by simp only [List.getElem?_toArray, List.getElem?_cons_succ, List.getElem?_cons_zero]; rfl) (by kernel_rfl) (by kernel_rfl) (by kernel_rfl) (by exact fun _ _ _ h => h) (Or.inl ⟨by rfl, ?_⟩) (by assumption) ?_
    rotate_left
    · (intro w' hSw; obtain ⟨hbc, -⟩ := bcell hSw; go_simp) <;> with_reducible rfl
    try simp only [Act.put, List.setIfInBounds_toArray, List.set_cons_zero, List.set_cons_succ]
    refine wpAnyH_take (i := 6) (oi := _) (v := ?_) (by simp only [List.getElem?_toArray, List.getElem?_cons_succ, List.getElem?_cons_zero]; rfl) (by kernel_rfl) (by kernel_rfl) (by kernel_rfl) (by exact fun _ _ _ h => h) (Or.inl ⟨by rfl, ?_⟩) (by assumption) ?_
    rotate_left
    · (intro w' hSw; obtain ⟨hbc, -⟩ := bcell hSw; go_simp) <;> with_reducible rfl
    try simp only [Act.put, List.setIfInBounds_toArray, List.set_cons_zero, List.set_cons_succ]
    refine wpAnyH_take (i := 7) (oi := _) (v := ?_) (by simp only [List.getElem?_toArray, List.getElem?_cons_succ, List.getElem?_cons_zero]; rfl) (by kernel_rfl) (by kernel_rfl) (by kernel_rfl) (by exact fun _ _ _ h => h) (Or.inl ⟨by rfl, ?_⟩) (by assumption) ?_
    rotate_left
    · (intro w' hSw; obtain ⟨hbc, -⟩ := bcell hSw; go_simp) <;> with_reducible rfl
    try simp only [Act.put, List.setIfInBounds_toArray, List.set_cons_zero, List.set_cons_succ]
    refine wpAnyH_take (i := 8) (oi := _) (v := ?_) (by simp only [List.getElem?_toArray, List.getElem?_cons_succ, List.getElem?_cons_zero]; rfl) (by kernel_rfl) (by kernel_rfl) (by kernel_rfl) (by exact fun _ _ _ h => h) (Or.inl ⟨by rfl, ?_⟩) (by assumption) ?_
    rotate_left
    · (intro w' hSw; obtain ⟨hbc, -⟩ := bcell hSw; go_simp) <;> with_reducible rfl
    try simp only [Act.put, List.setIfInBounds_toArray, List.set_cons_zero, List.set_cons_succ]
    refine wpAnyH_take (i := 9) (oi := _) (v := ?_) (by simp only [List.getElem?_toArray, List.getElem?_cons_succ, List.getElem?_cons_zero]; rfl) (by kernel_rfl) (by kernel_rfl) (by kernel_rfl) (by exact fun _ _ _ h => h) (Or.inl ⟨by rfl, ?_⟩) (by assumption) ?_
    rotate_left
    · (intro w' hSw; obtain ⟨hbc, -⟩ := bcell hSw; go_simp) <;> with_reducible rfl
    try simp only [Act.put, List.setIfInBounds_toArray, List.set_cons_zero, List.set_cons_succ]
    refine wpAnyH_take (i := 10) (oi := _) (v := ?_) (by simp only [List.getElem?_toArray, List.getElem?_cons_succ, List.getElem?_cons_zero]; rfl) (by kernel_rfl) (by kernel_rfl) (by kernel_rfl) (by exact fun _ _ _ h => h) (Or.inl ⟨by rfl, ?_⟩) (by assumption) ?_
    rotate_left
    · (intro w' hSw; obtain ⟨hbc, -⟩ := bcell hSw; go_simp) <;> with_reducible rfl
    try simp only [Act.put, List.setIfInBounds_toArray, List.set_cons_zero, List.set_cons_succ]
    refine wpAnyH_take (i := 11) (oi := _) (v := ?_) (by simp only [List.getElem?_toArray, List.getElem?_cons_succ, List.getElem?_cons_zero]; rfl) (by kernel_rfl) (by kernel_rfl) (by kernel_rfl) (by exact fun _ _ _ h => h) (Or.inl ⟨by rfl, ?_⟩) (by assumption) ?_
    rotate_left
    · (intro w' hSw; obtain ⟨hbc, -⟩ := bcell hSw; go_simp) <;> with_reducible rfl
    try simp only [Act.put, List.setIfInBounds_toArray, List.set_cons_zero, List.set_cons_succ]
    refine wpAnyH_take (i := 12) (oi := _) (v := ?_) (by simp only [List.getElem?_toArray, List.getElem?_cons_succ, List.getElem?_cons_zero]; rfl) (by kernel_rfl) (by kernel_rfl) (by kernel_rfl) (by exact fun _ _ _ h => h) (Or.inl ⟨by rfl, ?_⟩) (by assumption) ?_
    rotate_left
    · (intro w' hSw; obtain ⟨hbc, -⟩ := bcell hSw; go_simp) <;> with_reducible rfl
    try simp only [Act.put, List.setIfInBounds_toArray, List.set_cons_zero, List.set_cons_succ]
    refine wpAnyH_take (i := 13) (oi := _) (v := ?_) (by simp only [List.getElem?_toArray, List.getElem?_cons_succ, List.getElem?_cons_zero]; rfl) (by kernel_rfl) (by kernel_rfl) (by kernel_rfl) (by exact fun _ _ _ h => h) (Or.inl ⟨by rfl, ?_⟩) (by assumption) ?_
    rotate_left
    · (intro w' hSw; obtain ⟨hbc, -⟩ := bcell hSw; go_simp) <;> with_reducible rfl
    try simp only [Act.put, List.setIfInBounds_toArray, List.set_cons_zero, List.set_cons_succ]
    refine wpAnyH_take (i := 14) (oi := _) (v := ?_) (by simp only [List.getElem?_toArray, List.getElem?_cons_succ, List.getElem?_cons_zero]; rfl) (by kernel_rfl) (by kernel_rfl) (by kernel_rfl) (by exact fun _ _ _ h => h) (Or.inl ⟨by rfl, ?_⟩) (by assumption) ?_
    rotate_left
    · (intro w' hSw; obtain ⟨hbc, -⟩ := bcell hSw; go_simp) <;> with_reducible rfl
    try simp only [Act.put, List.setIfInBounds_toArray, List.set_cons_zero, List.set_cons_succ]
    refine wpAnyH_take (i := 15) (oi := _) (v := ?_) (by simp only [List.getElem?_toArray, List.getElem?_cons_succ, List.getElem?_cons_zero]; rfl) (by kernel_rfl) (by kernel_rfl) (by kernel_rfl) (by exact fun _ _ _ h => h) (Or.inl ⟨by rfl, ?_⟩) (by assumption) ?_
    rotate_left
    · (intro w' hSw; obtain ⟨hbc, -⟩ := bcell hSw; go_simp) <;> with_reducible rfl
    try simp only [Act.put, List.setIfInBounds_toArray, List.set_cons_zero, List.set_cons_succ]
    refine wpAnyH_take (i := 16) (oi := _) (v := ?_) (by simp only [List.getElem?_toArray, List.getElem?_cons_succ, List.getElem?_cons_zero]; rfl) (by kernel_rfl) (by kernel_rfl) (by kernel_rfl) (by exact fun _ _ _ h => h) (Or.inl ⟨by rfl, ?_⟩) (by assumption) ?_
    rotate_left
    · (intro w' hSw; obtain ⟨hbc, -⟩ := bcell hSw; go_simp) <;> with_reducible rfl
    try simp only [Act.put, List.setIfInBounds_toArray, List.set_cons_zero, List.set_cons_succ]
    refine wpAnyH_take (i := 18) (oi := _) (v := ?_) (by simp only [List.getElem?_toArray, List.getElem?_cons_succ, List.getElem?_cons_zero]; rfl) (by kernel_rfl) (by kernel_rfl) (by kernel_rfl) (by exact fun _ _ _ h => h) (Or.inl ⟨by rfl, ?_⟩) (by assumption) ?_
    rotate_left
    · (intro w' hSw; obtain ⟨hbc, -⟩ := bcell hSw; go_simp) <;> with_reducible rfl
    try simp only [Act.put, List.setIfInBounds_toArray, List.set_cons_zero, List.set_cons_succ]
    refine wpAnyH_ready (rs := [17]) (by kernel_rfl) (by simp) ?_
    refine (AllReadyH.cons (o := _) (by simp only [List.getElem?_toArray, List.getElem?_cons_succ, List.getElem?_cons_zero]; rfl) (fun K hK => ?_) AllReadyH.nil)
    go_simp
    have HS := theirs_any A7 n7 c7 ⟨sP, sN, sQ, sO, sD, sT, sX⟩ _ (HQ10.out.below hHeld).rd HQ10.out.len (by have := Hn1.out; have := HQ3.out.len; have := HQ10.out.len; simp only at *; omega)
    unfold stVal at HS
    simp only at HS
    refine HS.mono ?_
    rintro e8 w8 ⟨B8, m8, d8, rfl, hp8, hb8⟩
    clear HS
    unfold stVal
    simp only at hp8 ⊢
    go_wp2_with fail
    refine hK.out _ _ ?_ (fun hHeld => ?_)
    · exact hHeld.then hb8
    clear hK K
    try simp only [Act.put, List.setIfInBounds_toArray, List.set_cons_zero, List.set_cons_succ]
    refine wpAnyH_ready (rs := [19]) (by kernel_rfl) (by simp) ?_
    refine (AllReadyH.cons (o := _) (by simp only [List.getElem?_toArray, List.getElem?_cons_succ, List.getElem?_cons_zero]; rfl) (fun K hK => ?_) AllReadyH.nil)
    go_simp
    have HS := theirs_any A1 n1 c1 ⟨sP, sN, sQ, sO, sD, sT, sX⟩ _ (HQ3.out.below hHeld).rd HQ3.out.len (by have := Hn1.out; have := HQ3.out.len; have := HQ10.out.len; simp only at *; omega)
    unfold stVal at HS
    simp only at HS
    refine HS.mono ?_
    rintro e9 w9 ⟨B9, m9, d9, rfl, hp9, hb9⟩
    clear HS
    unfold stVal
    simp only at hp9 ⊢
    go_wp2_with fail
    refine hK.out _ _ ?_ (fun hHeld => ?_)
    · exact hHeld.then hb9
    clear hK K
    try simp only [Act.put, List.setIfInBounds_toArray, List.set_cons_zero, List.set_cons_succ]
    refine wpAnyH_ready (rs := [20]) (by kernel_rfl) (by simp) ?_
    refine (AllReadyH.cons (o := _) (by simp only [List.getElem?_toArray, List.getElem?_cons_succ, List.getElem?_cons_zero]; rfl) (fun K hK => ?_) AllReadyH.nil)
    go_simp
    have HS := same_any B8 B9 m8 d8 m9 d9 ⟨sP, sN, sQ, sO, sD, sT, sX⟩ _ (hp8.below hb9).rd hp8.len hp9.rd hp9.len (by have := Hn1.out; have := HQ3.out.len; have := hp8.len; simp only at *; omega)
    unfold stVal at HS
    simp only at HS
    refine HS.mono ?_
    rintro e7 w10 ⟨rfl, hb10⟩
    clear HS
    go_wp2_with fail
    refine hK.out _ _ ?_ (fun hHeld => ?_)
    · exact hHeld.then hb10
    clear hK K
    try simp only [Act.put, List.setIfInBounds_toArray, List.set_cons_zero, List.set_cons_succ]
    refine wpAnyH_take (i := 21) (oi := _) (v := ?_) (by simp only [List.getElem?_toArray, List.getElem?_cons_succ, List.getElem?_cons_zero]; rfl) (by kernel_rfl) (by kernel_rfl) (by kernel_rfl) (by exact fun _ _ _ h => h) (Or.inl ⟨by rfl, ?_⟩) (by assumption) ?_
    rotate_left
    · (intro w' hSw; obtain ⟨hbc, -⟩ := bcell hSw; go_simp) <;> with_reducible rfl
    try simp only [Act.put, List.setIfInBounds_toArray, List.set_cons_zero, List.set_cons_succ]
    refine wpAnyH_take (i := 22) (oi := _) (v := ?_) (by simp only [List.getElem?_toArray, List.getElem?_cons_succ, List.getElem?_cons_zero]; rfl) (by kernel_rfl) (by kernel_rfl) (by kernel_rfl) (by exact fun _ _ _ h => h) (Or.inl ⟨by rfl, ?_⟩) (by assumption) ?_
    rotate_left
    · (intro w' hSw; obtain ⟨hbc, -⟩ := bcell hSw; go_simp) <;> with_reducible rfl
    try simp only [Act.put, List.setIfInBounds_toArray, List.set_cons_zero, List.set_cons_succ]
    refine wpAnyH_take (i := 23) (oi := _) (v := ?_) (by simp only [List.getElem?_toArray, List.getElem?_cons_succ, List.getElem?_cons_zero]; rfl) (by kernel_rfl) (by kernel_rfl) (by kernel_rfl) (by exact fun _ _ _ h => h) (Or.inl ⟨by rfl, ?_⟩) (by assumption) ?_
    rotate_left
    · (intro w' hSw; obtain ⟨hbc, -⟩ := bcell hSw; go_simp) <;> with_reducible rfl
    try simp only [Act.put, List.setIfInBounds_toArray, List.set_cons_zero, List.set_cons_succ]
    refine wpAnyH_take (i := 24) (oi := _) (v := ?_) (by simp only [List.getElem?_toArray, List.getElem?_cons_succ, List.getElem?_cons_zero]; rfl) (by kernel_rfl) (by kernel_rfl) (by kernel_rfl) (by exact fun _ _ _ h => h) (Or.inl ⟨by rfl, ?_⟩) (by assumption) ?_
    rotate_left
    · (intro w' hSw; obtain ⟨hbc, -⟩ := bcell hSw; go_simp) <;> with_reducible rfl
    try simp only [Act.put, List.setIfInBounds_toArray, List.set_cons_zero, List.set_cons_succ]
    refine wpAnyH_take (i := 25) (oi := _) (v := ?_) (by simp only [List.getElem?_toArray, List.getElem?_cons_succ, List.getElem?_cons_zero]; rfl) (by kernel_rfl) (by kernel_rfl) (by kernel_rfl) (by exact fun _ _ _ h => h) (Or.inl ⟨by rfl, ?_⟩) (by assumption) ?_
    rotate_left
    · (intro w' hSw; obtain ⟨hbc, -⟩ := bcell hSw; go_simp) <;> with_reducible rfl
    try simp only [Act.put, List.setIfInBounds_toArray, List.set_cons_zero, List.set_cons_succ]
    refine wpAnyH_take (i := 26) (oi := _) (v := ?_) (by simp only [List.getElem?_toArray, List.getElem?_cons_succ, List.getElem?_cons_zero]; rfl) (by kernel_rfl) (by kernel_rfl) (by kernel_rfl) (by exact fun _ _ _ h => h) (Or.inl ⟨by rfl, ?_⟩) (by assumption) ?_
    rotate_left
    · (intro w' hSw; obtain ⟨hbc, -⟩ := bcell hSw; go_simp) <;> with_reducible rfl
    try simp only [Act.put, List.setIfInBounds_toArray, List.set_cons_zero, List.set_cons_succ]
    refine wpAnyH_take (i := 27) (oi := _) (v := ?_) (by simp only [List.getElem?_toArray, List.getElem?_cons_succ, List.getElem?_cons_zero]; rfl) (by kernel_rfl) (by kernel_rfl) (by kernel_rfl) (by exact fun _ _ _ h => h) (Or.inl ⟨by rfl, ?_⟩) (by assumption) ?_
    rotate_left
    · (intro w' hSw; obtain ⟨hbc, -⟩ := bcell hSw; go_simp) <;> with_reducible rfl
    try simp only [Act.put, List.setIfInBounds_toArray, List.set_cons_zero, List.set_cons_succ]
    refine wpAnyH_done (by kernel_rfl) ?_ _
    go_wp2_with fail
    go_ret
    exact ⟨by first | rfl | simp, HBW.out.then' hHeld⟩
  · have t0 : decide ((100 : Int) < (n : Int)) = true := decide_eq_true (by omega)
    go_enter Tryd.func8, Tryd.ntmps8
    go_wp2_with fail
    go_ret
    exact ⟨rfl, Below.refl _ _⟩
end Go.Proofs.YtbheoahpaidpmaaDoor
