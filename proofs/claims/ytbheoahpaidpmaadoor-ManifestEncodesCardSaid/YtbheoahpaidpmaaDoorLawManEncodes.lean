/-
  The walk of the law 'ManifestEncodes'. Written by gen-LawManEncodes.py.
-/
import Derived.Test.YtbheoahpaidpmaaDoorLawManFolds
import Derived.Test.YtbheoahpaidpmaaDoorStArg
import Derived.Test.YtbheoahpaidpmaaDoorMEncode
import Derived.Test.YtbheoahpaidpmaaDoorREncode
import Derived.Test.YtbheoahpaidpmaaDoorMDecode
import Derived.Test.YtbheoahpaidpmaaDoorRDecode
import Derived.StillTailTactics
namespace Go.Proofs.YtbheoahpaidpmaaDoor
open Go Go.RowKit

def ELoop (P : List PartV) (n : Nat) (W : World) (iv : Value) (wr : World) : Prop := ∃ i : Nat, iv = .int .i64 (i : Nat) ∧ i ≤ n ∧ (∀ j (h : j < P.length), j < i → P[j].File.length ≤ 100) ∧ wr = W
/-- what Decode answered, in one shape -/
def DecIs (x : List UInt8) (s : St) (E : Int) : Prop := (OkSt s ∧ s.Parts.length ≤ 1000000 ∧ encB s = x ∧ E = 0) ∨ ((∀ y, OkSt y → y.Parts.length ≤ 1000000 → encB y ≠ x) ∧ s = st0 ∧ E = 11)
theorem dec_any {x : List UInt8} {e : Ending} {w' : World} (h : (∃ s A n c, OkSt s ∧ encB s = x ∧ s.Parts.length = n ∧ n ≤ 100000 ∧ e = .returned (.tuple #[stVal A n c s, .int .i64 0]) ∧ Rd w' 3 A n (s.Parts.flatMap partCells)) ∨
    ((∀ y, OkSt y → y.Parts.length ≤ 1000000 → encB y ≠ x) ∧ e = .returned (.tuple #[stVal none 0 0 st0, .int .i64 11]))) :
    ∃ (A : Option Addr) (n c : Nat) (s : St) (E : Int), e = .returned (.tuple #[stVal A n c s, .int .i64 E]) ∧ s.Parts.length = n ∧ n ≤ 100000 ∧ Rd w' 3 A n (s.Parts.flatMap partCells) ∧ DecIs x s E := by
  rcases h with ⟨s, A, n, c, h1, h2, h3, h4, rfl, h5⟩ | ⟨h1, rfl⟩
  · exact ⟨A, n, c, s, 0, rfl, h3, h4, h5, .inl ⟨h1, by omega, h2, rfl⟩⟩
  · exact ⟨none, 0, 0, st0, 11, rfl, rfl, by omega, Rd.nil _ _ _, .inr ⟨h1, rfl, rfl⟩⟩
theorem dec_same {x : List UInt8} {s : St} {E : Int} {e : Ending} {w' : World} (hd : DecIs x s E) (h : (∃ s A n c, OkSt s ∧ encB s = x ∧ s.Parts.length = n ∧ n ≤ 100000 ∧ e = .returned (.tuple #[stVal A n c s, .int .i64 0]) ∧ Rd w' 3 A n (s.Parts.flatMap partCells)) ∨
    ((∀ y, OkSt y → y.Parts.length ≤ 1000000 → encB y ≠ x) ∧ e = .returned (.tuple #[stVal none 0 0 st0, .int .i64 11]))) :
    ∃ (A : Option Addr) (n c : Nat), s.Parts.length = n ∧ Rd w' 3 A n (s.Parts.flatMap partCells) ∧ e = .returned (.tuple #[stVal A n c s, .int .i64 E]) := by
  obtain ⟨A, n, c, t, F, rfl, h1, h2, h3, h4⟩ := dec_any h
  rcases hd with ⟨a1, a2, a3, rfl⟩ | ⟨a1, rfl, rfl⟩
  · rcases h4 with ⟨b1, b2, b3, rfl⟩ | ⟨b1, -, -⟩
    · obtain rfl := enc_inj a1 b1 a2 b2 (a3.trans b3.symm)
      exact ⟨A, n, c, h1, h3, rfl⟩
    · exact absurd a3 (b1 s a1 a2)
  · rcases h4 with ⟨b1, b2, b3, rfl⟩ | ⟨b1, rfl, rfl⟩
    · exact absurd b3 (a1 t b1 b2)
    · exact ⟨A, n, c, h1, h3, rfl⟩
theorem dec_none {e : Ending} {w' : World} (h : (∃ s A n c, OkSt s ∧ encB s = (⟨#[]⟩ : ByteArray).data.toList ∧ s.Parts.length = n ∧ n ≤ 100000 ∧ e = .returned (.tuple #[stVal A n c s, .int .i64 0]) ∧ Rd w' 3 A n (s.Parts.flatMap partCells)) ∨
    ((∀ y, OkSt y → y.Parts.length ≤ 1000000 → encB y ≠ (⟨#[]⟩ : ByteArray).data.toList) ∧ e = .returned (.tuple #[stVal none 0 0 st0, .int .i64 11]))) : e = .returned (.tuple #[stVal none 0 0 st0, .int .i64 11]) := by
  rcases h with ⟨s, A, n, c, h1, h2, -⟩ | ⟨-, h⟩
  · have h3 := congrArg List.length h2
    have h4 := uint_pos s.Parts.length
    unfold encB encL at h3
    rw [List.flatMap_cons, List.length_append, show ((⟨#[]⟩ : ByteArray).data.toList).length = 0 from rfl] at h3
    omega
  · exact h

set_option linter.unusedSimpArgs false in
set_option maxRecDepth 100000 in
set_option maxHeartbeats 8000000 in
theorem manifestEncodes_walk {w : World} (v0 : Value) (x : ByteArray) (g0 : ∃ A c, ∃ s : St, v0 = stVal A s.Parts.length c s ∧ Rd w 3 A s.Parts.length (s.Parts.flatMap partCells)) (hx : x.size ≤ maxLen) (hp : Pow w) (he : Errs w) :
    Calls Tryd.prog 7 #[v0, .string x] w fun e w' => e = .returned (.bool true) ∧ Below w.heap.size w w' := by
  obtain ⟨A, c, ⟨sP, sN, sQ, sO, sD, sT, sX⟩, rfl, hrd⟩ := g0
  obtain ⟨n, hn⟩ : ∃ n, sP.length = n := ⟨_, rfl⟩
  simp only [hn] at hrd ⊢
  unfold stVal
  simp only
  obtain ⟨b2, hb2'⟩ : ∃ b, w.heap.size = b := ⟨_, rfl⟩
  have HPW := Lib.hid hp
  have HEr := Lib.hid he
  have HXs := Lib.hid hx
  have HN := Lib.hid hn
  have HBW0 := Lib.hid (Below.refl w.heap.size w)
  obtain ⟨W2, hW2, hbel2, hv2⟩ : ∃ W, w.alloc (.cells #[.slice A n c, .int .i64 sN, .int .i64 sQ, .bool sO, .int .i64 sD, .int .i64 sT, .int .i64 sX] 25) = W ∧ Below w.heap.size w W ∧ Var W b2 25 A n c ⟨sP, sN, sQ, sO, sD, sT, sX⟩ :=
    ⟨_, rfl, Below.one _ _, Var.new (T := 25) (A := A) (n := n) (c := c) (s := ⟨sP, sN, sQ, sO, sD, sT, sX⟩) hb2' hrd hn⟩
  have HQ2 := Lib.hid hv2
  have HBW := Lib.hid (HBW0.out.then' hbel2)
  replace HPW := Lib.hid (HPW.out.below hbel2)
  obtain ⟨x2_0, x2_1, x2_2, x2_3, x2_4, x2_5, x2_6, -⟩ := seven HQ2.out.blk
  clear hbel2 hv2 hp he hx hrd hn
  go_enter Tryd.func7, Tryd.ntmps7
  by_cases hlen : 60 < n
  · have t0 : decide ((60 : Int) < (n : Int)) = true := decide_eq_true (by omega)
    have t0' : decide (60 < n) = true := decide_eq_true (by omega)
    go_wp2_with fail
    try simp only [hW2]
    go_ret
    exact ⟨rfl, by first | exact HBW.out | (rw [← hb2']; exact HBW.out)⟩
  have t0 : decide ((60 : Int) < (n : Int)) = false := decide_eq_false (by omega)
  have t0' : decide (60 < n) = false := decide_eq_false (by omega)
  by_cases hxl : 1024 < x.size
  · have t1 : decide ((1024 : Int) < (x.size : Int)) = true := decide_eq_true (by omega)
    have t1' : decide (1024 < x.size) = true := decide_eq_true (by omega)
    go_wp2_with fail
    try simp only [hW2]
    go_ret
    exact ⟨rfl, by first | exact HBW.out | (rw [← hb2']; exact HBW.out)⟩
  have t1 : decide ((1024 : Int) < (x.size : Int)) = false := decide_eq_false (by omega)
  have t1' : decide (1024 < x.size) = false := decide_eq_false (by omega)
  have Hn1 := Lib.hid (show n ≤ 60 by omega)
  have HX1 := Lib.hid (show x.size ≤ 1024 by omega)
  clear hlen hxl
  have HLO := Lib.hid (show ELoop sP n W2 (.int .i64 (0 : Nat)) W2 from ⟨0, rfl, by omega, fun j h hj => absurd hj (by omega), rfl⟩)
  go_wp2_with fail
  try simp only [hW2]
  go_loopw [5] (fun iv wr => ELoop sP n W2 iv wr) (fun iv _ => n - (intOf iv).toNat)
  case atStart => exact HLO.out
  case round =>
    obtain ⟨i, rfl, hi, hsm, rfl⟩ := hrel
    by_cases hlt : i < n
    · have hk1 : (i : Int) < n := by omega
      have hn60 := Hn1.out
      have hil : i < sP.length := by have := HN.out; omega
      obtain ⟨gb, off, rfl, hgb, p0, p1, p2⟩ := part_at HQ2.out.rd (i := i) hil
      obtain ⟨F, hF⟩ : ∃ F, S sP[i].File = F := ⟨_, rfl⟩
      have hFl : F.size = sP[i].File.length := by rw [← hF, S_size]
      simp only at p0 p1 p2
      rw [hF] at p2
      by_cases hf : 100 < F.size
      · have t2 : decide ((100 : Int) < (F.size : Int)) = true := decide_eq_true (by omega)
        have t2' : decide (100 < F.size) = true := decide_eq_true (by omega)
        clear hsm hFl hF hf
        go_wp2_with fail
        go_ret
        exact ⟨rfl, by first | exact HBW.out | (rw [← hb2']; exact HBW.out)⟩
      · have t2 : decide ((100 : Int) < (F.size : Int)) = false := decide_eq_false (by omega)
        have t2' : decide (100 < F.size) = false := decide_eq_false (by omega)
        have HSM := Lib.hid (show ∀ j (h : j < sP.length), j < i + 1 → sP[j].File.length ≤ 100 from fun j h hj => by
          by_cases hji : j = i
          · subst hji; omega
          · exact hsm j h (by omega))
        clear hsm hFl hF hf
        go_wp2_with fail
        go_roundw
        case rel => exact ⟨i + 1, by go_num, by omega, HSM.out, rfl⟩
        case measure => simp [intOf]; omega
    · obtain rfl : n = i := by omega
      have HFL := Lib.hid (show ∀ p ∈ sP, p.File.length ≤ 1000000 from fun p hp => by
        obtain ⟨j, hj, rfl⟩ := List.getElem_of_mem hp
        have := hsm j hj (by have := HN.out; omega)
        omega)
      clear hsm hi hlt t0 t0' t1 t1'
      have HC := mencode_any A n c ⟨sP, sN, sQ, sO, sD, sT, sX⟩ wr HQ2.out.rd HQ2.out.len (by have := Hn1.out; omega) HFL.out HPW.out (HEr.out.below HBW.out)
      unfold stVal at HC
      replace HC := Lib.hid HC
      go_wp2_with fail
      refine HC.out.mono ?_
      rintro e4 w4 ⟨h4, hb4⟩
      obtain ⟨T4, E4, rfl, h4'⟩ : ∃ (T4 : ByteArray) (E4 : Int), e4 = .returned (.tuple #[.string T4, .int .i64 E4]) ∧ ((OkSt ⟨sP, sN, sQ, sO, sD, sT, sX⟩ ∧ T4 = S (encB ⟨sP, sN, sQ, sO, sD, sT, sX⟩) ∧ E4 = 0) ∨ (¬ OkSt ⟨sP, sN, sQ, sO, sD, sT, sX⟩ ∧ T4 = ⟨#[]⟩ ∧ E4 = 170)) := by
        rcases h4 with ⟨ho, rfl⟩ | ⟨ho, rfl⟩
        · exact ⟨_, _, rfl, .inl ⟨ho, rfl, rfl⟩⟩
        · exact ⟨_, _, rfl, .inr ⟨ho, rfl, rfl⟩⟩
      have H4 := Lib.hid h4'
      clear h4 h4'
      clear x2_0 x2_1 x2_2 x2_3 x2_4 x2_5 x2_6
      replace HQ2 := Lib.hid (HQ2.out.below hb4)
      replace HBW := Lib.hid (HBW.out.then' hb4)
      replace HPW := Lib.hid (HPW.out.below hb4)
      clear hb4
      have HT := theirs_any A n c ⟨sP, sN, sQ, sO, sD, sT, sX⟩ w4 HQ2.out.rd HQ2.out.len (by have := Hn1.out; omega)
      unfold stVal at HT
      replace HT := Lib.hid HT
      obtain ⟨x2_0, x2_1, x2_2, x2_3, x2_4, x2_5, x2_6, -⟩ := seven HQ2.out.blk
      go_wp2_with fail
      refine HT.out.mono ?_
      rintro e5 w5 ⟨A5, n5, c5, rfl, hp5, hb5⟩
      clear x2_0 x2_1 x2_2 x2_3 x2_4 x2_5 x2_6
      replace HQ2 := Lib.hid (HQ2.out.below hb5)
      replace HBW := Lib.hid (HBW.out.then' hb5)
      replace HPW := Lib.hid (HPW.out.below hb5)
      clear hb5
      have HC := rencode_any A5 n5 c5 ⟨sP, sN, sQ, sO, sD, sT, sX⟩ w5 hp5.rd hp5.len (by have := Hn1.out; have := hp5.len; have := HQ2.out.len; simp only at *; omega) HFL.out
      replace HC := Lib.hid HC
      clear hp5
      unfold stVal at HC ⊢
      simp only at HC ⊢
      go_wp2_with fail
      refine HC.out.mono ?_
      rintro e6 w6 ⟨h6, hb6⟩
      obtain rfl : e6 = .returned (.tuple #[.string T4, .int .i64 E4]) := by
        rcases H4.out with ⟨ho, rfl, rfl⟩ | ⟨ho, rfl, rfl⟩
        · rcases h6 with ⟨-, rfl⟩ | ⟨hn, -⟩
          · rfl
          · exact absurd ho hn
        · rcases h6 with ⟨hn, -⟩ | ⟨-, rfl⟩
          · exact absurd hn ho
          · rfl
      replace HQ2 := Lib.hid (HQ2.out.below hb6)
      replace HBW := Lib.hid (HBW.out.then' hb6)
      replace HPW := Lib.hid (HPW.out.below hb6)
      clear hb6 h6
      have HD := Lib.hid (mdecode_any x w6 (by have := HX1.out; omega) HPW.out (HEr.out.below HBW.out))
      go_wp2_with fail
      refine HD.out.mono ?_
      rintro e7 w7 ⟨h7, hb7⟩
      obtain ⟨A7, n7, c7, ⟨rP, rN, rQ, rO, rD, rT, rX⟩, E7, rfl, hlt7, hn7, hrd7, h7'⟩ := dec_any h7
      have H7 := Lib.hid h7'
      clear h7 h7'
      unfold stVal
      simp only at hrd7 hlt7 ⊢
      have Hn7 := Lib.hid hn7
      obtain ⟨b10, hb10'⟩ : ∃ b, w7.heap.size = b := ⟨_, rfl⟩
      obtain ⟨W10, hW10, hbel10, hv10⟩ : ∃ W, w7.alloc (.cells #[.slice A7 n7 c7, .int .i64 rN, .int .i64 rQ, .bool rO, .int .i64 rD, .int .i64 rT, .int .i64 rX] 25) = W ∧ Below w6.heap.size w6 W ∧ Var W b10 25 A7 n7 c7 ⟨rP, rN, rQ, rO, rD, rT, rX⟩ :=
        ⟨_, rfl, hb7.then (Below.one _ _), Var.new (T := 25) (A := A7) (n := n7) (c := c7) (s := ⟨rP, rN, rQ, rO, rD, rT, rX⟩) hb10' hrd7 hlt7⟩
      have HQ10 := Lib.hid hv10
      replace HQ2 := Lib.hid (HQ2.out.below hbel10)
      replace HBW := Lib.hid (HBW.out.then' hbel10)
      replace HPW := Lib.hid (HPW.out.below hbel10)
      clear hbel10 hv10
      clear hrd7 hb7 hlt7 hn7
      have HD := Lib.hid (rdecode_any x W10 (by have := HX1.out; omega))
      go_wp2_with fail
      try simp only [hW10]
      clear hW10
      refine HD.out.mono ?_
      rintro e8 w8 ⟨h8, hb8⟩
      obtain ⟨A8, n8, c8, hlt8, hrd8, rfl⟩ := dec_same H7.out h8
      clear h8
      unfold stVal
      simp only at hrd8 hlt8 ⊢
      obtain ⟨b12, hb12'⟩ : ∃ b, w8.heap.size = b := ⟨_, rfl⟩
      obtain ⟨W12, hW12, hbel12, hv12⟩ : ∃ W, w8.alloc (.cells #[.slice A8 n8 c8, .int .i64 rN, .int .i64 rQ, .bool rO, .int .i64 rD, .int .i64 rT, .int .i64 rX] 31) = W ∧ Below W10.heap.size W10 W ∧ Var W b12 31 A8 n8 c8 ⟨rP, rN, rQ, rO, rD, rT, rX⟩ :=
        ⟨_, rfl, hb8.then (Below.one _ _), Var.new (T := 31) (A := A8) (n := n8) (c := c8) (s := ⟨rP, rN, rQ, rO, rD, rT, rX⟩) hb12' hrd8 hlt8⟩
      have HQ12 := Lib.hid hv12
      replace HQ2 := Lib.hid (HQ2.out.below hbel12)
      replace HQ10 := Lib.hid (HQ10.out.below hbel12)
      replace HBW := Lib.hid (HBW.out.then' hbel12)
      replace HPW := Lib.hid (HPW.out.below hbel12)
      clear hbel12 hv12
      clear hrd8 hb8 hlt8
      have HD := Lib.hid (mdecode_any ⟨#[]⟩ W12 (by show (0 : Nat) ≤ 100000; omega) HPW.out (HEr.out.below HBW.out))
      go_wp2_with fail
      try simp only [hW12]
      clear hW12
      refine HD.out.mono ?_
      rintro e9 w9 ⟨h9, hb9⟩
      obtain rfl : e9 = .returned (.tuple #[stVal none 0 0 st0, .int .i64 11]) := dec_none h9
      clear h9
      unfold stVal st0
      simp only
      obtain ⟨b14, hb14'⟩ : ∃ b, w9.heap.size = b := ⟨_, rfl⟩
      obtain ⟨W14, hW14, hbel14, hv14⟩ : ∃ W, w9.alloc (.cells #[.slice none 0 0, .int .i64 0, .int .i64 0, .bool false, .int .i64 0, .int .i64 0, .int .i64 0] 25) = W ∧ Below W12.heap.size W12 W ∧ Var W b14 25 none 0 0 ⟨[], 0, 0, false, 0, 0, 0⟩ :=
        ⟨_, rfl, hb9.then (Below.one _ _), Var.new (T := 25) (A := none) (n := 0) (c := 0) (s := ⟨[], 0, 0, false, 0, 0, 0⟩) hb14' (Rd.nil _ _ _) rfl⟩
      have HQ14 := Lib.hid hv14
      replace HQ2 := Lib.hid (HQ2.out.below hbel14)
      replace HQ10 := Lib.hid (HQ10.out.below hbel14)
      replace HQ12 := Lib.hid (HQ12.out.below hbel14)
      replace HBW := Lib.hid (HBW.out.then' hbel14)
      replace HPW := Lib.hid (HPW.out.below hbel14)
      clear hbel14 hv14
      clear hb9
      obtain ⟨x10_0, x10_1, x10_2, x10_3, x10_4, x10_5, x10_6, -⟩ := seven HQ10.out.blk
      obtain ⟨x12_0, x12_1, x12_2, x12_3, x12_4, x12_5, x12_6, -⟩ := seven HQ12.out.blk
      have lt10 := HQ10.out.lt
      have lt12 := HQ12.out.lt
      have j1 : (T4.toList == T4.toList) = true := by simp
      have j2 : (E4 == E4) = true := by simp
      have j3 : (E7 == E7) = true := by simp
      have HW14 := Lib.hid hW14
      clear hW14
      go_wp2_with fail
      try simp only [HW14.out]
      refine wp_region_held_drew (S := fun w' => Below W14.heap.size W14 w') (by kernel_rfl) ?_ (fun hHeld => ?_)
      · exact (Below.refl _ _).drew
      refine wpAnyH_take (i := 0) (oi := _) (v := ?_) (by simp only [List.getElem?_toArray, List.getElem?_cons_succ, List.getElem?_cons_zero]; rfl) (by kernel_rfl) (by kernel_rfl) (by kernel_rfl) (by exact fun _ _ _ h => h) (Or.inl ⟨by rfl, ?_⟩) (by assumption) ?_
      rotate_left
      · (intro w' hSw; obtain ⟨hbc, -⟩ := bcell hSw; go_simp) <;> with_reducible rfl
      try simp only [Act.put, List.setIfInBounds_toArray, List.set_cons_zero, List.set_cons_succ]
      refine wpAnyH_take (i := 1) (oi := _) (v := ?_) (by simp only [List.getElem?_toArray, List.getElem?_cons_succ, List.getElem?_cons_zero]; rfl) (by kernel_rfl) (by kernel_rfl) (by kernel_rfl) (by exact fun _ _ _ h => h) (Or.inl ⟨by rfl, ?_⟩) (by assumption) ?_
      rotate_left
      · (intro w' hSw; obtain ⟨hbc, -⟩ := bcell hSw; go_simp) <;> with_reducible rfl
      try simp only [Act.put, List.setIfInBounds_toArray, List.set_cons_zero, List.set_cons_succ]
      refine wpAnyH_take (i := 2) (oi := _) (v := ?_) (by simp only [List.getElem?_toArray, List.getElem?_cons_succ, List.getElem?_cons_zero]; rfl) (by kernel_rfl) (by kernel_rfl) (by kernel_rfl) (by exact fun _ _ _ h => h) (Or.inl ⟨by rfl, ?_⟩) (by assumption) ?_
      rotate_left
      · (intro w' hSw; obtain ⟨hbc, -⟩ := bcell hSw; go_simp) <;> with_reducible rfl
      try simp only [Act.put, List.setIfInBounds_toArray, List.set_cons_zero, List.set_cons_succ]
      refine wpAnyH_take (i := 3) (oi := _) (v := ?_) (by simp only [List.getElem?_toArray, List.getElem?_cons_succ, List.getElem?_cons_zero]; rfl) (by kernel_rfl) (by kernel_rfl) (by kernel_rfl) (by exact fun _ _ _ h => h) (Or.inl ⟨by rfl, ?_⟩) (by assumption) ?_
      rotate_left
      · (intro w' hSw; obtain ⟨hbc, -⟩ := bcell hSw; go_simp) <;> with_reducible rfl
      try simp only [Act.put, List.setIfInBounds_toArray, List.set_cons_zero, List.set_cons_succ]
      refine wpAnyH_take (i := 4) (oi := _) (v := ?_) (by simp only [List.getElem?_toArray, List.getElem?_cons_succ, List.getElem?_cons_zero]; rfl) (by kernel_rfl) (by kernel_rfl) (by kernel_rfl) (by exact fun _ _ _ h => h) (Or.inl ⟨by rfl, ?_⟩) (by assumption) ?_
      rotate_left
      · (intro w' hSw; obtain ⟨hbc, -⟩ := bcell hSw; go_simp) <;> with_reducible rfl
      try simp only [Act.put, List.setIfInBounds_toArray, List.set_cons_zero, List.set_cons_succ]
      refine wpAnyH_take (i := 5) (oi := _) (v := ?_) (by simp only [List.getElem?_toArray, List.getElem?_cons_succ, List.getElem?_cons_zero]; rfl) (by kernel_rfl) (by kernel_rfl) (by kernel_rfl) (by exact fun _ _ _ h => h) (Or.inl ⟨by rfl, ?_⟩) (by assumption) ?_
      rotate_left
      · (intro w' hSw; obtain ⟨hbc, -⟩ := bcell hSw; go_simp) <;> with_reducible rfl
      try simp only [Act.put, List.setIfInBounds_toArray, List.set_cons_zero, List.set_cons_succ]
      refine wpAnyH_take (i := 6) (oi := _) (v := ?_) (by simp only [List.getElem?_toArray, List.getElem?_cons_succ, List.getElem?_cons_zero]; rfl) (by kernel_rfl) (by kernel_rfl) (by kernel_rfl) (by exact fun _ _ _ h => h) (Or.inl ⟨by rfl, ?_⟩) (by assumption) ?_
      rotate_left
      · (intro w' hSw; obtain ⟨hbc, -⟩ := bcell hSw; go_simp) <;> with_reducible rfl
      try simp only [Act.put, List.setIfInBounds_toArray, List.set_cons_zero, List.set_cons_succ]
      refine wpAnyH_take (i := 7) (oi := _) (v := ?_) (by simp only [List.getElem?_toArray, List.getElem?_cons_succ, List.getElem?_cons_zero]; rfl) (by kernel_rfl) (by kernel_rfl) (by kernel_rfl) (by exact fun _ _ _ h => h) (Or.inl ⟨by rfl, ?_⟩) (by assumption) ?_
      rotate_left
      · (intro w' hSw; obtain ⟨hbc, -⟩ := bcell hSw; go_simp) <;> with_reducible rfl
      try simp only [Act.put, List.setIfInBounds_toArray, List.set_cons_zero, List.set_cons_succ]
      refine wpAnyH_take (i := 8) (oi := _) (v := ?_) (by simp only [List.getElem?_toArray, List.getElem?_cons_succ, List.getElem?_cons_zero]; rfl) (by kernel_rfl) (by kernel_rfl) (by kernel_rfl) (by exact fun _ _ _ h => h) (Or.inl ⟨by rfl, ?_⟩) (by assumption) ?_
      rotate_left
      · (intro w' hSw; obtain ⟨hbc, -⟩ := bcell hSw; go_simp) <;> with_reducible rfl
      try simp only [Act.put, List.setIfInBounds_toArray, List.set_cons_zero, List.set_cons_succ]
      refine wpAnyH_take (i := 9) (oi := _) (v := ?_) (by simp only [List.getElem?_toArray, List.getElem?_cons_succ, List.getElem?_cons_zero]; rfl) (by kernel_rfl) (by kernel_rfl) (by kernel_rfl) (by exact fun _ _ _ h => h) (Or.inl ⟨by rfl, ?_⟩) (by assumption) ?_
      rotate_left
      · (intro w' hSw; obtain ⟨hbc, -⟩ := bcell hSw; go_simp) <;> with_reducible rfl
      try simp only [Act.put, List.setIfInBounds_toArray, List.set_cons_zero, List.set_cons_succ]
      refine wpAnyH_take (i := 10) (oi := _) (v := ?_) (by simp only [List.getElem?_toArray, List.getElem?_cons_succ, List.getElem?_cons_zero]; rfl) (by kernel_rfl) (by kernel_rfl) (by kernel_rfl) (by exact fun _ _ _ h => h) (Or.inl ⟨by rfl, ?_⟩) (by assumption) ?_
      rotate_left
      · (intro w' hSw; obtain ⟨hbc, -⟩ := bcell hSw; go_simp) <;> with_reducible rfl
      try simp only [Act.put, List.setIfInBounds_toArray, List.set_cons_zero, List.set_cons_succ]
      refine wpAnyH_take (i := 11) (oi := _) (v := ?_) (by simp only [List.getElem?_toArray, List.getElem?_cons_succ, List.getElem?_cons_zero]; rfl) (by kernel_rfl) (by kernel_rfl) (by kernel_rfl) (by exact fun _ _ _ h => h) (Or.inl ⟨by rfl, ?_⟩) (by assumption) ?_
      rotate_left
      · (intro w' hSw; obtain ⟨hbc, -⟩ := bcell hSw; go_simp) <;> with_reducible rfl
      try simp only [Act.put, List.setIfInBounds_toArray, List.set_cons_zero, List.set_cons_succ]
      refine wpAnyH_take (i := 12) (oi := _) (v := ?_) (by simp only [List.getElem?_toArray, List.getElem?_cons_succ, List.getElem?_cons_zero]; rfl) (by kernel_rfl) (by kernel_rfl) (by kernel_rfl) (by exact fun _ _ _ h => h) (Or.inl ⟨by rfl, ?_⟩) (by assumption) ?_
      rotate_left
      · (intro w' hSw; obtain ⟨hbc, -⟩ := bcell hSw; go_simp) <;> with_reducible rfl
      try simp only [Act.put, List.setIfInBounds_toArray, List.set_cons_zero, List.set_cons_succ]
      refine wpAnyH_take (i := 13) (oi := _) (v := ?_) (by simp only [List.getElem?_toArray, List.getElem?_cons_succ, List.getElem?_cons_zero]; rfl) (by kernel_rfl) (by kernel_rfl) (by kernel_rfl) (by exact fun _ _ _ h => h) (Or.inl ⟨by rfl, ?_⟩) (by assumption) ?_
      rotate_left
      · (intro w' hSw; obtain ⟨hbc, -⟩ := bcell hSw; go_simp) <;> with_reducible rfl
      try simp only [Act.put, List.setIfInBounds_toArray, List.set_cons_zero, List.set_cons_succ]
      refine wpAnyH_take (i := 14) (oi := _) (v := ?_) (by simp only [List.getElem?_toArray, List.getElem?_cons_succ, List.getElem?_cons_zero]; rfl) (by kernel_rfl) (by kernel_rfl) (by kernel_rfl) (by exact fun _ _ _ h => h) (Or.inl ⟨by rfl, ?_⟩) (by assumption) ?_
      rotate_left
      · (intro w' hSw; obtain ⟨hbc, -⟩ := bcell hSw; go_simp) <;> with_reducible rfl
      try simp only [Act.put, List.setIfInBounds_toArray, List.set_cons_zero, List.set_cons_succ]
      refine wpAnyH_take (i := 16) (oi := _) (v := ?_) (by simp only [List.getElem?_toArray, List.getElem?_cons_succ, List.getElem?_cons_zero]; rfl) (by kernel_rfl) (by kernel_rfl) (by kernel_rfl) (by exact fun _ _ _ h => h) (Or.inl ⟨by rfl, ?_⟩) (by assumption) ?_
      rotate_left
      · (intro w' hSw; obtain ⟨hbc, -⟩ := bcell hSw; go_simp) <;> with_reducible rfl
      try simp only [Act.put, List.setIfInBounds_toArray, List.set_cons_zero, List.set_cons_succ]
      refine wpAnyH_ready (rs := [15]) (by kernel_rfl) (by simp) ?_
      refine (AllReadyH.cons (o := _) (by simp only [List.getElem?_toArray, List.getElem?_cons_succ, List.getElem?_cons_zero]; rfl) (fun K hK => ?_) AllReadyH.nil)
      go_simp
      have HS := theirs_any A7 n7 c7 ⟨rP, rN, rQ, rO, rD, rT, rX⟩ _ (HQ10.out.below hHeld).rd HQ10.out.len (by have := Hn7.out; omega)
      unfold stVal at HS
      simp only at HS
      refine HS.mono ?_
      rintro e15 w15 ⟨B15, m15, d15, rfl, hp15, hb15⟩
      clear HS
      unfold stVal
      simp only at hp15 ⊢
      go_wp2_with fail
      refine hK.out _ _ ?_ (fun hHeld => ?_)
      · exact hHeld.then hb15
      clear hK K
      try simp only [Act.put, List.setIfInBounds_toArray, List.set_cons_zero, List.set_cons_succ]
      refine wpAnyH_ready (rs := [17]) (by kernel_rfl) (by simp) ?_
      refine (AllReadyH.cons (o := _) (by simp only [List.getElem?_toArray, List.getElem?_cons_succ, List.getElem?_cons_zero]; rfl) (fun K hK => ?_) AllReadyH.nil)
      go_simp
      have HS := same_any B15 A8 m15 d15 n8 c8 ⟨rP, rN, rQ, rO, rD, rT, rX⟩ _ hp15.rd hp15.len (HQ12.out.below hHeld).rd HQ12.out.len (by have := Hn7.out; have := hp15.len; have := HQ10.out.len; simp only at *; omega)
      unfold stVal at HS
      simp only at HS
      refine HS.mono ?_
      rintro e16 w16 ⟨rfl, hb16⟩
      clear HS
      go_wp2_with fail
      refine hK.out _ _ ?_ (fun hHeld => ?_)
      · exact hHeld.then hb16
      clear hK K
      try simp only [Act.put, List.setIfInBounds_toArray, List.set_cons_zero, List.set_cons_succ]
      refine wpAnyH_take (i := 18) (oi := _) (v := ?_) (by simp only [List.getElem?_toArray, List.getElem?_cons_succ, List.getElem?_cons_zero]; rfl) (by kernel_rfl) (by kernel_rfl) (by kernel_rfl) (by exact fun _ _ _ h => h) (Or.inl ⟨by rfl, ?_⟩) (by assumption) ?_
      rotate_left
      · (intro w' hSw; obtain ⟨hbc, -⟩ := bcell hSw; go_simp) <;> with_reducible rfl
      try simp only [Act.put, List.setIfInBounds_toArray, List.set_cons_zero, List.set_cons_succ]
      refine wpAnyH_take (i := 19) (oi := _) (v := ?_) (by simp only [List.getElem?_toArray, List.getElem?_cons_succ, List.getElem?_cons_zero]; rfl) (by kernel_rfl) (by kernel_rfl) (by kernel_rfl) (by exact fun _ _ _ h => h) (Or.inl ⟨by rfl, ?_⟩) (by assumption) ?_
      rotate_left
      · (intro w' hSw; obtain ⟨hbc, -⟩ := bcell hSw; go_simp) <;> with_reducible rfl
      try simp only [Act.put, List.setIfInBounds_toArray, List.set_cons_zero, List.set_cons_succ]
      refine wpAnyH_take (i := 20) (oi := _) (v := ?_) (by simp only [List.getElem?_toArray, List.getElem?_cons_succ, List.getElem?_cons_zero]; rfl) (by kernel_rfl) (by kernel_rfl) (by kernel_rfl) (by exact fun _ _ _ h => h) (Or.inl ⟨by rfl, ?_⟩) (by assumption) ?_
      rotate_left
      · (intro w' hSw; obtain ⟨hbc, -⟩ := bcell hSw; go_simp) <;> with_reducible rfl
      try simp only [Act.put, List.setIfInBounds_toArray, List.set_cons_zero, List.set_cons_succ]
      refine wpAnyH_take (i := 21) (oi := _) (v := ?_) (by simp only [List.getElem?_toArray, List.getElem?_cons_succ, List.getElem?_cons_zero]; rfl) (by kernel_rfl) (by kernel_rfl) (by kernel_rfl) (by exact fun _ _ _ h => h) (Or.inl ⟨by rfl, ?_⟩) (by assumption) ?_
      rotate_left
      · (intro w' hSw; obtain ⟨hbc, -⟩ := bcell hSw; go_simp) <;> with_reducible rfl
      try simp only [Act.put, List.setIfInBounds_toArray, List.set_cons_zero, List.set_cons_succ]
      refine wpAnyH_take (i := 22) (oi := _) (v := ?_) (by simp only [List.getElem?_toArray, List.getElem?_cons_succ, List.getElem?_cons_zero]; rfl) (by kernel_rfl) (by kernel_rfl) (by kernel_rfl) (by exact fun _ _ _ h => h) (Or.inl ⟨by rfl, ?_⟩) (by assumption) ?_
      rotate_left
      · (intro w' hSw; obtain ⟨hbc, -⟩ := bcell hSw; go_simp) <;> with_reducible rfl
      try simp only [Act.put, List.setIfInBounds_toArray, List.set_cons_zero, List.set_cons_succ]
      refine wpAnyH_take (i := 23) (oi := _) (v := ?_) (by simp only [List.getElem?_toArray, List.getElem?_cons_succ, List.getElem?_cons_zero]; rfl) (by kernel_rfl) (by kernel_rfl) (by kernel_rfl) (by exact fun _ _ _ h => h) (Or.inl ⟨by rfl, ?_⟩) (by assumption) ?_
      rotate_left
      · (intro w' hSw; obtain ⟨hbc, -⟩ := bcell hSw; go_simp) <;> with_reducible rfl
      try simp only [Act.put, List.setIfInBounds_toArray, List.set_cons_zero, List.set_cons_succ]
      refine wpAnyH_done (by kernel_rfl) ?_ _
      go_wp2_with fail
      go_ret
      exact ⟨by first | rfl | simp, by first | exact HBW.out.then' hHeld | (rw [← hb2']; exact HBW.out.then' hHeld)⟩
end Go.Proofs.YtbheoahpaidpmaaDoor
