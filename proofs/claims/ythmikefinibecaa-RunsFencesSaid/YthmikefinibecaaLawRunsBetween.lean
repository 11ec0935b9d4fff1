/-
  The walk of the law 'RunsBetween'.
-/
import Derived.Test.YthmikefinibecaaRunLawKit
namespace Go.Proofs.Ythmikefinibecaa
open Go Go.RowKit Go.Deep Go.ChangeShapes Go.WideShapes

/-- what stands on the way to the end of a law: the answers as slices -/
theorem blk_nil (w : World) : Calls Try.prog 10 #[.string ⟨#[]⟩] w fun e w' => ∃ (A : Option Addr) (c : Nat), e = .returned (.tuple #[.slice A 0 c, .int .i64 11]) ∧ Below w.heap.size w w' :=
  (blocks_u ⟨#[]⟩ w (by decide)).mono fun e w' h => by
    obtain ⟨A, c, rfl, -, -, hb⟩ := h
    refine ⟨A, c, ?_, hb⟩
    show Ending.returned (.tuple #[.slice A (blkL []).length c, .int .i64 (blkE [])]) = _
    rw [blkL_nil, blkE_nil]; rfl

set_option linter.unusedSimpArgs false in
set_option maxRecDepth 100000 in
set_option maxHeartbeats 4000000 in
theorem runsBetween_walk (s : ByteArray) (v1 : Value) (_hs : s.size ≤ maxLen) (g1 : ∃ x y : Int, v1 = .agg #[.int .i64 x, .int .i64 y] ∧ I64 x ∧ I64 y) (w : World) :
    Calls Try.prog 3 #[.string s, v1] w fun e w' => e = .returned (.bool true) ∧ Below w.heap.size w w' := by
  obtain ⟨x, y, rfl, -, -⟩ := g1
  by_cases hl : 1024 < s.size
  · have k1 : decide (1024 < s.size) = true := decide_eq_true hl
    have k2 : decide ((1024 : Int) < (s.size : Int)) = true := decide_eq_true (by omega)
    clear hl
    go_enter Try.func3, Try.ntmps3
    go_wp2_with fail
    go_ret
    exact ⟨rfl, (Below.refl _ _).alloc (Nat.le_refl _) _⟩
  · have hs : s.size ≤ 1000000 := by omega
    have k1 : decide (1024 < s.size) = false := decide_eq_false hl
    have k2 : decide ((1024 : Int) < (s.size : Int)) = false := decide_eq_false (by omega)
    have C1 := fun w => blocks_u s w hs
    have C2 := fun w => rblocks_u s w hs
    have C3 := fun w => between_u s x y w hs
    have C4 := fun w => rbetween_u s x y w hs
    unfold BlkU at C1 C2
    unfold BetU at C3 C4
    obtain ⟨fs, hfs⟩ : ∃ fs, blkL s.data.toList = fs := ⟨_, rfl⟩
    obtain ⟨e1, he1⟩ : ∃ e1, blkE s.data.toList = e1 := ⟨_, rfl⟩
    obtain ⟨rs, hrs⟩ : ∃ rs, betL s.data.toList x y = rs := ⟨_, rfl⟩
    obtain ⟨e2, he2⟩ : ∃ e2, betE s.data.toList x y = e2 := ⟨_, rfl⟩
    simp only [hfs, he1] at C1 C2
    simp only [hrs, he2] at C3 C4
    have H1 := Lib.hid C1
    have H2 := Lib.hid C2
    have H3 := Lib.hid C3
    have H4 := Lib.hid C4
    have HB := Lib.hid (show Below w.heap.size w (w.alloc (.cells #[.int .i64 x, .int .i64 y] 23)) from Below.one _ _)
    have Hb := Lib.hid (show RBox w.heap.size x y (w.alloc (.cells #[.int .i64 x, .int .i64 y] 23)) from heap_alloc_new w _)
    have q1 : (e1 == e1) = true := beq_self_eq_true _
    have q2 : (e1 != e1) = false := by rw [bne, q1]; rfl
    have q3 : (e2 == e2) = true := beq_self_eq_true _
    have q4 : (e2 != e2) = false := by rw [bne, q3]; rfl
    have q5 : rowsEq rs rs = true := rowsEq_self rs
    have HQ5 := Lib.hid q5
    clear hl C1 C2 C3 C4 hfs he1 hrs he2 q5
    go_enter Try.func3, Try.ntmps3
    go_wp2_with fail
    have hBz : w.heap.size < (w.alloc (.cells #[.int .i64 x, .int .i64 y] 23)).heap.size := by simp
    generalize w.alloc (.cells #[.int .i64 x, .int .i64 y] 23) = w0 at *
    refine (H1.out _).mono ?_
    rintro e w1 ⟨A1, c1, rfl, hr1, hn1, hb1⟩
    have B1 := Lib.hid hb1
    have R1 := Lib.hid hr1
    clear hr1 hb1
    go_wp2_with fail
    refine (H2.out _).mono ?_
    rintro e w2 ⟨A2, c2, rfl, hr2, -, hb2⟩
    have B2 := Lib.hid (B1.out.then hb2)
    have R2 := Lib.hid hr2
    have R1b := Lib.hid (R1.out.below hb2)
    obtain ⟨x0, x1⟩ := (show RBox w.heap.size x y w2 from (B2.out.block _ hBz).trans Hb.out).cells
    clear hr2 hb2 R1 B1
    go_wp2_with fail
    refine (H3.out _).mono ?_
    rintro e w3 ⟨A3, c3, rfl, hr3, hn3, hb3⟩
    have B3 := Lib.hid (B2.out.then hb3)
    have R3 := Lib.hid hr3
    have R2c := Lib.hid (R2.out.below hb3)
    have R1c := Lib.hid (R1b.out.below hb3)
    have y0 := keepc hb3 x0
    have y1 := keepc hb3 x1
    clear hr3 hb3 R2 B2 R1b x0 x1
    go_wp2_with fail
    refine (H4.out _).mono ?_
    rintro e w4 ⟨A4, c4, rfl, hr4, -, hb4⟩
    have B4 := Lib.hid (B3.out.then hb4)
    have R4 := Lib.hid hr4
    have R3d := Lib.hid (R3.out.below hb4)
    have R2d := Lib.hid (R2c.out.below hb4)
    have R1d := Lib.hid (R1c.out.below hb4)
    clear hr4 hb4 R3 R2c R1c B3 y0 y1
    go_wp2_with fail
    refine (blk_nil _).mono ?_
    rintro e w5 ⟨A5, c5, rfl, hb5⟩
    have B5 := Lib.hid (B4.out.then hb5)
    have R4e := Lib.hid (R4.out.below hb5)
    have R3e := Lib.hid (R3d.out.below hb5)
    have R2e := Lib.hid (R2d.out.below hb5)
    have R1e := Lib.hid (R1d.out.below hb5)
    clear hb5 R4 R3d R2d R1d B4 H1 H2 H3 H4
    go_wp2_with fail
    refine (equal_any _ _ _ _ _ _ _ R3e.out R4e.out (by omega)).mono ?_
    rintro e w6 ⟨rfl, hb6⟩
    have B6 := Lib.hid (B5.out.then hb6)
    have R2f := Lib.hid (R2e.out.below hb6)
    have R1f := Lib.hid (R1e.out.below hb6)
    rw [HQ5.out]
    clear hb6 R4e R3e R2e R1e B5
    have p1 : ((fs.length : Int) == (fs.length : Int)) = true := beq_self_eq_true _
    have p2 : ((fs.length : Int) != (fs.length : Int)) = false := by rw [bne, p1]; rfl
    go_wp2_with fail
    obtain ⟨n, hn⟩ : ∃ n, fs.length = n := ⟨_, rfl⟩
    have Hn := Lib.hid hn
    rw [hn] at R1f R2f hn1 ⊢
    clear hn
    go_loopw [15] (fun ix wr => ∃ i : Nat, ix = .int .i64 i ∧ i ≤ n ∧ Below w6.heap.size w6 wr) (fun ix _ => n - (intOf ix).toNat)
    case atStart => exact ⟨0, rfl, by omega, Below.refl _ _⟩
    case round =>
      obtain ⟨i, rfl, hi, hbel⟩ := hrel
      have Hbel := Lib.hid hbel
      clear hbel
      by_cases hlt : i < n
      · have hlt' : i < fs.length := by have := Hn.out; omega
        obtain ⟨g1, o1, rfl, hg1, hf1⟩ := (R1f.out.below Hbel.out).elem rngC_length (by decide) hlt'
        obtain ⟨g2, o2, rfl, hg2, hf2⟩ := (R2f.out.below Hbel.out).elem rngC_length (by decide) hlt'
        have f0 := hf1 0 _ rfl
        have f1 := hf1 1 _ rfl
        have t0 := hf2 0 _ rfl
        have t1 := hf2 1 _ rfl
        clear hf1 hf2
        generalize fs[i] = f at f0 f1 t0 t1
        obtain ⟨F, T, k, b⟩ := f
        simp only [Nat.add_zero] at f0 f1 t0 t1
        have f1' : wr.cell? ⟨g1, o1 + i * 2 + 1, none⟩ = some (.int .i64 T) := by rw [Nat.add_assoc]; exact f1
        have t1' : wr.cell? ⟨g2, o2 + i * 2 + 1, none⟩ = some (.int .i64 T) := by rw [Nat.add_assoc]; exact t1
        clear f1 t1
        have hi1 : (i : Int) < n := by omega
        have hg := rng_guard
        have hne := fun w => run_rng_neq F T F T w
        rw [show (!(F == F && T == T)) = false by simp] at hne
        go_wp2_with fail
        go_quiet (fail)
        go_wp2_with fail
        go_roundw
        case rel => exact ⟨i + 1, by go_num, by omega, below_drewN Hbel.out _⟩
        case measure => simp [intOf]; omega
      · go_wp2_with fail
        go_ret
        exact ⟨rfl, (HB.out.then B6.out).trans (Hbel.out.mono (Nat.le_trans HB.out.size B6.out.size))⟩
end Go.Proofs.Ythmikefinibecaa
