/-
  The walk of the law 'CursorChanged'.
-/
import Derived.Test.YtfhgjangeicbjaaDoorCurChgPlain
import Derived.Test.YtfhgjangeicbjaaDoorLawCurDecodes
namespace Go.Proofs.YtfhgjangeicbjaaDoor
open Go Go.RowKit Go.Deep Go.ChangeShapes Go.WideShapes

theorem token_digit {K : ByteArray} {c : Cur} (h : K.data.toList = token c) {k : Nat} (hk : k < K.size) : ∃ d, d < 16 ∧ K[k] = hexd d := by
  have hlk : k < K.data.toList.length := by rw [← Lib.size_eq]; exact hk
  have hmem : K[k] ∈ token c := by rw [← h]; exact List.getElem_mem hlk
  have := hex_digits _ _ hmem
  exact ⟨_, this, (hexd_dig this).symm⟩

theorem turn_in (a : Int) (n : Nat) (h6 : 6 ≤ n) (hn : n < 1099511627776) : ∃ M : Nat, (wrap64 (a.tmod (n : Int) + (n : Int))).tmod (n : Int) = (M : Int) ∧ M < n := by
  have h2 := Int.lt_tmod_of_pos a (b := (n : Int)) (by omega)
  have h3 := Int.tmod_lt_of_pos a (b := (n : Int)) (by omega)
  have e1 : wrap64 (a.tmod (n : Int) + n) = a.tmod (n : Int) + n := by unfold wrap64; omega
  rw [e1]
  have h4 := Int.tmod_nonneg (a := a.tmod (n : Int) + n) (n : Int) (by omega)
  have h5 := Int.tmod_lt_of_pos (a.tmod (n : Int) + n) (b := (n : Int)) (by omega)
  exact ⟨((a.tmod (n : Int) + n).tmod (n : Int)).toNat, by omega, by omega⟩

theorem other_digit (D b : Nat) (_hD : D < 16) : ∃ E : Nat, (E : Int) = ((D : Int) + 1 + (b : Int) % 15) % 16 ∧ E < 16 ∧ E ≠ D :=
  ⟨(D + 1 + b % 15) % 16, by omega, by omega, by omega⟩

set_option maxRecDepth 100000 in
set_option maxHeartbeats 4000000 in
theorem cursorChanged_walk (v0 : Value) (a : Int) (b : Nat) (g0 : ∃ x : Cur, v0 = curVal x ∧ Cur.ok x) (_h0 : -9223372036854775808 ≤ a) (_h1 : a ≤ 9223372036854775807) (hb : b < 256) (w : World) (ht : Tab w) :
    Calls Tryd.prog 5 #[v0, .int .i64 a, .int .u8 b] w fun e w' => e = .returned (.bool true) ∧ Below w.heap.size w w' := by
  obtain ⟨c, rfl, -⟩ := g0
  have Ht := Lib.hid ht
  clear ht
  by_cases hs : 100 < c.Q.size
  · unfold curVal
    go_enter Tryd.func5, Tryd.ntmps5
    go_wp2_with fail
    go_ret
    exact ⟨rfl, Below.one _ _⟩
  have g1 := cur_guard
  rcases Bool.eq_false_or_eq_true (rightB c) with hR | hR
  · obtain ⟨K, hK, hKl, hK12, hKs⟩ := token_text hR
    have E1 := Lib.hid (fun w ht => encode_ok c w ht hR)
    have E2 := Lib.hid (fun w => rencode_ok c w hR)
    have D := Lib.hid (fun w ht => decode_to K (some c) w ht hKs (by rw [hKl]; exact decOf_token hR))
    have HC := Lib.hid (fun k E h1 h2 h3 => token_changed hR (by omega) (k := k) (E := E) h1 h2 h3)
    rw [← hK] at E1 E2
    have HKl := Lib.hid hKl
    clear hR hK hKl
    obtain ⟨q, t, i⟩ := c
    simp only at hs
    have hE := fun w => run_cur_eql q t i q t i w
    rw [curEq_refl] at hE
    unfold decVal at D
    unfold curVal at *
    obtain ⟨n, hn⟩ : ∃ n : Nat, n + 6 = K.size := ⟨K.size - 6, by omega⟩
    obtain ⟨M, hM, hMn⟩ := turn_in a n (by omega) (by omega)
    have hni : (K.size : Int) - 6 = (n : Int) := by omega
    have hk : 6 + M < K.size := by omega
    have Hn := Lib.hid hn
    obtain ⟨kk, hkk⟩ : ∃ kk, kk = 6 + M := ⟨_, rfl⟩
    rw [← hkk] at hk
    have hkx : (6 : Int) + (M : Int) = (kk : Int) := by omega
    obtain ⟨Dg, hD16, hKk⟩ := token_digit HKl.out hk
    have Hkk := Lib.hid hkk
    have hk6 : 6 ≤ kk := by omega
    clear hn hkk
    go_enter Tryd.func5, Tryd.ntmps5
    go_wp2_with fail
    refine (E1.out _ (Ht.out.below (Below.one _ _))).mono ?_
    rintro e w1 ⟨rfl, hb1⟩
    have hk1 := block_kept hb1 (heap_alloc_new w _)
    obtain ⟨⟨p0, p1, p2⟩, -⟩ := three_cells hk1
    go_wp2_with fail
    refine (E2.out _).mono ?_
    rintro e w2 ⟨rfl, hb2⟩
    have hb12 := hb1.then hb2
    have Ht2 := Lib.hid ((Ht.out.below (Below.one _ _)).below hb12)
    have hk2 := block_kept hb2 hk1
    have Hk2 := Lib.hid hk2
    have Hb12 := Lib.hid hb12
    clear hk1 hk2 p0 p1 p2 hb1 hb2 hb12
    go_wp2_with fail
    go_loopw [15, 16] (fun was ix wr => ∃ j : Nat, ix = .int .i64 j ∧ j ≤ 16 ∧ was = .int .i64 (wasAt Dg j : Nat) ∧ Below w2.heap.size w2 wr) (fun _ ix _ => 16 - (intOf ix).toNat)
    case atStart => exact ⟨0, rfl, by omega, rfl, Below.refl _ _⟩
    case round =>
      obtain ⟨j, rfl, hj, rfl, hbel⟩ := hrel
      by_cases hlt : j < 16
      · have hd := hexd_at j hlt
        by_cases hjD : j = Dg
        · subst hjD
          have Hw := Lib.hid (wasAt_found j)
          go_wp2_with fail
          go_region
          go_wp2_with fail
          go_roundw
          case rel => exact ⟨j + 1, by go_num, by omega, by rw [Hw.out], hbel.drew⟩
          case measure => simp [intOf]; omega
        · have Hw := Lib.hid (wasAt_next hjD)
          have hne : (((hexd j).toNat : Int) == ((hexd Dg).toNat : Int)) = false := by
            rw [beq_eq_false_iff_ne]
            intro e
            exact hjD (hexd_inj hlt hD16 (UInt8.toNat_inj.1 (by omega)))
          go_wp2_with fail
          go_region
          go_wp2_with fail
          go_roundw
          case rel => exact ⟨j + 1, by go_num, by omega, by rw [Hw.out], hbel.drew⟩
          case measure => simp [intOf]; omega
      · obtain rfl : j = 16 := by omega
        have hw : wasAt Dg 16 = Dg := by unfold wasAt; rw [if_pos hD16]
        rw [hw]
        clear hw
        go_wp2_with fail
        obtain ⟨E, hEv, hE16, hED⟩ := other_digit Dg b hD16
        rw [← hEv]
        clear hEv
        have hch := HC.out kk E hk6 (by rw [← HKl.out, ← Lib.size_eq]; exact hk) (by
          intro e
          have e2 : (token ⟨q, t, i⟩)[kk]'(by rw [← HKl.out, ← Lib.size_eq]; exact hk) = K[kk] := by simp only [← HKl.out]; rfl
          rw [e2, hKk] at e
          exact hED (hexd_inj hE16 hD16 e))
        have hdat := changed_data K kk (hexd E) hk
        rw [← HKl.out, ← hdat] at hch
        have htz : (K.extract 0 kk ++ S [hexd E] ++ K.extract (kk + 1) K.size).size = K.size := by
          have hl0 := Lib.size_eq K
          rw [Lib.size_eq, hdat, List.length_append, List.length_cons, List.length_take, List.length_drop]; omega
        have D2 := Lib.hid (fun w ht => decode_to (K.extract 0 kk ++ S [hexd E] ++ K.extract (kk + 1) K.size) none w ht (by omega) hch)
        unfold decVal at D2
        have gsl : ∀ W, (Instr.slice 9 (.string K) none (some (.int .i64 (kk : Int))) none).run Tryd.prog W = .ok (.string (K.extract 0 kk)) W := fun W => by
          have := run_slice_string_h (P := Tryd.prog) W 9 K Tryd.underlying9 .i64 (kk : Int) (by omega) (by omega)
          rwa [show ((kk : Int)).toNat = kk by omega] at this
        have gsl2 : ∀ W, (Instr.slice 9 (.string K) (some (.int .i64 ((kk : Int) + 1))) none none).run Tryd.prog W = .ok (.string (K.extract (kk + 1) K.size)) W := fun W => by
          have := run_slice_string_l (P := Tryd.prog) W 9 K Tryd.underlying9 .i64 ((kk : Int) + 1) (by omega) (by omega)
          rwa [show ((kk : Int) + 1).toNat = kk + 1 by omega] at this
        have gsl3 : ∀ W, (Instr.slice 9 (.string ⟨#[48, 49, 50, 51, 52, 53, 54, 55, 56, 57, 97, 98, 99, 100, 101, 102]⟩) (some (.int .i64 (E : Int))) (some (.int .i64 ((E : Int) + 1))) none).run Tryd.prog W = .ok (.string (S [hexd E])) W := fun W => by
          have := run_slice_string (P := Tryd.prog) W 9 ⟨#[48, 49, 50, 51, 52, 53, 54, 55, 56, 57, 97, 98, 99, 100, 101, 102]⟩ .i64 .i64 (E : Int) ((E : Int) + 1) Tryd.underlying9 (by omega) (by omega) (by show _ ≤ (16 : Int); omega)
          rwa [show ((E : Int)).toNat = E by omega, show ((E : Int) + 1).toNat = E + 1 by omega, dig_slice hE16] at this
        have w1' : IntKind.i64.wrap ((E : Int) + 1) = (E : Int) + 1 := IntWalk.i64_in _ (by omega)
        have w2' : IntKind.i64.wrap ((kk : Int) + 1) = (kk : Int) + 1 := IntWalk.i64_in _ (by omega)
        have hsc : (S [hexd E]).size = 1 := by rw [S_size]; rfl
        have hmin : min kk K.size = kk := by omega
        have hmin2 : min K.size K.size = K.size := by omega
        have z1 : ¬ 9223372036854775807 < kk + 1 := by omega
        have z2 : ¬ 9223372036854775807 < kk + 1 + (K.size - (kk + 1)) := by omega
        have HtW := Lib.hid (Ht2.out.below hbel)
        have hkW := block_kept hbel Hk2.out
        have HkW := Lib.hid hkW
        clear hdat hch htz hkW
        go_region_with (go_at_call 10; refine (D2.out _ (HtW.out.below (by first | exact (Below.refl _ _).drew | exact (Below.one _ _).drew))).mono ?_; rintro e w3 ⟨rfl, hb3⟩; obtain ⟨hbc, hbf⟩ := bcell hb3)
        · have hH : Below wr.heap.size wr w3 := hb3.drewl
          have HH := Lib.hid hH
          have Ht4 := Lib.hid (fun o => (HtW.out.below hH).below (Below.one w3 o))
          clear hH hb3 hbc hbf
          go_wp2_with fail
          refine (D.out _ (Ht4.out _)).mono ?_
          rintro e w5 ⟨rfl, hb5⟩
          have hk5 := block_on hb5 (block_kept HH.out HkW.out)
          obtain ⟨r0, r1, r2⟩ := three_later hk5
          have hbelE := ((((Below.one w _).then Hb12.out).then hbel).then HH.out).then hb5.allocl
          clear hk5
          go_wp2_with fail
          go_ret
          exact ⟨rfl, hbelE.then (Below.one _ _)⟩
        · have hH := below_three (hb3.drewl.allocl)
          have HH := Lib.hid hH
          have Ht4 := Lib.hid (fun v0 v1 v2 => HtW.out.below (hH v0 v1 v2))
          clear hH hb3 hbc hbf
          go_wp2_with fail
          refine (D.out _ (Ht4.out _ _ _)).mono ?_
          rintro e w5 ⟨rfl, hb5⟩
          have hk5 := block_kept hb5 (block_kept (HH.out _ _ _) HkW.out)
          obtain ⟨r0, r1, r2⟩ := three_later hk5
          have hbelE := ((((Below.one w _).then Hb12.out).then hbel).then (HH.out _ _ _)).then hb5
          clear hk5
          go_wp2_with fail
          go_ret
          exact ⟨rfl, hbelE.then (Below.one _ _)⟩
  · have E1 := Lib.hid (fun w => encode_no c w hR)
    have E2 := Lib.hid (fun w => rencode_no c w hR)
    clear hR
    obtain ⟨q, t, i⟩ := c
    simp only at hs
    unfold curVal at *
    go_enter Tryd.func5, Tryd.ntmps5
    go_wp2_with fail
    refine (E1.out _).mono ?_
    rintro e w1 ⟨rfl, hb1⟩
    have hk1 := block_kept hb1 (heap_alloc_new w _)
    obtain ⟨⟨p0, p1, p2⟩, -⟩ := three_cells hk1
    go_wp2_with fail
    refine (E2.out _).mono ?_
    rintro e w2 ⟨rfl, hb2⟩
    go_wp2_with fail
    have hb12 := hb1.then hb2
    have Ht2 := Lib.hid ((Ht.out.below (Below.one _ _)).below hb12)
    refine (decode_empty _ Ht2.out).mono ?_
    rintro e w3 ⟨rfl, hb3⟩
    go_wp2_with fail
    go_ret
    exact ⟨rfl, ((hb12.then hb3).allocl).then (Below.one _ _)⟩
end Go.Proofs.YtfhgjangeicbjaaDoor
