/-
  The walk of the law 'RiceReads'.
-/
import Derived.Test.YtmllnfplahaccaaRRead2
import Derived.Test.YtmllnfplahaccaaStep
namespace Go.Proofs.Ytmllnfplahaccaa
open Go Go.RowKit

/-- both readers stand at one bit -/
def Both (b c : Nat) (s : ByteArray) (W w : World) : Prop := ∃ p, p ≤ 8 * s.size ∧ RdrOf 61 b s p w ∧ RdrOf 63 c s p w ∧ Below W.heap.size W w
theorem But.rdr {T : TypeId} {b c p : Nat} {s : ByteArray} {w w' : World} (h : But b w w') (hr : RdrOf T c s p w) (hc : c ≠ b) : RdrOf T c s p w' := by unfold RdrOf at *; rw [h.block c hc]; exact hr
theorem rdr_below {T : TypeId} {c p : Nat} {s : ByteArray} {w w' : World} (h : Below w.heap.size w w') (hr : RdrOf T c s p w) : RdrOf T c s p w' := by
  unfold RdrOf at *; rw [h.block c (Array.getElem?_eq_some_iff.1 hr).1]; exact hr
theorem rleft_nat (b : Nat) (s : ByteArray) (j : Nat) (w : World) (h : RdrOf 63 b s j w) (hs : s.size ≤ 1000000) (hj : j ≤ 8 * s.size) :
    Calls Try.prog 26 #[.pointer (some ⟨b, 0, none⟩)] w fun e w' => e = .returned (.int .i64 ((8 * s.size - j : Nat) : Int)) ∧ Still w w' := by
  have := rleft_any b s j w h (by omega) (by omega)
  rwa [show ((8 * s.size - j : Nat) : Int) = 8 * (s.size : Int) - (j : Int) by omega]
theorem cells3' {w : World} {q : Nat} {a b c : Value} {T : TypeId} (h : w.heap[q]? = some (.cells #[a, b, c] T (0, 0))) : w.cell? ⟨q, 0, none⟩ = some a ∧ w.cell? ⟨q, 1, none⟩ = some b ∧ w.cell? ⟨q, 2, none⟩ = some c :=
  ⟨(Lib.cell_of_heap h 0).trans rfl, (Lib.cell_of_heap h 1).trans rfl, (Lib.cell_of_heap h 2).trans rfl⟩

set_option maxRecDepth 100000 in
set_option maxHeartbeats 2000000 in
theorem riceReads_in (s : ByteArray) (A : Option Addr) (cp : Nat) (l : List Step) (w : World) (hr : Rd w 3 A l.length (l.flatMap stepCells)) :
    Calls Try.prog 5 #[.string s, .slice A l.length cp] w fun e w' => e = .returned (.bool true) ∧ Below w.heap.size w w' := by
  by_cases h1024 : 1024 < s.size
  · have hd : decide (1024 < s.size) = true := decide_eq_true h1024
    have hd' : decide ((1024 : Int) < (s.size : Int)) = true := decide_eq_true (by omega)
    go_enter Try.func5, Try.ntmps5
    go_wp2_with fail
    go_ret
    exact ⟨rfl, Below.refl _ _⟩
  · have hd : decide (1024 < s.size) = false := decide_eq_false h1024
    have hd' : decide ((1024 : Int) < (s.size : Int)) = false := decide_eq_false (by omega)
    have hsz : s.size ≤ 1024 := by omega
    have Hsz := Lib.hid hsz
    clear h1024 hsz
    by_cases h200 : 200 < l.length
    · have hd2 : decide (200 < l.length) = true := decide_eq_true h200
      have hd2' : decide ((200 : Int) < (l.length : Int)) = true := decide_eq_true (by omega)
      go_enter Try.func5, Try.ntmps5
      go_wp2_with fail
      go_ret
      exact ⟨rfl, Below.refl _ _⟩
    · have hd2 : decide (200 < l.length) = false := decide_eq_false h200
      have hd2' : decide ((200 : Int) < (l.length : Int)) = false := decide_eq_false (by omega)
      go_enter Try.func5, Try.ntmps5
      go_wp2_with fail
      refine (read_any _ _).mono ?_
      rintro e w1 ⟨rfl, rfl⟩
      go_wp2_with fail
      refine (rread_any _ _).mono ?_
      rintro e w2 ⟨rfl, rfl⟩
      go_wp2_with fail
      have H0 : Both w.heap.size (w.heap.size + 1) s w ((w.alloc (.cells #[.string s, .int .i64 0] 61)).alloc (.cells #[.string s, .int .i64 0] 63)) := by
        obtain ⟨w1, hw1⟩ : ∃ w1, w1 = w.alloc (.cells #[.string s, .int .i64 0] 61) := ⟨_, rfl⟩
        have hs1 : w1.heap.size = w.heap.size + 1 := by rw [hw1]; simp
        have a1 : RdrOf 61 w.heap.size s 0 w1 := by rw [hw1]; exact heap_alloc_new w _
        rw [← hw1, ← hs1]
        have hb1 : Below w.heap.size w w1 := by rw [hw1]; exact Below.one w _
        exact ⟨0, by omega, rdr_below (Below.one w1 _) a1, heap_alloc_new w1 _, hb1.then (Below.one w1 _)⟩
      generalize (w.alloc (.cells #[.string s, .int .i64 0] 61)).alloc (.cells #[.string s, .int .i64 0] 63) = w0 at H0 ⊢
      obtain ⟨B, hB⟩ : ∃ B, B = w.heap.size := ⟨_, rfl⟩
      rw [← hB] at H0 ⊢
      have HB := Lib.hid hB
      clear hB
      go_loopw [7] (fun ix wr => ∃ (j : Nat), ix = .int .i64 j ∧ j ≤ l.length ∧ Both B (B + 1) s w wr) (fun ix _ => l.length - (intOf ix).toNat)
      case atStart => exact ⟨0, rfl, by omega, H0⟩
      case round =>
        clear H0
        obtain ⟨j, rfl, hj, p, hp, hx, hy, hbel⟩ := hrel
        by_cases hlt : j < l.length
        · obtain ⟨bo, off, rfl, hbo, e0, e1, e2⟩ := step_at (hr.below hbel) hlt
          generalize l[j] = o at e0 e1 e2
          obtain ⟨kd, n, k⟩ := o
          simp only at e0 e1 e2
          have HX := Lib.hid hx
          have HY := Lib.hid hy
          have Hbel := Lib.hid hbel
          have Hp := Lib.hid hp
          clear hx hy hbel hp
          have hbA : Below wr.heap.size wr (wr.alloc (.cells #[.int .i64 kd, .int .u64 (n : Int), .int .i64 k] 40)) := Below.one _ _
          have hqA := heap_alloc_new wr (.cells #[.int .i64 kd, .int .u64 (n : Int), .int .i64 k] 40)
          have HXA := Lib.hid (rdr_below hbA HX.out)
          have HYA := Lib.hid (rdr_below hbA HY.out)
          have hBw := HB.out
          have hqB : wr.heap.size ≠ B ∧ wr.heap.size ≠ B + 1 := by
            have h1 := (Array.getElem?_eq_some_iff.1 HX.out).1
            have h2 := (Array.getElem?_eq_some_iff.1 HY.out).1
            omega
          have HqB := Lib.hid hqB
          have HqA := Lib.hid hqA
          have HBA := Lib.hid (Hbel.out.then hbA)
          have hs6 := Lib.hid (show s.size ≤ 1000000 by have := Hsz.out; omega)
          have hs12 := Lib.hid (show s.size < 1099511627776 by have := Hsz.out; omega)
          have hlen := Lib.hid (show ((sbits s).drop p).length = 8 * s.size - p by rw [List.length_drop, sbits_size])
          clear hbA hqA hqB hBw HX HY Hbel
          have hcase : ((kd == 0) = true) ∨ ((kd == 0) = false ∧ (kd == 1) = true) ∨ ((kd == 0) = false ∧ (kd == 1) = false ∧ (kd == 2) = true) ∨ ((kd == 0) = false ∧ (kd == 1) = false ∧ (kd == 2) = false) := by
            simp only [beq_iff_eq, beq_eq_false_iff_ne]; omega
          rcases hcase with z0 | ⟨z0, z1⟩ | ⟨z0, z1, z2⟩ | ⟨z0, z1, z2⟩
          · have hgl := Lib.hid (getZ_le ((sbits s).drop p) k)
            go_wp2_with fail
            refine (get_any B s p k _ HXA.out hs12.out Hp.out).mono ?_
            rintro e w1 ⟨rfl, hx1, hb1⟩
            obtain ⟨r0, r1, r2⟩ := cells3' ((hb1.block _ HqB.out.1).trans HqA.out)
            have HY1 := Lib.hid (hb1.rdr HYA.out (by omega))
            have HX1 := Lib.hid hx1
            have HB1 := Lib.hid (HBA.out.trans (hb1.below (by have := HB.out; omega)))
            clear hx1 hb1
            go_wp2_with fail
            refine (rget_any (B + 1) s p k _ HY1.out hs6.out Hp.out).mono ?_
            rintro e w2 ⟨rfl, hy2, hb2⟩
            have HX2 := Lib.hid (hb2.rdr HX1.out (by omega))
            have HY2 := Lib.hid hy2
            have HB2 := Lib.hid (HB1.out.trans (hb2.below (by have := HB.out; omega)))
            clear hy2 hb2 r0 r1 r2
            have HP2 := Lib.hid (show p + (getZ ((sbits s).drop p) k).2.1 ≤ 8 * s.size by have := hgl.out; have := hlen.out; have := Hp.out; omega)
            clear hgl
            generalize (getZ ((sbits s).drop p) k) = g at *
            have L1 := Lib.hid (left_any B s (p + g.2.1) _ HX2.out hs12.out HP2.out)
            go_wp2_with fail
            refine L1.out.mono ?_
            rintro e w3 ⟨rfl, hst3⟩
            have HY3 := Lib.hid (hst3.rdr HY2.out)
            have HX3 := Lib.hid (hst3.rdr HX2.out)
            have HB3 := Lib.hid (HB2.out.then hst3.below)
            clear hst3
            go_wp2_with fail
            refine (rleft_nat (B + 1) s (p + g.2.1) _ HY3.out hs6.out HP2.out).mono ?_
            rintro e w4 ⟨rfl, hst4⟩
            have HY4 := Lib.hid (hst4.rdr HY3.out)
            have HX4 := Lib.hid (hst4.rdr HX3.out)
            have HB4 := Lib.hid (HB3.out.then hst4.below)
            clear hst4
            go_wp2_with fail
            go_roundw
            case rel => exact ⟨j + 1, by go_num, by omega, (p + g.2.1), HP2.out, HX4.out, HY4.out, HB4.out⟩
            case measure => simp [intOf]; omega
          · have hgl := Lib.hid (riceZ_le ((sbits s).drop p) k)
            go_wp2_with fail
            refine (readRice_any B s p k _ HXA.out hs6.out Hp.out).mono ?_
            rintro e w1 ⟨rfl, hx1, hb1⟩
            obtain ⟨r0, r1, r2⟩ := cells3' ((hb1.block _ HqB.out.1).trans HqA.out)
            have HY1 := Lib.hid (hb1.rdr HYA.out (by omega))
            have HX1 := Lib.hid hx1
            have HB1 := Lib.hid (HBA.out.trans (hb1.below (by have := HB.out; omega)))
            clear hx1 hb1
            go_wp2_with fail
            refine (rreadRice_any (B + 1) s p k _ HY1.out hs6.out Hp.out).mono ?_
            rintro e w2 ⟨rfl, hy2, hb2⟩
            have HX2 := Lib.hid (hb2.rdr HX1.out (by omega))
            have HY2 := Lib.hid hy2
            have HB2 := Lib.hid (HB1.out.trans (hb2.below (by have := HB.out; omega)))
            clear hy2 hb2 r0 r1 r2
            have HP2 := Lib.hid (show p + (riceZ ((sbits s).drop p) k).2.1 ≤ 8 * s.size by have := hgl.out; have := hlen.out; have := Hp.out; omega)
            clear hgl
            generalize (riceZ ((sbits s).drop p) k) = g at *
            have L1 := Lib.hid (left_any B s (p + g.2.1) _ HX2.out hs12.out HP2.out)
            go_wp2_with fail
            refine L1.out.mono ?_
            rintro e w3 ⟨rfl, hst3⟩
            have HY3 := Lib.hid (hst3.rdr HY2.out)
            have HX3 := Lib.hid (hst3.rdr HX2.out)
            have HB3 := Lib.hid (HB2.out.then hst3.below)
            clear hst3
            go_wp2_with fail
            refine (rleft_nat (B + 1) s (p + g.2.1) _ HY3.out hs6.out HP2.out).mono ?_
            rintro e w4 ⟨rfl, hst4⟩
            have HY4 := Lib.hid (hst4.rdr HY3.out)
            have HX4 := Lib.hid (hst4.rdr HX3.out)
            have HB4 := Lib.hid (HB3.out.then hst4.below)
            clear hst4
            go_wp2_with fail
            go_roundw
            case rel => exact ⟨j + 1, by go_num, by omega, (p + g.2.1), HP2.out, HX4.out, HY4.out, HB4.out⟩
            case measure => simp [intOf]; omega
          · go_wp2_with fail
            refine (end_any B s p _ HXA.out hs12.out Hp.out).mono ?_
            rintro e w1 ⟨rfl, hst1⟩
            have HY1 := Lib.hid (hst1.rdr HYA.out)
            have HX1 := Lib.hid (hst1.rdr HXA.out)
            have HB1 := Lib.hid (HBA.out.then hst1.below)
            clear hst1
            go_wp2_with fail
            refine (rend_any (B + 1) s p _ HY1.out hs6.out Hp.out).mono ?_
            rintro e w2 ⟨rfl, hst2⟩
            have HY2 := Lib.hid (hst2.rdr HY1.out)
            have HX2 := Lib.hid (hst2.rdr HX1.out)
            have HB2 := Lib.hid (HB1.out.then hst2.below)
            clear hst2
            generalize endE ((sbits s).drop p) = g at *
            have HP2 := Lib.hid Hp.out
            have L1 := Lib.hid (left_any B s p _ HX2.out hs12.out HP2.out)
            go_wp2_with fail
            refine L1.out.mono ?_
            rintro e w3 ⟨rfl, hst3⟩
            have HY3 := Lib.hid (hst3.rdr HY2.out)
            have HX3 := Lib.hid (hst3.rdr HX2.out)
            have HB3 := Lib.hid (HB2.out.then hst3.below)
            clear hst3
            go_wp2_with fail
            refine (rleft_nat (B + 1) s p _ HY3.out hs6.out HP2.out).mono ?_
            rintro e w4 ⟨rfl, hst4⟩
            have HY4 := Lib.hid (hst4.rdr HY3.out)
            have HX4 := Lib.hid (hst4.rdr HX3.out)
            have HB4 := Lib.hid (HB3.out.then hst4.below)
            clear hst4
            go_wp2_with fail
            go_roundw
            case rel => exact ⟨j + 1, by go_num, by omega, p, HP2.out, HX4.out, HY4.out, HB4.out⟩
            case measure => simp [intOf]; omega
          · have HX2 := Lib.hid HXA.out
            have HY2 := Lib.hid HYA.out
            have HB2 := Lib.hid HBA.out
            have HP2 := Lib.hid Hp.out
            have L1 := Lib.hid (left_any B s p _ HX2.out hs12.out HP2.out)
            go_wp2_with fail
            refine L1.out.mono ?_
            rintro e w3 ⟨rfl, hst3⟩
            have HY3 := Lib.hid (hst3.rdr HY2.out)
            have HX3 := Lib.hid (hst3.rdr HX2.out)
            have HB3 := Lib.hid (HB2.out.then hst3.below)
            clear hst3
            go_wp2_with fail
            refine (rleft_nat (B + 1) s p _ HY3.out hs6.out HP2.out).mono ?_
            rintro e w4 ⟨rfl, hst4⟩
            have HY4 := Lib.hid (hst4.rdr HY3.out)
            have HX4 := Lib.hid (hst4.rdr HX3.out)
            have HB4 := Lib.hid (HB3.out.then hst4.below)
            clear hst4
            go_wp2_with fail
            go_roundw
            case rel => exact ⟨j + 1, by go_num, by omega, p, HP2.out, HX4.out, HY4.out, HB4.out⟩
            case measure => simp [intOf]; omega
        · obtain rfl : j = l.length := by omega
          have HX := Lib.hid hx
          have HY := Lib.hid hy
          have Hbel := Lib.hid hbel
          have G := Lib.hid (get_any B s p 65 wr hx (by have := Hsz.out; omega) hp)
          clear hx hy hbel hp
          go_wp2_with fail
          refine G.out.mono ?_
          rintro e w1 ⟨rfl, hx1, hb1⟩
          have e1 : (getZ ((sbits s).drop p) 65).2.2 = 1 := rfl
          rw [e1]
          have HB1 := Lib.hid (Hbel.out.trans (hb1.below (by have := HB.out; omega)))
          clear hx1 hb1 e1
          go_wp2_with fail
          go_ret
          exact ⟨rfl, HB1.out⟩

theorem riceReads_walk (w : World) (s : ByteArray) (v1 : Value) (_ : s.size ≤ maxLen) (g1 : ∃ A c, ∃ xs : List Step, v1 = .slice A xs.length c ∧ Rd w 3 A xs.length (xs.flatMap stepCells) ∧ (∀ x ∈ xs, Step.ok x) ∧ xs.length ≤ c ∧ c ≤ maxLen) :
    Calls Try.prog 5 #[.string s, v1] w fun e w' => e = .returned (.bool true) ∧ Below w.heap.size w w' := by
  obtain ⟨A, c, xs, rfl, hr, hx, _⟩ := g1
  exact riceReads_in s A c xs w hr
end Go.Proofs.Ytmllnfplahaccaa
