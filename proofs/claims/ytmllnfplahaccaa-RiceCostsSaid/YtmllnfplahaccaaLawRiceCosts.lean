/-
  The walk of the law 'RiceCosts'.
-/
import Derived.Test.YtmllnfplahaccaaRiceBest
namespace Go.Proofs.Ytmllnfplahaccaa
open Go Go.RowKit Go.Deep Go.ChangeShapes Go.WideShapes

section
variable {H : Type} {enc : TypeId × Value → H} {w : World}
theorem u64_elem : ∀ n cs y, cs.length = 1 → DataW.trod enc Try.prog w 0 (fun _ => true) true n 25 cs = some y → ∃ x : Nat, cs = [.int .u64 (x : Int)] ∧ x < 18446744073709551616 := by
  intro n cs y _ h
  obtain ⟨b, hb, _, wb⟩ := DataW.trod_int Try.underlying25 h
  have bd := bounds_u64 wb
  refine ⟨b.toNat, ?_, by omega⟩
  rw [hb, show ((b.toNat : Nat) : Int) = b by omega]

/-- an argument of numbers -/
theorem read_u64s {v : Value} {d : DataW H} {p : List MemPlace} {r : Reach} {b0 : Nat} (hv : Value.okWide Try.prog w r b0 22 v) (h : DataW.Trod enc Try.prog w 0 (fun _ => true) true 22 v d p) :
    ∃ A c, ∃ l : List Nat, v = .slice A l.length c ∧ Rd w 1 A l.length (u64Cells l) ∧ ∀ x ∈ l, x < 18446744073709551616 := by
  obtain ⟨A, c, l, h1, h2, h3, _⟩ := read_slice (cells := fun x : Nat => [Value.int .u64 (x : Int)]) (R := fun x => x < 18446744073709551616) (fun _ => rfl) (by decide) Try.underlying22 (by kernel_rfl) u64_elem hv h
  refine ⟨A, c, l, h1, ?_, h3⟩
  have e : u64Cells l = l.flatMap fun (x : Nat) => [Value.int .u64 (x : Int)] := by
    exact List.map_eq_flatMap
  rw [e]; exact h2
end

theorem one_cost : costZ [1000] 10 = 11 := by decide

theorem one_rd {w w' : World} (h : Below (w.alloc (.cells #[.int .u64 1000] 25)).heap.size (w.alloc (.cells #[.int .u64 1000] 25)) w') : Rd w' 1 (some ⟨w.heap.size, 0, none⟩) 1 (u64Cells [1000]) := by
  have h0 : Rd (w.alloc (.cells #[.int .u64 1000] 25)) 1 (some ⟨w.heap.size, 0, none⟩) 1 (u64Cells [1000]) := by
    refine ⟨rfl, fun _ => ⟨w.heap.size, 0, rfl, by simp, fun j u hu => ?_⟩⟩
    have := cell_new w #[.int .u64 1000] 25 j u (by simpa [u64Cells] using hu)
    rw [add_none] at this
    exact this
  exact h0.below h

set_option maxRecDepth 100000 in
set_option maxHeartbeats 2000000 in
theorem riceCosts_walk (w : World) (v0 : Value) (k : Int) (g0 : ∃ A c, ∃ l : List Nat, v0 = .slice A l.length c ∧ Rd w 1 A l.length (u64Cells l) ∧ ∀ x ∈ l, x < 18446744073709551616) (_h0 : -9223372036854775808 ≤ k) (_h1 : k ≤ 9223372036854775807) :
    Calls Try.prog 3 #[v0, .int .i64 k] w fun e w' => e = .returned (.bool true) ∧ Below w.heap.size w w' := by
  obtain ⟨A, c, l, rfl, hr, hx⟩ := g0
  by_cases hl : 100 < l.length
  · go_enter Try.func3, Try.ntmps3
    go_wp2_with fail
    go_ret
    exact ⟨rfl, Below.refl _ _⟩
  have B1 := Lib.hid (fun w hr => best_any A c l w hr (by omega) hx)
  have B2 := Lib.hid (fun w hr => rbest_any A c l w hr (by omega) hx)
  have C1 := Lib.hid (fun k w hr => cost_any A c l k w hr (by omega) hx)
  have C2 := Lib.hid (fun k w hr => rcost_any A c l k w hr (by omega) hx)
  have Hr := Lib.hid hr
  have Hbest := Lib.hid (bestN_least l 40)
  have hble := bestN_le l 40
  have CN := Lib.hid (fun k w hr hk => cost_in A c l k w hr (by omega) hk hx)
  have O1 := Lib.hid (fun A c w (hr : Rd w 1 A 1 (u64Cells [1000])) => best_any A c [1000] w hr (by decide) (by simp))
  have O2 := Lib.hid (fun A c w (hr : Rd w 1 A 1 (u64Cells [1000])) => rbest_any A c [1000] w hr (by decide) (by simp))
  have O3 := Lib.hid (fun A c w (hr : Rd w 1 A 1 (u64Cells [1000])) => cost_any A c [1000] 10 w hr (by decide) (by simp))
  rw [one_cost] at O3
  generalize bestN [1000] 40 = bo at *
  clear hr hx
  generalize bestN l 40 = b at *
  go_enter Try.func3, Try.ntmps3
  go_wp2_with fail
  refine (B1.out _ Hr.out).mono ?_
  rintro e w1 ⟨rfl, hb1⟩
  go_wp2_with fail
  refine (C1.out _ _ (Hr.out.below hb1)).mono ?_
  rintro e w2 ⟨rfl, hb2⟩
  go_wp2_with fail
  refine (C2.out _ _ ((Hr.out.below hb1).below hb2)).mono ?_
  rintro e w3 ⟨rfl, hb3⟩
  have hb13 := (hb1.then hb2).then hb3
  go_wp2_with fail
  refine (B2.out _ (Hr.out.below hb13)).mono ?_
  rintro e w4 ⟨rfl, hb4⟩
  have hb14 := hb13.then hb4
  clear hb1 hb2 hb3 hb13 hb4
  go_wp2_with fail
  go_loopw [6] (fun i wr => ∃ j : Nat, i = .int .i64 j ∧ j ≤ 41 ∧ Below w.heap.size w wr) (fun i _ => 41 - (intOf i).toNat)
  case atStart => exact ⟨0, rfl, by omega, hb14⟩
  case round =>
    obtain ⟨j, rfl, hj, hbel⟩ := hrel
    by_cases hlt : j ≤ 40
    · have hji : (j : Int) ≤ 40 := by omega
      have K1 := Lib.hid (fun w hr => CN.out j w hr hlt)
      have K2 := Lib.hid (fun w hr => CN.out b w hr hble)
      obtain ⟨h1, h2⟩ := Hbest.out j hlt
      generalize costN l j = x at *
      generalize costN l b = y at *
      have hd1 : decide ((x : Int) < (y : Int)) = false := decide_eq_false (by omega)
      by_cases hjb : j < b
      · have h3 := h2 hjb
        have hd2 : decide ((j : Int) < (b : Int)) = true := decide_eq_true (by omega)
        have hd3 : ((x : Int) == (y : Int)) = false := beq_eq_false_iff_ne.2 (by omega)
        have hd4 : (x == y) = false := beq_eq_false_iff_ne.2 (by omega)
        have hd5 : ¬ x < y := by omega
        have hd6 : ¬ x = y := by omega
        clear h1 h2 h3
        go_wp2_with fail
        refine (K1.out _ (Hr.out.below hbel)).mono ?_
        rintro e w5 ⟨rfl, hb5⟩
        go_wp2_with fail
        refine (K2.out _ ((Hr.out.below hbel).below hb5)).mono ?_
        rintro e w6 ⟨rfl, hb6⟩
        go_wp2_with fail
        refine (K2.out _ (((Hr.out.below hbel).below hb5).below hb6)).mono ?_
        rintro e w7 ⟨rfl, hb7⟩
        have hb57 := ((hbel.then hb5).then hb6).then hb7
        clear hb5 hb6 hb7
        go_wp2_with fail
        go_roundw
        case rel => exact ⟨j + 1, by go_num, by omega, hb57⟩
        case measure => simp [intOf]; omega
      · have hd2 : decide ((j : Int) < (b : Int)) = false := decide_eq_false (by omega)
        have hd5 : ¬ x < y := by omega
        clear h1 h2
        go_wp2_with fail
        refine (K1.out _ (Hr.out.below hbel)).mono ?_
        rintro e w5 ⟨rfl, hb5⟩
        go_wp2_with fail
        refine (K2.out _ ((Hr.out.below hbel).below hb5)).mono ?_
        rintro e w6 ⟨rfl, hb6⟩
        have hb57 := (hbel.then hb5).then hb6
        clear hb5 hb6
        go_wp2_with fail
        go_roundw
        case rel => exact ⟨j + 1, by go_num, by omega, hb57⟩
        case measure => simp [intOf]; omega
    · obtain rfl : j = 41 := by omega
      have R0 : Hid (∀ w', Below (wr.alloc (.cells #[.int .u64 1000] 25)).heap.size (wr.alloc (.cells #[.int .u64 1000] 25)) w' → Rd w' 1 (some ⟨wr.heap.size, 0, none⟩) 1 (u64Cells [1000])) := fun _ h => one_rd h
      go_wp2_with fail
      refine (O1.out _ _ _ (R0.out _ (Below.refl _ _))).mono ?_
      rintro e w5 ⟨rfl, hb5⟩
      go_wp2_with fail
      refine (O2.out _ _ _ (R0.out _ hb5)).mono ?_
      rintro e w6 ⟨rfl, hb6⟩
      go_wp2_with fail
      refine (O3.out _ _ _ (R0.out _ (hb5.then hb6))).mono ?_
      rintro e w7 ⟨rfl, hb7⟩
      have hb57 := hbel.then (((hb5.then hb6).then hb7).allocl)
      clear hb5 hb6 hb7
      go_wp2_with fail
      go_ret
      exact ⟨rfl, hb57⟩
end Go.Proofs.Ytmllnfplahaccaa
