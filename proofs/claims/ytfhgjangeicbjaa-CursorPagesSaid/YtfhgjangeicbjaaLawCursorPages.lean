/-
  The walk of the law 'CursorPages'.
-/
import Derived.Test.YtfhgjangeicbjaaCursorRef
namespace Go.Proofs.Ytfhgjangeicbjaa
open Go Go.RowKit Go.Deep Go.ChangeShapes Go.WideShapes

theorem after_none (r : Row) : afterB ⟨⟨#[]⟩, 0, -1⟩ r = true := by simp [afterB]

set_option maxRecDepth 100000 in
set_option maxHeartbeats 2000000 in
theorem cursorPages_walk (w : World) (v0 v1 : Value) (k : Int) (g0 : ∃ A c, ∃ xs : List Row, v0 = .slice A xs.length c ∧ Rd w 3 A xs.length (xs.flatMap rowCells) ∧ (∀ x ∈ xs, Row.ok x) ∧ xs.length ≤ c ∧ c ≤ maxLen) (g1 : ∃ x : Cur, v1 = curVal x ∧ Cur.ok x)
    (_h0 : -9223372036854775808 ≤ k) (_h1 : k ≤ 9223372036854775807) :
    Calls Try.prog 4 #[v0, v1, .int .i64 k] w fun e w' => e = .returned (.bool true) ∧ Below w.heap.size w w' := by
  clear _h0 _h1
  obtain ⟨A, ca, rows, rfl, hr, -, -, -⟩ := g0
  obtain ⟨⟨q, t, id⟩, rfl, -⟩ := g1
  unfold curVal
  by_cases hl : 4096 < rows.length
  · go_enter Try.func4, Try.ntmps4
    go_wp2_with fail
    go_ret
    exact ⟨rfl, (Below.refl _ _).alloc (Nat.le_refl _) _⟩
  by_cases hq : 4096 < q.size
  · go_enter Try.func4, Try.ntmps4
    go_wp2_with fail
    go_ret
    exact ⟨rfl, (Below.refl _ _).alloc (Nat.le_refl _) _⟩
  have hl1 : decide (4096 < (rows.length : Int)) = false := by simp; omega
  have hq1 : decide (4096 < (q.size : Int)) = false := by simp; omega
  have hr0 := hr.alloc (.cells #[.string q, .int .i64 t, .int .i64 id] 23)
  have C1 := Lib.hid (fun cap w hr => page_any A cap rows q t id k w hr (by omega))
  have C2 := Lib.hid (fun cap w hr => rpage_any A cap rows q t id k w hr (by omega))
  generalize hP : pageRows rows ⟨q, t, id⟩ k = P at C1 C2
  generalize hM : pageMore rows ⟨q, t, id⟩ k = M at C1 C2
  have hPl : P.length ≤ 1099511627776 := by rw [← hP]; exact Nat.le_trans (pageRows_le _ _ _) (by omega)
  have hMM : (M == M) = true := by simp
  clear hP hM
  have Hr := Lib.hid hr
  have Hr0 := Lib.hid hr0
  clear hr hr0
  go_enter Try.func4, Try.ntmps4
  go_wp2_with fail
  refine (C1.out _ _ Hr0.out).mono ?_
  rintro e w1 ⟨A1, c1, rfl, hr1, hb1⟩
  have q0 := box_cell (unboxed hb1) (j := 0) rfl
  have q1 := box_cell (unboxed hb1) (j := 1) rfl
  have q2 := box_cell (unboxed hb1) (j := 2) rfl
  simp only [List.getElem_toArray, List.getElem_cons_zero, List.getElem_cons_succ] at q0 q1 q2
  have Hr1 := Lib.hid (Hr0.out.below hb1)
  go_wp2_with fail
  refine (C2.out _ _ Hr1.out).mono ?_
  rintro e w2 ⟨A2, c2, rfl, hr2, hb2⟩
  have s0 := keepc hb2 q0
  have s1 := keepc hb2 q1
  have s2 := keepc hb2 q2
  have Hr2 := Lib.hid (Hr1.out.below hb2)
  have Hp1 := Lib.hid (hr1.below hb2)
  have Hp2 := Lib.hid hr2
  have hB2 := hb1.then hb2
  clear hr1 hr2 q0 q1 q2
  go_wp2_with fail
  go_loopw [11] (fun i wr => ∃ j : Nat, i = .int .i64 j ∧ j ≤ rows.length ∧ Below w2.heap.size w2 wr) (fun i _ => rows.length - (intOf i).toNat)
  case atStart => exact ⟨0, rfl, by omega, Below.refl _ _⟩
  case round =>
    obtain ⟨j, rfl, hj, hbel⟩ := hrel
    have t0 := keepc hbel s0
    have t1 := keepc hbel s1
    have t2 := keepc hbel s2
    by_cases hlt : j < rows.length
    · obtain ⟨b, off, rfl, hb, e0, e1, e2⟩ := row_at (Hr2.out.below hbel) hlt
      go_wp2_with fail
      go_region_held3 (fun w' => w'.cell? ⟨b, off + j * 3, none⟩ = some (.int .i64 rows[j].T) ∧ w'.cell? ⟨b, off + j * 3 + 1, none⟩ = some (.int .i64 rows[j].ID) ∧ w'.cell? ⟨b, off + j * 3 + 2, none⟩ = some (.int .i64 rows[j].V) ∧ w'.cell? ⟨w.heap.size, 0, none⟩ = some (.string q) ∧ w'.cell? ⟨w.heap.size, 1, none⟩ = some (.int .i64 t) ∧ w'.cell? ⟨w.heap.size, 2, none⟩ = some (.int .i64 id))
        (first | go_keep | (go_split_ands; refine ⟨?_, ?_, ?_, ?_, ?_, ?_⟩ <;> (first | (refine keepc hbq ?_; first | assumption | go_keep) | (refine keepc hbp ?_; first | assumption | go_keep))))
        (first | (go_at_call 5; refine (after_any _ _ _ _ _ _ _).mono ?_; rintro e wp ⟨rfl, hbp⟩) | (go_at_call 9; refine (rafter_any _ _ _ _ _ _ _).mono ?_; rintro e wq ⟨rfl, hbq⟩))
      go_wp2_with fail
      go_roundw
      case rel => exact ⟨j + 1, by go_num, by omega, hbel.then (hbp.drewl.then hbq)⟩
      case measure => simp [intOf]; omega
    · go_wp2_with fail
      refine (equal_any _ _ _ _ _ _ _ (Hp1.out.below hbel) (Hp2.out.below hbel) hPl).mono ?_
      rintro e w3 ⟨rfl, hb3⟩
      rw [rowsEq_self]
      go_wp2_with fail
      refine (after_any _ _ _ _ _ _ _).mono ?_
      rintro e w4 ⟨rfl, hb4⟩
      rw [after_none]
      go_wp2_with fail
      go_ret
      exact ⟨rfl, Below.then ((Below.refl _ _).alloc (Nat.le_refl _) _) (hB2.then (hbel.then (hb3.then hb4)))⟩
end Go.Proofs.Ytfhgjangeicbjaa
