/-
  The walk of the law 'CursorEncodes'.
-/
import Derived.Test.YtfhgjangeicbjaaDoorCurEq
namespace Go.Proofs.YtfhgjangeicbjaaDoor
open Go Go.RowKit Go.Deep Go.ChangeShapes Go.WideShapes

set_option maxRecDepth 100000 in
set_option maxHeartbeats 2000000 in
theorem cursorEncodes_walk (v0 : Value) (g0 : ∃ x : Cur, v0 = curVal x ∧ Cur.ok x) (w : World) (ht : Tab w) :
    Calls Tryd.prog 3 #[v0] w fun e w' => e = .returned (.bool true) ∧ Below w.heap.size w w' := by
  obtain ⟨c, rfl, -⟩ := g0
  have Ht := Lib.hid ht
  clear ht
  by_cases hs : 4096 < c.Q.size
  · unfold curVal
    go_enter Tryd.func3, Tryd.ntmps3
    go_wp2_with fail
    go_ret
    exact ⟨rfl, Below.one _ _⟩
  have g1 := cur_guard
  rcases Bool.eq_false_or_eq_true (rightB c) with hR | hR
  · obtain ⟨K, hK, hKl, hK12, hKs⟩ := token_text hR
    have E1 := Lib.hid (fun w ht => encode_ok c w ht hR)
    have E2 := Lib.hid (fun w => rencode_ok c w hR)
    have D := Lib.hid (fun w ht => decode_to K (some c) w ht hKs (by rw [hKl]; exact decOf_token hR))
    rw [← hK] at E1 E2
    clear hR hK hKl
    obtain ⟨q, t, i⟩ := c
    simp only at hs
    have hE := fun w => run_cur_eql q t i q t i w
    rw [curEq_refl] at hE
    unfold decVal at D
    unfold curVal at *
    go_enter Tryd.func3, Tryd.ntmps3
    go_wp2_with fail
    refine (E1.out _ (Ht.out.below (Below.one _ _))).mono ?_
    rintro e w1 ⟨rfl, hb1⟩
    have hk1 := block_kept hb1 (heap_alloc_new w _)
    obtain ⟨⟨p0, p1, p2⟩, -⟩ := three_cells hk1
    go_wp2_with fail
    refine (E2.out _).mono ?_
    rintro e w2 ⟨rfl, hb2⟩
    go_wp2_with fail
    have hb12 := hb1.then hb2
    have Ht2 := Lib.hid ((Ht.out.below (Below.one _ _)).below hb12)
    refine (D.out _ Ht2.out).mono ?_
    rintro e w3 ⟨rfl, hb3⟩
    have hb13 := hb12.then hb3
    have hk3 := block_kept hb13 (heap_alloc_new w _)
    obtain ⟨r0, r1, r2⟩ := three_later hk3
    clear hk1 p0 p1 p2 hk3
    go_wp2_with fail
    go_ret
    exact ⟨rfl, (hb13.allocl).then (Below.one _ _)⟩
  · have E1 := Lib.hid (fun w => encode_no c w hR)
    have E2 := Lib.hid (fun w => rencode_no c w hR)
    clear hR
    obtain ⟨q, t, i⟩ := c
    simp only at hs
    unfold curVal at *
    go_enter Tryd.func3, Tryd.ntmps3
    go_wp2_with fail
    refine (E1.out _).mono ?_
    rintro e w1 ⟨rfl, hb1⟩
    have hk1 := block_kept hb1 (heap_alloc_new w _)
    obtain ⟨⟨p0, p1, p2⟩, -⟩ := three_cells hk1
    go_wp2_with fail
    refine (E2.out _).mono ?_
    rintro e w2 ⟨rfl, hb2⟩
    go_wp2_with fail
    have hb12 := hb1.then hb2
    have Ht2 := Lib.hid ((Ht.out.below (Below.one _ _)).below hb12)
    refine (decode_empty _ Ht2.out).mono ?_
    rintro e w3 ⟨rfl, hb3⟩
    go_wp2_with fail
    go_ret
    exact ⟨rfl, ((hb12.then hb3).allocl).then (Below.one _ _)⟩
end Go.Proofs.YtfhgjangeicbjaaDoor
