/-
  The walk of the law 'CursorApart'.
-/
import Derived.Test.YtfhgjangeicbjaaDoorLawCurDecodes
namespace Go.Proofs.YtfhgjangeicbjaaDoor
open Go Go.RowKit Go.Deep Go.ChangeShapes Go.WideShapes

/-- what a cursor is encoded as: a text, and an error's number -/
def EncIs (c : Cur) (K : ByteArray) (n : Nat) : Prop := (rightB c = true ∧ K = S (token c) ∧ n = 0) ∨ (rightB c = false ∧ K = ⟨#[]⟩ ∧ n = 1)
theorem encIs (c : Cur) : ∃ K n, EncIs c K n := by
  rcases Bool.eq_false_or_eq_true (rightB c) with h | h
  · exact ⟨_, _, .inl ⟨h, rfl, rfl⟩⟩
  · exact ⟨_, _, .inr ⟨h, rfl, rfl⟩⟩
theorem encode_to {c : Cur} {K : ByteArray} {n : Nat} (h : EncIs c K n) (w : World) (ht : Tab w) :
    Calls Tryd.prog 8 #[curVal c] w fun e w' => e = .returned (.tuple #[.string K, .int .i64 n]) ∧ Below w.heap.size w w' := by
  rcases h with ⟨h, rfl, rfl⟩ | ⟨h, rfl, rfl⟩
  · exact encode_ok c w ht h
  · exact encode_no c w h
theorem rencode_to {c : Cur} {K : ByteArray} {n : Nat} (h : EncIs c K n) (w : World) :
    Calls Tryd.prog 9 #[curVal c] w fun e w' => e = .returned (.tuple #[.string K, .int .i64 n]) ∧ Below w.heap.size w w' := by
  rcases h with ⟨h, rfl, rfl⟩ | ⟨h, rfl, rfl⟩
  · exact rencode_ok c w h
  · exact rencode_no c w h

/-- two texts are one just if their cursors are -/
theorem apart {a b : Cur} {K L : ByteArray} (ha : EncIs a K 0) (hb : EncIs b L 0) : ((K.toList == L.toList) == curEq a b) = true := by
  rcases ha with ⟨ha, rfl, _⟩ | ⟨_, _, h⟩
  · rcases hb with ⟨hb, rfl, _⟩ | ⟨_, _, h⟩
    · rw [beq_iff_eq]
      by_cases h : a = b
      · subst h; rw [curEq_refl]; simp
      · have h1 : curEq a b = false := by
          rcases Bool.eq_false_or_eq_true (curEq a b) with e | e
          · exact absurd ((curEq_iff a b).1 e) h
          · exact e
        rw [h1, beq_eq_false_iff_ne, Lib.toList_data, Lib.toList_data, S_toList, S_toList]
        exact fun e => h (token_inj ha hb e)
    · cases h
  · cases h

set_option maxRecDepth 100000 in
set_option maxHeartbeats 4000000 in
theorem cursorApart_walk (v0 v1 : Value) (g0 : ∃ x : Cur, v0 = curVal x ∧ Cur.ok x) (g1 : ∃ x : Cur, v1 = curVal x ∧ Cur.ok x) (w : World) (ht : Tab w) :
    Calls Tryd.prog 6 #[v0, v1] w fun e w' => e = .returned (.bool true) ∧ Below w.heap.size w w' := by
  obtain ⟨c, rfl, -⟩ := g0
  obtain ⟨d, rfl, -⟩ := g1
  have Ht := Lib.hid ht
  clear ht
  obtain ⟨K, m, hK⟩ := encIs c
  obtain ⟨L, n, hL⟩ := encIs d
  have E1 := Lib.hid (encode_to hK)
  have E2 := Lib.hid (encode_to hL)
  have E3 := Lib.hid (rencode_to hK)
  have g1 := cur_guard
  have HK := Lib.hid hK
  have HL := Lib.hid hL
  clear hK hL
  obtain ⟨q, t, i⟩ := c
  obtain ⟨q', t', i'⟩ := d
  by_cases hs : 2048 < q.size
  · unfold curVal
    go_enter Tryd.func6, Tryd.ntmps6
    go_wp2_with fail
    go_ret
    exact ⟨rfl, below_two _ _ _⟩
  by_cases hs' : 2048 < q'.size
  · unfold curVal
    go_enter Tryd.func6, Tryd.ntmps6
    go_wp2_with fail
    go_ret
    exact ⟨rfl, below_two _ _ _⟩
  have hE := fun w => run_cur_eql q t i q' t' i' w
  unfold curVal at *
  go_enter Tryd.func6, Tryd.ntmps6
  go_wp2_with fail
  refine (E1.out _ (Ht.out.below (below_two _ _ _))).mono ?_
  rintro e w1 ⟨rfl, hb1⟩
  have hA1 := block_on hb1 (heap_alloc_new w (.cells #[.string q, .int .i64 t, .int .i64 i] 23))
  have hB1 := block_kept hb1 (heap_alloc_new (w.alloc (.cells #[.string q, .int .i64 t, .int .i64 i] 23)) _)
  have hsz : (w.alloc (.cells #[.string q, .int .i64 t, .int .i64 i] 23)).heap.size = w.heap.size + 1 := by simp
  rw [hsz] at hB1
  obtain ⟨⟨p0, p1, p2⟩, -⟩ := three_cells hA1
  obtain ⟨⟨q0, q1, q2⟩, -⟩ := three_cells hB1
  have Ht1 := Lib.hid ((Ht.out.below (below_two _ _ _)).below hb1)
  clear hsz
  go_wp2_with fail
  refine (E2.out _ Ht1.out).mono ?_
  rintro e w2 ⟨rfl, hb2⟩
  have hA2 := block_kept hb2 hA1
  have hB2 := block_kept hb2 hB1
  clear p0 p1 p2 q0 q1 q2
  obtain ⟨⟨p0, p1, p2⟩, -⟩ := three_cells hA2
  go_wp2_with fail
  refine (E3.out _).mono ?_
  rintro e w3 ⟨rfl, hb3⟩
  have hA3 := block_kept hb3 hA2
  have hB3 := block_kept hb3 hB2
  have Ht3 := Lib.hid ((Ht1.out.below hb2).below hb3)
  clear p0 p1 p2
  go_wp2_with fail
  refine (decode_empty _ Ht3.out).mono ?_
  rintro e w4 ⟨rfl, hb4⟩
  have hA4 := block_kept hb4 hA3
  have hB4 := block_kept hb4 hB3
  have hbel := ((((below_two w _ _).then hb1).then hb2).then hb3).then hb4
  obtain ⟨p0, p1, p2⟩ := three_later hA4
  obtain ⟨q0, q1, q2⟩ := three_later hB4
  clear hA1 hA2 hA3 hA4 hB1 hB2 hB3 hB4
  by_cases hm : m = 0
  · subst hm
    by_cases hn : n = 0
    · subst hn
      have hap := apart HK.out HL.out
      go_wp2_with fail
      go_ret
      exact ⟨rfl, hbel.then (Below.one _ _)⟩
    · have hne : ((n : Int) != 0) = true := by rw [bne_iff_ne]; omega
      go_wp2_with fail
      go_ret
      exact ⟨rfl, hbel.then (Below.one _ _)⟩
  · have hne : ((m : Int) != 0) = true := by rw [bne_iff_ne]; omega
    have hee : ((m : Int) != (m : Int)) = false := by simp
    go_wp2_with fail
    go_ret
    exact ⟨rfl, hbel.then (Below.one _ _)⟩
end Go.Proofs.YtfhgjangeicbjaaDoor
