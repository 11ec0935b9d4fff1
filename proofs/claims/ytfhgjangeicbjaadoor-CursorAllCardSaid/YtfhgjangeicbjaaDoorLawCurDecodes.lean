/-
  The walk of the law 'CursorDecodes'.
-/
import Derived.Test.YtfhgjangeicbjaaDoorCurEq
namespace Go.Proofs.YtfhgjangeicbjaaDoor
open Go Go.RowKit Go.Deep Go.ChangeShapes Go.WideShapes

theorem block_on {w w' : World} {b : Nat} {o x : Obj} (h : Below (w.alloc x).heap.size (w.alloc x) w') (hk : w.heap[b]? = some o) : w'.heap[b]? = some o :=
  block_kept h ((Lib.alloc_old w x b (Array.getElem?_eq_some_iff.1 hk).1).trans hk)

theorem right_zero : rightB ⟨⟨#[]⟩, 0, 0⟩ = true := by decide

set_option maxRecDepth 100000 in
set_option maxHeartbeats 2000000 in
theorem cursorDecodes_walk (s : ByteArray) (w : World) (_hs : s.size ≤ maxLen) (ht : Tab w) :
    Calls Tryd.prog 4 #[.string s] w fun e w' => e = .returned (.bool true) ∧ Below w.heap.size w w' := by
  clear _hs
  have Ht := Lib.hid ht
  clear ht
  by_cases hs : 4096 < s.size
  · go_enter Tryd.func4, Tryd.ntmps4
    go_wp2_with fail
    go_ret
    exact ⟨rfl, Below.refl _ _⟩
  have hz : s.size < 1099511627776 := by omega
  have g1 := rcur_guard
  go_enter Tryd.func4, Tryd.ntmps4
  go_wp2_with fail
  refine (decode_any s _ Ht.out hz).mono ?_
  rintro e w1 ⟨r, rfl, hr, hb1⟩
  have RD := Lib.hid (fun w => rdecode_to s r w hz hr)
  cases r with
  | none =>
    have E1 := Lib.hid (fun w ht => encode_ok ⟨⟨#[]⟩, 0, 0⟩ w ht right_zero)
    have hE := fun w => run_rcur_neq ⟨#[]⟩ 0 0 ⟨#[]⟩ 0 0 w
    rw [curEq_refl] at hE
    unfold curVal at E1
    unfold decVal at *
    generalize S (token ⟨⟨#[]⟩, 0, 0⟩) = K at *
    go_wp2_with fail
    refine (RD.out _).mono ?_
    rintro e w2 ⟨rfl, hb2⟩
    have hA1 := block_kept hb2 (heap_alloc_new w1 _)
    go_wp2_with fail
    have hb12 := (hb1.then (Below.one _ _)).then hb2
    have Ht2 := Lib.hid (fun o => (Ht.out.below hb12).below (Below.one w2 o))
    refine (decode_empty _ (Ht2.out _)).mono ?_
    rintro e w3 ⟨rfl, hb3⟩
    have hA2 := block_kept hb3 (heap_alloc_new w2 _)
    have hA3 := block_on hb3 hA1
    obtain ⟨p0, p1, p2⟩ := three_later hA2
    obtain ⟨q0, q1, q2⟩ := three_later hA3
    have Ht3 := Lib.hid (fun o => ((Ht2.out _).below hb3).below (Below.one w3 o))
    have hb13 := (hb12.then (Below.one _ _)).then hb3
    clear hA1 hA2 hA3 hr
    go_wp2_with fail
    refine (E1.out _ (Ht3.out _)).mono ?_
    rintro e w4 ⟨rfl, hb4⟩
    go_wp2_with fail
    go_ret
    exact ⟨rfl, hb13.then (hb4.allocl)⟩
  | some c =>
    have E1 := Lib.hid (fun w ht => encode_ok c w ht hr.1)
    have hK : S (token c) = s := by rw [← hr.2, S_data]
    rw [hK] at E1
    clear hK
    obtain ⟨q, t, i⟩ := c
    have hE := fun w => run_rcur_neq q t i q t i w
    rw [curEq_refl] at hE
    unfold decVal at *
    unfold curVal at *
    go_wp2_with fail
    refine (RD.out _).mono ?_
    rintro e w2 ⟨rfl, hb2⟩
    have hA1 := block_kept hb2 (heap_alloc_new w1 _)
    go_wp2_with fail
    have hb12 := (hb1.then (Below.one _ _)).then hb2
    have Ht2 := Lib.hid (fun o => (Ht.out.below hb12).below (Below.one w2 o))
    refine (decode_empty _ (Ht2.out _)).mono ?_
    rintro e w3 ⟨rfl, hb3⟩
    have hA2 := block_kept hb3 (heap_alloc_new w2 _)
    have hA3 := block_on hb3 hA1
    obtain ⟨p0, p1, p2⟩ := three_later hA2
    obtain ⟨q0, q1, q2⟩ := three_later hA3
    have Ht3 := Lib.hid (fun o => ((Ht2.out _).below hb3).below (Below.one w3 o))
    have hb13 := (hb12.then (Below.one _ _)).then hb3
    clear hA1 hA2 hA3 hr
    go_wp2_with fail
    refine (E1.out _ (Ht3.out _)).mono ?_
    rintro e w4 ⟨rfl, hb4⟩
    go_wp2_with fail
    go_ret
    exact ⟨rfl, hb13.then (hb4.allocl)⟩
end Go.Proofs.YtfhgjangeicbjaaDoor
