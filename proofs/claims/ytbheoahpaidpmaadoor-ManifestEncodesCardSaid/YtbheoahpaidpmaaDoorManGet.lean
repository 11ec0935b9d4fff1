/-
  The closure get of manifest.Decode: one number of the string, or none from now on.
-/
import Derived.Test.YtbheoahpaidpmaaDoorManEncP
import Derived.Test.YtbheoahpaidpmaaDoorManBld
import Derived.Test.YtbheoahpaidpmaaDoorPackA
import Derived.Lib.BufferMore
namespace Go.Proofs.YtbheoahpaidpmaaDoor
open Go Go.RowKit

/-- a get: the number, the place behind it, whether all is well -/
def gt (l : List UInt8) (p : Nat) (o : Bool) : Nat × Nat × Bool :=
  if o = true ∧ (getAt l p).2.2 = 0 ∧ (getAt l p).1 ≤ 1099511627776 then ((getAt l p).1, (getAt l p).2.1.toNat, true) else (0, p, false)
theorem err_no {e : Nat} (h : e = 0) : ((e : Int) == 0) = true ∧ ((e : Int) != 0) = false := by subst h; exact ⟨rfl, rfl⟩
theorem err_yes {e : Nat} (h : e ≠ 0) : ((e : Int) == 0) = false ∧ ((e : Int) != 0) = true := by
  have : ((e : Int) == 0) = false := beq_eq_false_iff_ne.2 (by omega)
  exact ⟨this, by rw [bne, this]; rfl⟩
theorem gt_bad (l : List UInt8) (p : Nat) : gt l p false = (0, p, false) := by simp [gt]
theorem gt_small (l : List UInt8) (p : Nat) (o : Bool) : (gt l p o).1 ≤ 1099511627776 := by
  unfold gt
  split
  · rename_i h; exact h.2.2
  · exact Nat.zero_le _
theorem gt_in {l : List UInt8} {p : Nat} (o : Bool) (h : p ≤ l.length) : (gt l p o).2.1 ≤ l.length := by
  unfold gt
  split
  · have := getAt_next l p; simp only; omega
  · exact h

/-- all but the blocks P and O is as it was -/
structure But2 (P O : Nat) (w w' : World) : Prop where
  os : w'.os = w.os
  tape : w'.tape = w.tape
  output : w'.output = w.output
  size : w'.heap.size = w.heap.size
  block : ∀ k, k ≠ P → k ≠ O → w'.heap[k]? = w.heap[k]?
theorem But2.refl (P O : Nat) (w : World) : But2 P O w w := ⟨rfl, rfl, rfl, rfl, fun _ _ _ => rfl⟩
theorem But2.trans {P O : Nat} {a c d : World} (h : But2 P O a c) (k : But2 P O c d) : But2 P O a d :=
  ⟨k.os.trans h.os, k.tape.trans h.tape, k.output.trans h.output, k.size.trans h.size, fun i h1 h2 => (k.block i h1 h2).trans (h.block i h1 h2)⟩
theorem but2_p (P O j : Nat) (w : World) (v : Value) : But2 P O w (w.setCell ⟨P, j, none⟩ v) :=
  ⟨rfl, rfl, rfl, by simp [World.setCell], fun k hk _ => Below.heap_setCell _ _ _ _ hk⟩
theorem but2_o (P O j : Nat) (w : World) (v : Value) : But2 P O w (w.setCell ⟨O, j, none⟩ v) :=
  ⟨rfl, rfl, rfl, by simp [World.setCell], fun k _ hk => Below.heap_setCell _ _ _ _ hk⟩
theorem But2.below {P O B : Nat} {w w' : World} (h : But2 P O w w') (hp : B ≤ P) (ho : B ≤ O) : Below B w w' := ⟨h.os, h.tape, h.output, Nat.le_of_eq h.size.symm, fun k hk => h.block k (by omega) (by omega)⟩

/-- the boxes of the string, the place, the word whether all is well -/
structure GetBox (T P O : Nat) (x : ByteArray) (p : Nat) (o : Bool) (w : World) : Prop where
  hs : w.heap[T]? = some (.cells #[.string x] 9 (0, 0))
  hp : w.heap[P]? = some (.cells #[.int .i64 p] 3 (0, 0))
  ho : w.heap[O]? = some (.cells #[.bool o] 4 (0, 0))
theorem GetBox.below {T P O B p : Nat} {x : ByteArray} {o : Bool} {w w' : World} (h : GetBox T P O x p o w) (hb : Below B w w') (h1 : T < B) (h2 : P < B) (h3 : O < B) : GetBox T P O x p o w' :=
  ⟨(hb.block _ h1).trans h.hs, (hb.block _ h2).trans h.hp, (hb.block _ h3).trans h.ho⟩
theorem heap_one {w : World} {b : Nat} {v u : Value} {T : TypeId} (h : w.heap[b]? = some (.cells #[v] T (0, 0))) : (w.setCell ⟨b, 0, none⟩ u).heap[b]? = some (.cells #[u] T (0, 0)) := by
  exact (Lib.heap_setCell_same h u).trans rfl

set_option linter.unusedSimpArgs false in
set_option maxRecDepth 100000 in
set_option maxHeartbeats 2000000 in
theorem get_any (T P O : Nat) (x : ByteArray) (p : Nat) (o : Bool) (w : World) (hx : x.size < 1099511627776) (hT : T ≠ P ∧ T ≠ O ∧ P ≠ O) (h : GetBox T P O x p o w) :
    Calls Tryd.prog 48 #[.pointer (some ⟨T, 0, none⟩), .pointer (some ⟨P, 0, none⟩), .pointer (some ⟨O, 0, none⟩)] w fun e w' =>
      e = .returned (.int .i64 ((gt x.data.toList p o).1 : Nat)) ∧ GetBox T P O x (gt x.data.toList p o).2.1 (gt x.data.toList p o).2.2 w' ∧ But2 P O w w' := by
  have HX := Lib.hid hx
  have HT := Lib.hid hT
  have H := Lib.hid h
  have s0 : w.cell? ⟨T, 0, none⟩ = some (.string x) := by rw [Lib.cell_of_heap h.hs]; rfl
  have s1 : w.cell? ⟨P, 0, none⟩ = some (.int .i64 p) := by rw [Lib.cell_of_heap h.hp]; rfl
  have s2 : w.cell? ⟨O, 0, none⟩ = some (.bool o) := by rw [Lib.cell_of_heap h.ho]; rfl
  have f1 : w.frozen? ⟨P, 0, none⟩ = false := Lib.frozen_of_heap h.hp 0
  have f2 : w.frozen? ⟨O, 0, none⟩ = false := Lib.frozen_of_heap h.ho 0
  obtain ⟨m, hm⟩ : ∃ m, (getAt x.data.toList p).1 = m := ⟨_, rfl⟩
  obtain ⟨nx, hnx⟩ : ∃ m, (getAt x.data.toList p).2.1 = m := ⟨_, rfl⟩
  obtain ⟨er, her⟩ : ∃ m, (getAt x.data.toList p).2.2 = m := ⟨_, rfl⟩
  have hnn := getAt_next x.data.toList p
  have HU := getUint_any x p w hx
  rw [hm, hnx, her] at HU
  rw [hnx] at hnn
  obtain ⟨y, rfl⟩ : ∃ y : Nat, nx = y := ⟨nx.toNat, by omega⟩
  have HM := Lib.hid hm
  have HN := Lib.hid hnx
  have HE := Lib.hid her
  have HU := Lib.hid HU
  clear hm hnx her hx hT h hnn
  go_enter Tryd.func48, Tryd.ntmps48
  go_wp2_with fail
  refine HU.out.mono ?_
  rintro e1 w1 ⟨rfl, rfl⟩
  cases o with
  | false =>
    go_wp2_with fail
    go_ret
    refine ⟨?_, ?_, but2_o ..⟩ <;> rw [gt_bad]
    · rfl
    · exact ⟨by rw [Below.heap_setCell _ _ _ _ HT.out.2.1]; exact H.out.hs, by rw [Below.heap_setCell _ _ _ _ HT.out.2.2]; exact H.out.hp, heap_one H.out.ho⟩
  | true =>
    by_cases hg : er = 0 ∧ m ≤ 1099511627776
    · have hgt : gt x.data.toList p true = (m, y, true) := by
        unfold gt
        rw [HM.out, HN.out, HE.out, if_pos ⟨rfl, hg⟩]
        rfl
      have HG := Lib.hid hgt
      have t1 := (err_no hg.1).2
      have t2 : decide ((1099511627776 : Int) < (m : Int)) = false := decide_eq_false (by omega)
      have t3 : IntKind.i64.wrap (m : Int) = (m : Int) := IntWalk.i64_in _ (by omega)
      clear hg hgt
      go_wp2_with fail
      go_ret
      refine ⟨?_, ?_, but2_p ..⟩ <;> rw [HG.out]
      · rfl
      exact ⟨by rw [Below.heap_setCell _ _ _ _ HT.out.1]; exact H.out.hs, heap_one H.out.hp, by rw [Below.heap_setCell _ _ _ _ HT.out.2.2.symm]; exact H.out.ho⟩
    · have hgt : gt x.data.toList p true = (0, p, false) := by
        unfold gt
        rw [HM.out, HN.out, HE.out, if_neg fun h => hg h.2]
      have HG := Lib.hid hgt
      clear hgt
      by_cases he : er = 0
      · have t1 := (err_no he).2
        have t2 : decide ((1099511627776 : Int) < (m : Int)) = true := decide_eq_true (by omega)
        clear hg he
        go_wp2_with fail
        go_ret
        refine ⟨?_, ?_, but2_o ..⟩ <;> rw [HG.out]
        · rfl
        · exact ⟨by rw [Below.heap_setCell _ _ _ _ HT.out.2.1]; exact H.out.hs, by rw [Below.heap_setCell _ _ _ _ HT.out.2.2]; exact H.out.hp, heap_one H.out.ho⟩
      · have t1 := (err_yes he).2
        clear hg he
        go_wp2_with fail
        go_ret
        refine ⟨?_, ?_, but2_o ..⟩ <;> rw [HG.out]
        · rfl
        · exact ⟨by rw [Below.heap_setCell _ _ _ _ HT.out.2.1]; exact H.out.hs, by rw [Below.heap_setCell _ _ _ _ HT.out.2.2]; exact H.out.hp, heap_one H.out.ho⟩
end Go.Proofs.YtbheoahpaidpmaaDoor
