/-
  Plain: what the law 'DeltaMoved' keeps and moves; two rows side by side.
-/
import Derived.Test.YtjendmojkdkipaaDRest
namespace Go.Proofs.Ytjendmojkdkipaa
open Go Go.RowKit

/-- the low bits of a time -/
def andT (x : Int) : Int := bits .and .i64 x 1073741823
theorem andT_in (x : Int) : 0 ≤ andT x ∧ andT x ≤ 1073741823 := by
  have h1 : (BitVec.ofInt 64 (1073741823 : Int)).toNat = 1073741823 := by decide
  have h2 : (BitVec.ofInt 64 x &&& BitVec.ofInt 64 (1073741823 : Int)).toNat ≤ 1073741823 := by
    rw [BitVec.toNat_and, h1]
    exact Nat.and_le_right
  have h3 : andT x = IntKind.i64.wrap (((BitVec.ofInt 64 x &&& BitVec.ofInt 64 (1073741823 : Int)).toNat : Nat) : Int) := rfl
  rw [h3, IntKind.wrap_i64]
  omega
/-- the time of the last one -/
def lastT (ys : List Sample) : Int := (sAt ys (ys.length - 1)).T
/-- one more, if it is behind the last -/
def keepS (ys : List Sample) (x : Sample) : List Sample := if ys.length = 0 ∨ lastT ys < andT x.T then ys ++ [⟨andT x.T, x.V⟩] else ys
def keepL (xs : List Sample) : List Sample := xs.foldl keepS []
theorem keepL_next {xs : List Sample} {j : Nat} (h : j < xs.length) : keepL (xs.take (j + 1)) = keepS (keepL (xs.take j)) xs[j] := by
  unfold keepL
  rw [List.take_succ_eq_append_getElem h, List.foldl_append]
  rfl
/-- all values more by one number -/
def movL (b : Int) (ys : List Sample) : List Sample := ys.map fun y => ⟨y.T, wrapV (y.V + b)⟩
theorem movL_snoc (b : Int) (ys : List Sample) (y : Sample) : movL b (ys ++ [y]) = movL b ys ++ [⟨y.T, wrapV (y.V + b)⟩] := by simp [movL]
theorem movL_length (b : Int) (ys : List Sample) : (movL b ys).length = ys.length := by simp [movL]
/-- what is kept is right -/
def Kept (ys : List Sample) : Prop := Fine ys ∧ ∀ x ∈ ys, 0 ≤ x.T ∧ x.T ≤ 1073741823 ∧ In64 x.V
theorem kept_snoc {ys : List Sample} {y : Sample} (h : Kept ys) (hT : 0 ≤ y.T ∧ y.T ≤ 1073741823) (hV : In64 y.V) (hl : ys.length = 0 ∨ lastT ys < y.T) : Kept (ys ++ [y]) := by
  refine ⟨⟨fun x hx => ?_, fun i hi => ?_⟩, fun x hx => ?_⟩
  · rcases List.mem_append.1 hx with h1 | h1
    · exact h.1.1 x h1
    · rw [List.mem_singleton.1 h1]; omega
  · rw [List.length_append, List.length_singleton] at hi
    by_cases h1 : i + 1 < ys.length
    · rw [List.getElem_append_left h1, List.getElem_append_left (by omega)]
      exact h.1.2 i h1
    · have e : i + 1 = ys.length := by omega
      rcases hl with hl | hl
      · omega
      · unfold lastT at hl
        rw [show ys.length - 1 = i by omega, sAt_get (show i < ys.length by omega)] at hl
        rw [List.getElem_append_left (show i < ys.length by omega), List.getElem_append_right (by omega)]
        simpa using hl
  · rcases List.mem_append.1 hx with h1 | h1
    · exact h.2 x h1
    · rw [List.mem_singleton.1 h1]; exact ⟨hT.1, hT.2, hV⟩
theorem keepS_kept {ys : List Sample} {x : Sample} (h : Kept ys) (hV : In64 x.V) : Kept (keepS ys x) := by
  unfold keepS
  split
  · rename_i hc
    exact kept_snoc h (andT_in _) hV hc
  · exact h
theorem movL_fine {b : Int} {ys : List Sample} (h : Kept ys) : (Fine ys ∧ ∀ x ∈ ys, Sample.ok x) ∧ Fine (movL b ys) ∧ ∀ x ∈ movL b ys, Sample.ok x := by
  refine ⟨⟨h.1, fun x hx => ?_⟩, ⟨fun x hx => ?_, fun i hi => ?_⟩, fun x hx => ?_⟩
  · have := h.2 x hx
    exact ⟨by unfold In64; omega, this.2.2⟩
  · obtain ⟨y, hy, rfl⟩ := List.mem_map.1 hx
    exact h.1.1 y hy
  · rw [movL_length] at hi
    have := h.1.2 i hi
    simpa [movL] using this
  · obtain ⟨y, hy, rfl⟩ := List.mem_map.1 hx
    have := h.2 y hy
    exact ⟨by unfold In64; simp only; omega, wrapV_in _⟩
theorem movL_at {b : Int} {ys : List Sample} {i : Nat} (h : i < ys.length) : sAt (movL b ys) i = ⟨(sAt ys i).T, wrapV ((sAt ys i).V + b)⟩ := by
  rw [sAt_get (by rw [movL_length]; exact h), sAt_get h]
  simp [movL]
theorem wrapV_sub (x y b : Int) : wrapV (wrapV (x + b) - wrapV (y + b)) = wrapV (x - y) := by
  unfold wrapV
  simp only [IntKind.wrap_i64]
  omega
theorem movL_nums (b : Int) (ys : List Sample) : nums (movL b ys) = nums ys := by
  unfold nums
  rw [movL_length]
  refine List.map_congr_left fun i hi => ?_
  have hi' : i + 1 < ys.length := by have := List.mem_range.1 hi; omega
  have hd : ∀ j, j + 1 < ys.length → dist (movL b ys) j = dist ys j := fun j hj => by unfold dist; rw [movL_at hj, movL_at (show j < ys.length by omega)]
  have ha : ahead (movL b ys) i = ahead ys i := by
    cases i with
    | zero => rfl
    | succ i => exact hd i (by omega)
  unfold numAt
  rw [hd i hi', ha, movL_at hi', movL_at (show i < ys.length by omega)]
  simp only
  rw [wrapV_sub]
theorem mov_len {b : Int} {ys : List Sample} (h : Kept ys) : (encB ys).length ≤ (encB (movL b ys)).length + 9 ∧ (encB (movL b ys)).length ≤ (encB ys).length + 9 := by
  have hb : bodyB (movL b ys) = bodyB ys := by unfold bodyB bestT bestV; rw [movL_nums]
  unfold encB
  rw [movL_length, hb]
  by_cases h0 : ys.length = 0
  · rw [if_pos h0, if_pos h0]; omega
  · have hp : 0 < ys.length := by omega
    obtain ⟨⟨_, h1⟩, _, h2⟩ := movL_fine (b := b) h
    have k1 := (h1 _ (List.getElem_mem hp)).2
    have k2 := (h2 _ (List.getElem_mem (show 0 < (movL b ys).length by rw [movL_length]; exact hp))).2
    rw [← sAt_get] at k1 k2
    have l1 := uint_len_ten (foldN_lt k1.1 k1.2)
    have l2 := uint_len_ten (foldN_lt k2.1 k2.2)
    have p1 := uint_pos (foldN (sAt ys 0).V)
    have p2 := uint_pos (foldN (sAt (movL b ys) 0).V)
    have hT : (sAt (movL b ys) 0).T = (sAt ys 0).T := by rw [movL_at hp]
    rw [if_neg h0, if_neg h0]
    unfold firstB
    rw [hT]
    simp only [List.length_append]
    omega

/-- two rows of the call's own, side by side -/
structure Pairs (B : Nat) (v m : Value) (xs ys : List Sample) (w w' : World) : Prop where
  l : Lie (fun k => k < B ∨ m.ownBlock = some k) 25 2 v xs.length (xs.flatMap sampleCells) w'
  r : Lie (fun k => k < B ∨ v.ownBlock = some k) 25 2 m ys.length (ys.flatMap sampleCells) w'
  b : Below B w w'
theorem Pairs.swap {B : Nat} {v m : Value} {xs ys : List Sample} {w w' : World} (h : Pairs B v m xs ys w w') : Pairs B m v ys xs w w' := ⟨h.r, h.l, h.b⟩
theorem Pairs.old {B : Nat} {v m : Value} {xs ys : List Sample} {w w' : World} (h : Pairs B v m xs ys w w') (hB : B ≤ w.heap.size) : Old (fun k => k < B ∨ m.ownBlock = some k) w' := fun k hk => by
  rcases hk with h1 | h1
  · have := h.b.size; omega
  · exact (h.r.1.lt k h1).2
theorem Pairs.append {B : Nat} {v m v' : Value} {xs ys : List Sample} {x : Sample} {w w1 w2 : World} (h : Pairs B v m xs ys w w1)
    (hown : Lie (fun k => k < B ∨ m.ownBlock = some k) 25 2 v' (xs.length + 1) (xs.flatMap sampleCells ++ [.int .i64 x.T, .int .i64 x.V]) w2) (hst : Stays (fun k => k < B ∨ m.ownBlock = some k) w1 w2)
    (hat : v'.ownBlock = v.ownBlock ∨ ∃ g, v'.ownBlock = some g ∧ w1.heap.size ≤ g) : Pairs B v' m (xs ++ [x]) ys w w2 := by
  refine ⟨by rw [List.length_append, cells_snoc]; exact hown, (h.r.later fun k hk => hst.block k (.inr hk)).shift fun k hk hp => ?_, h.b.trans (hst.below fun k hk => .inl hk)⟩
  rcases hp with h1 | h1
  · exact h.r.2 k hk (.inl h1)
  · rcases hat with h2 | ⟨g, h2, h3⟩
    · exact h.r.2 k hk (.inr (h2.symm.trans h1))
    · rw [h2] at h1
      obtain rfl : g = k := by simpa using h1
      have := (h.r.1.lt _ hk).2
      omega
theorem pairs_made (w : World) : Pairs w.heap.size (.slice (some ⟨w.heap.size, 0, none⟩) 0 0) (.slice (some ⟨w.heap.size + 1, 0, none⟩) 0 0) [] [] w ((w.alloc (.cells #[] 25)).alloc (.cells #[] 25)) := by
  have h1 : Lie (fun k => k < w.heap.size) 25 2 (.slice (some ⟨w.heap.size, 0, none⟩) 0 0) 0 [] (w.alloc (.cells #[] 25)) := Lie.made _ w _ _ fun _ h => h
  have h2 : Lie (fun k => k < w.heap.size + 1) 25 2 (.slice (some ⟨(w.alloc (.cells #[] 25)).heap.size, 0, none⟩) 0 0) 0 [] ((w.alloc (.cells #[] 25)).alloc (.cells #[] 25)) :=
    Lie.made _ _ _ _ fun k h => by simpa using h
  simp only [World.size_alloc] at h2
  refine ⟨(h1.alloc _).shift fun k hk hp => ?_, h2.shift fun k hk hp => ?_, below_two w _ _⟩
  · have hk' : w.heap.size = k := by simpa [Value.ownBlock] using hk
    rcases hp with h | h
    · omega
    · have : w.heap.size + 1 = k := by simpa [Value.ownBlock] using h
      omega
  · have hk' : w.heap.size + 1 = k := by simpa [Value.ownBlock] using hk
    rcases hp with h | h
    · omega
    · have : w.heap.size = k := by simpa [Value.ownBlock] using h
      omega
end Go.Proofs.Ytjendmojkdkipaa
