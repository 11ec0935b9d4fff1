/-
  Two rows of the call's own; a store into one. Over any program.
-/
import Derived.Test.YtmafdbdmmfpeeaaRDDec
namespace Go.Proofs.Ytmafdbdmmfpeeaa
open Go Go.RowKit

theorem Lie.store {R : Nat → Prop} {n size c g : Nat} {e : TypeId} {w : World} {xs : List Value} (h : Lie R e size (.slice (some ⟨g, 0, none⟩) n c) n xs w) {j : Nat} (u : Value) : Lie R e size (.slice (some ⟨g, 0, none⟩) n c) n (xs.set j u) (w.setCell ⟨g, j, none⟩ u) := by
  refine ⟨⟨by rw [List.length_set]; exact h.1.1, ?_⟩, h.2⟩
  rcases h.1.2 with ⟨h1, _⟩ | ⟨g', cap, cur, hv, hb, hg, hn, hm, hs, ht⟩
  · simp at h1
  · right
    simp only [Value.slice.injEq, Option.some.injEq, Addr.mk.injEq] at hv
    obtain ⟨⟨rfl, _, _⟩, _, rfl⟩ := hv
    refine ⟨g, c, cur.setIfInBounds j u, rfl, hb, ?_, hn, hm, by simp [hs], ?_⟩
    · simp [World.setCell, Array.getElem?_modify, hg]
    · rw [← ht]; simp [List.take_set]
theorem Lie.cell {R : Nat → Prop} {n size c g : Nat} {e : TypeId} {w : World} {xs : List Value} (h : Lie R e size (.slice (some ⟨g, 0, none⟩) n c) n xs w) (j : Nat) : w.frozen? ⟨g, j, none⟩ = false := by
  rcases h.1.2 with ⟨h1, _⟩ | ⟨g', cap, cur, hv, hb, hg, hn, hm, hs, ht⟩
  · simp at h1
  · simp only [Value.slice.injEq, Option.some.injEq, Addr.mk.injEq] at hv
    obtain ⟨⟨rfl, _, _⟩, _, rfl⟩ := hv
    exact Lib.frozen_of_heap hg j
theorem Lie.own {R : Nat → Prop} {n size c : Nat} {e : TypeId} {w : World} {A : Option Addr} {xs : List Value} (h : Lie R e size (.slice A n c) n xs w) (hn : 0 < n) : ∃ g, A = some ⟨g, 0, none⟩ ∧ n ≤ c ∧ c ≤ maxLen := by
  rcases h.1.2 with ⟨h1, h2⟩ | ⟨g', cap, cur, hv, hb, hg, hn, hm, hs, ht⟩
  · omega
  · simp only [Value.slice.injEq] at hv
    obtain ⟨rfl, _, rfl⟩ := hv
    exact ⟨g', rfl, hn, hm⟩

/-- two rows of the call's own, apart from one another and from the blocks of R -/
structure Duo2 (R : Nat → Prop) (E1 : TypeId) (s1 : Nat) (v : Value) (n : Nat) (xs : List Value) (E2 : TypeId) (s2 : Nat) (m : Value) (k : Nat) (ys : List Value) (w : World) : Prop where
  l : Lie (fun j => R j ∨ m.ownBlock = some j) E1 s1 v n xs w
  r : Lie (fun j => R j ∨ v.ownBlock = some j) E2 s2 m k ys w
section
variable {R : Nat → Prop} {E1 E2 : TypeId} {s1 s2 n k : Nat} {v m : Value} {xs ys : List Value} {w w' : World}
theorem Duo2.swap (h : Duo2 R E1 s1 v n xs E2 s2 m k ys w) : Duo2 R E2 s2 m k ys E1 s1 v n xs w := ⟨h.r, h.l⟩
theorem Duo2.old (h : Duo2 R E1 s1 v n xs E2 s2 m k ys w) (hR : Old R w) : Old (fun j => R j ∨ m.ownBlock = some j) w := fun j hj => by
  rcases hj with h1 | h1
  · exact hR j h1
  · exact (h.r.1.lt j h1).2
theorem Duo2.append {v' : Value} {n' : Nat} {xs' : List Value} (h : Duo2 R E1 s1 v n xs E2 s2 m k ys w) (hown : Lie (fun j => R j ∨ m.ownBlock = some j) E1 s1 v' n' xs' w') (hst : Stays (fun j => R j ∨ m.ownBlock = some j) w w')
    (hat : v'.ownBlock = v.ownBlock ∨ ∃ g, v'.ownBlock = some g ∧ w.heap.size ≤ g) : Duo2 R E1 s1 v' n' xs' E2 s2 m k ys w' := by
  refine ⟨hown, (h.r.later fun j hj => hst.block j (.inr hj)).shift fun j hj hp => ?_⟩
  rcases hp with h1 | h1
  · exact h.r.2 j hj (.inl h1)
  · rcases hat with h2 | ⟨g, h2, h3⟩
    · exact h.r.2 j hj (.inr (h2.symm.trans h1))
    · rw [h2] at h1
      obtain rfl : g = j := by simpa using h1
      have := (h.r.1.lt _ hj).2
      omega
theorem Duo2.below (h : Duo2 R E1 s1 v n xs E2 s2 m k ys w) (hb : Below w.heap.size w w') : Duo2 R E1 s1 v n xs E2 s2 m k ys w' := ⟨h.l.below hb, h.r.below hb⟩
theorem Duo2.shift {R' : Nat → Prop} (h : Duo2 R E1 s1 v n xs E2 s2 m k ys w) (hr : ∀ j, j < w.heap.size → R' j → R j) : Duo2 R' E1 s1 v n xs E2 s2 m k ys w :=
  ⟨h.l.shift fun j hj hp => h.l.2 j hj (hp.imp (hr j (h.l.1.lt j hj).2) id), h.r.shift fun j hj hp => h.r.2 j hj (hp.imp (hr j (h.r.1.lt j hj).2) id)⟩
theorem Duo2.nil (R : Nat → Prop) (E1 E2 : TypeId) (s1 s2 : Nat) (w : World) : Duo2 R E1 s1 (.slice none 0 0) 0 [] E2 s2 (.slice none 0 0) 0 [] w := ⟨Lie.nil _ _ _ _, Lie.nil _ _ _ _⟩
end
end Go.Proofs.Ytmafdbdmmfpeeaa
