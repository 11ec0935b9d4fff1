/-
  Three rows of the call's own, apart from one another. Over any program.
-/
import Derived.Test.YthmikefinibecaaButKit
namespace Go.Proofs.Ythmikefinibecaa
open Go Go.RowKit

structure Tri (R : Nat → Prop) (E1 : TypeId) (s1 : Nat) (v : Value) (n : Nat) (xs : List Value) (E2 : TypeId) (s2 : Nat) (m : Value) (k : Nat) (ys : List Value) (E3 : TypeId) (s3 : Nat) (q : Value) (j : Nat) (zs : List Value) (w : World) : Prop where
  a : Lie (fun i => R i ∨ m.ownBlock = some i ∨ q.ownBlock = some i) E1 s1 v n xs w
  b : Lie (fun i => R i ∨ q.ownBlock = some i ∨ v.ownBlock = some i) E2 s2 m k ys w
  c : Lie (fun i => R i ∨ v.ownBlock = some i ∨ m.ownBlock = some i) E3 s3 q j zs w
section
variable {R : Nat → Prop} {E1 E2 E3 : TypeId} {s1 s2 s3 n k j : Nat} {v m q : Value} {xs ys zs : List Value} {w w' : World}
theorem Tri.rot (h : Tri R E1 s1 v n xs E2 s2 m k ys E3 s3 q j zs w) : Tri R E2 s2 m k ys E3 s3 q j zs E1 s1 v n xs w := ⟨h.b, h.c, h.a⟩
theorem Tri.old (h : Tri R E1 s1 v n xs E2 s2 m k ys E3 s3 q j zs w) (hR : Old R w) : Old (fun i => R i ∨ m.ownBlock = some i ∨ q.ownBlock = some i) w := fun i hi => by
  rcases hi with h1 | h1 | h1
  · exact hR i h1
  · exact (h.b.1.lt i h1).2
  · exact (h.c.1.lt i h1).2
theorem Tri.append {v' : Value} {n' : Nat} {xs' : List Value} (h : Tri R E1 s1 v n xs E2 s2 m k ys E3 s3 q j zs w) (hown : Lie (fun i => R i ∨ m.ownBlock = some i ∨ q.ownBlock = some i) E1 s1 v' n' xs' w') (hst : Stays (fun i => R i ∨ m.ownBlock = some i ∨ q.ownBlock = some i) w w')
    (hat : v'.ownBlock = v.ownBlock ∨ ∃ g, v'.ownBlock = some g ∧ w.heap.size ≤ g) : Tri R E1 s1 v' n' xs' E2 s2 m k ys E3 s3 q j zs w' := by
  have key : ∀ i, v'.ownBlock = some i → i < w.heap.size → v.ownBlock = some i := by
    intro i hi hl
    rcases hat with h2 | ⟨g, h2, h3⟩
    · exact h2.symm.trans hi
    · rw [h2] at hi
      obtain rfl : g = i := by simpa using hi
      omega
  refine ⟨hown, (h.b.later fun i hi => hst.block i (.inr (.inl hi))).shift fun i hi hp => ?_, (h.c.later fun i hi => hst.block i (.inr (.inr hi))).shift fun i hi hp => ?_⟩
  · rcases hp with h1 | h1 | h1
    · exact h.b.2 i hi (.inl h1)
    · exact h.b.2 i hi (.inr (.inl h1))
    · exact h.b.2 i hi (.inr (.inr (key i h1 (h.b.1.lt _ hi).2)))
  · rcases hp with h1 | h1 | h1
    · exact h.c.2 i hi (.inl h1)
    · exact h.c.2 i hi (.inr (.inl (key i h1 (h.c.1.lt _ hi).2)))
    · exact h.c.2 i hi (.inr (.inr h1))
theorem Tri.below (h : Tri R E1 s1 v n xs E2 s2 m k ys E3 s3 q j zs w) (hb : Below w.heap.size w w') : Tri R E1 s1 v n xs E2 s2 m k ys E3 s3 q j zs w' := ⟨h.a.below hb, h.b.below hb, h.c.below hb⟩
theorem Tri.made (R : Nat → Prop) (E1 E2 E3 : TypeId) (s1 s2 s3 B : Nat) (w : World) (hB : w.heap.size = B) (ho : Old R w) :
    Tri R E1 s1 (.slice (some ⟨B, 0, none⟩) 0 0) 0 [] E2 s2 (.slice (some ⟨B + 1, 0, none⟩) 0 0) 0 [] E3 s3 (.slice (some ⟨B + 2, 0, none⟩) 0 0) 0 [] (((w.alloc (.cells #[] E1)).alloc (.cells #[] E2)).alloc (.cells #[] E3)) := by
  subst hB
  have e1 : (w.alloc (.cells #[] E1)).heap.size = w.heap.size + 1 := by simp
  have e2 : ((w.alloc (.cells #[] E1)).alloc (.cells #[] E2)).heap.size = w.heap.size + 2 := by simp
  have a := ((Lie.made R w E1 s1 ho).alloc (.cells #[] E2)).alloc (.cells #[] E3)
  have b := (Lie.made R (w.alloc (.cells #[] E1)) E2 s2 (fun i hi => by rw [e1]; have := ho i hi; omega)).alloc (.cells #[] E3)
  have c := Lie.made R ((w.alloc (.cells #[] E1)).alloc (.cells #[] E2)) E3 s3 (fun i hi => by rw [e2]; have := ho i hi; omega)
  rw [e1] at b
  rw [e2] at c
  refine ⟨a.shift fun i hi hp => ?_, b.shift fun i hi hp => ?_, c.shift fun i hi hp => ?_⟩ <;>
    (simp only [Value.ownBlock, Option.some.injEq] at hi hp; subst hi; rcases hp with h | h | h <;> first | omega | (have := ho _ h; omega))
end
end Go.Proofs.Ythmikefinibecaa
