/-
  A call that changes one block alone. Over any program.
-/
import Derived.Test.YthmikefinibecaaPackB
import Derived.Lib.Builder
namespace Go.Proofs.Ythmikefinibecaa
open Go Go.RowKit

/-- all but the block b is as it was -/
structure But (b : Nat) (w w' : World) : Prop where
  os : w'.os = w.os
  tape : w'.tape = w.tape
  output : w'.output = w.output
  size : w'.heap.size = w.heap.size
  block : ∀ k, k ≠ b → w'.heap[k]? = w.heap[k]?
theorem But.refl (b : Nat) (w : World) : But b w w := ⟨rfl, rfl, rfl, rfl, fun _ _ => rfl⟩
theorem But.trans {b : Nat} {a c d : World} (h : But b a c) (k : But b c d) : But b a d :=
  ⟨k.os.trans h.os, k.tape.trans h.tape, k.output.trans h.output, k.size.trans h.size, fun i hi => (k.block i hi).trans (h.block i hi)⟩
theorem but_set (b j : Nat) (w : World) (v : Value) : But b w (w.setCell ⟨b, j, none⟩ v) :=
  ⟨rfl, rfl, rfl, by simp [World.setCell], fun k hk => Below.heap_setCell _ _ _ _ hk⟩
theorem But.below {b B : Nat} {w w' : World} (h : But b w w') (hb : B ≤ b) : Below B w w' := ⟨h.os, h.tape, h.output, Nat.le_of_eq h.size.symm, fun k hk => h.block k (by omega)⟩
theorem but_lie {R : Nat → Prop} {n size c : Nat} {e : TypeId} {w w' : World} {v : Value} {xs : List Value} (h : Lie R e size v n xs w) (hb : But c w w') (hc : R c) : Lie R e size v n xs w' :=
  h.later fun g hg => hb.block g fun e => h.2 g hg (e ▸ hc)

theorem err_no {e : Nat} (h : e = 0) : ((e : Int) == 0) = true ∧ ((e : Int) != 0) = false := by subst h; exact ⟨rfl, rfl⟩
theorem err_yes {e : Nat} (h : e ≠ 0) : ((e : Int) == 0) = false ∧ ((e : Int) != 0) = true := by
  have : ((e : Int) == 0) = false := beq_eq_false_iff_ne.2 (by omega)
  exact ⟨this, by rw [bne, this]; rfl⟩
theorem Lie.alloc {R : Nat → Prop} {n size : Nat} {e : TypeId} {w : World} {v : Value} {xs : List Value} (h : Lie R e size v n xs w) (o : Obj) : Lie R e size v n xs (w.alloc o) := h.below (Below.one w o)
theorem Lie.drew {R : Nat → Prop} {n size : Nat} {e : TypeId} {w : World} {v : Value} {xs : List Value} (h : Lie R e size v n xs w) : Lie R e size v n xs w.drew := h.below (Below.refl _ _).drew
def lenOf : Value → Nat
  | .slice _ n _ => n
  | _ => 0
/-- a row of the call's own as a slice that is read -/
theorem own_slice {w : World} {B n : Nat} {e : TypeId} {size : Nat} {v : Value} {xs : List Value} (h : w.ownsRow B e size v n xs) : ∃ A c, v = .slice A n c ∧ Rd w size A n xs ∧ n ≤ c ∧ c ≤ maxLen := by
  have hrd := Rd.of_own h
  rcases h.2 with ⟨rfl, rfl⟩ | ⟨g, cap, cur, rfl, hb, hg, hn, hm, hs, ht⟩
  · obtain ⟨A, c, e, hr⟩ := hrd
    cases e
    exact ⟨none, 0, rfl, hr, by omega, by unfold maxLen; omega⟩
  · obtain ⟨A, c, e, hr⟩ := hrd
    cases e
    exact ⟨_, cap, rfl, hr, hn, hm⟩
theorem eqS {a : List UInt8} {s : ByteArray} (h : a = s.data.toList) : ((S a).toList == s.toList) = true := by
  rw [Lib.toList_data, Lib.toList_data, S_toList, h]; simp
theorem neS {a : List UInt8} {s : ByteArray} (h : a ≠ s.data.toList) : ((S a).toList == s.toList) = false := by
  rw [Lib.toList_data, Lib.toList_data, S_toList, beq_eq_false_iff_ne]; exact h
theorem extract_list (s : ByteArray) (a : Nat) (h : a ≤ s.size) : (s.extract a s.size).data.toList = s.data.toList.drop a := by
  rw [Lib.extract_data]
  have hl : s.data.toList.length = s.size := (Lib.size_eq s).symm
  rw [List.take_of_length_le]
  rw [List.length_drop]
  omega

/-- two rows of the call's own, apart from one another and from the blocks of R -/
structure Duo2 (R : Nat → Prop) (E1 : TypeId) (s1 : Nat) (v : Value) (n : Nat) (xs : List Value) (E2 : TypeId) (s2 : Nat) (m : Value) (k : Nat) (ys : List Value) (w : World) : Prop where
  l : Lie (fun j => R j ∨ m.ownBlock = some j) E1 s1 v n xs w
  r : Lie (fun j => R j ∨ v.ownBlock = some j) E2 s2 m k ys w
section
variable {R : Nat → Prop} {E1 E2 : TypeId} {s1 s2 n k : Nat} {v m : Value} {xs ys : List Value} {w w' : World}
theorem Duo2.swap (h : Duo2 R E1 s1 v n xs E2 s2 m k ys w) : Duo2 R E2 s2 m k ys E1 s1 v n xs w := ⟨h.r, h.l⟩
theorem Duo2.old (h : Duo2 R E1 s1 v n xs E2 s2 m k ys w) (hR : Old R w) : Old (fun j => R j ∨ m.ownBlock = some j) w := fun j hj => by
  rcases hj with h1 | h1
  · exact hR j h1
  · exact (h.r.1.lt j h1).2
theorem Duo2.append {v' : Value} {n' : Nat} {xs' : List Value} (h : Duo2 R E1 s1 v n xs E2 s2 m k ys w) (hown : Lie (fun j => R j ∨ m.ownBlock = some j) E1 s1 v' n' xs' w') (hst : Stays (fun j => R j ∨ m.ownBlock = some j) w w')
    (hat : v'.ownBlock = v.ownBlock ∨ ∃ g, v'.ownBlock = some g ∧ w.heap.size ≤ g) : Duo2 R E1 s1 v' n' xs' E2 s2 m k ys w' := by
  refine ⟨hown, (h.r.later fun j hj => hst.block j (.inr hj)).shift fun j hj hp => ?_⟩
  rcases hp with h1 | h1
  · exact h.r.2 j hj (.inl h1)
  · rcases hat with h2 | ⟨g, h2, h3⟩
    · exact h.r.2 j hj (.inr (h2.symm.trans h1))
    · rw [h2] at h1
      obtain rfl : g = j := by simpa using h1
      have := (h.r.1.lt _ hj).2
      omega
theorem Duo2.but {c : Nat} (h : Duo2 R E1 s1 v n xs E2 s2 m k ys w) (hb : But c w w') (hc : R c) : Duo2 R E1 s1 v n xs E2 s2 m k ys w' := ⟨but_lie h.l hb (.inl hc), but_lie h.r hb (.inl hc)⟩
theorem Duo2.below (h : Duo2 R E1 s1 v n xs E2 s2 m k ys w) (hb : Below w.heap.size w w') : Duo2 R E1 s1 v n xs E2 s2 m k ys w' := ⟨h.l.below hb, h.r.below hb⟩
theorem Duo2.shift {R' : Nat → Prop} (h : Duo2 R E1 s1 v n xs E2 s2 m k ys w) (hr : ∀ j, j < w.heap.size → R' j → R j) : Duo2 R' E1 s1 v n xs E2 s2 m k ys w :=
  ⟨h.l.shift fun j hj hp => h.l.2 j hj (hp.imp (hr j (h.l.1.lt j hj).2) id), h.r.shift fun j hj hp => h.r.2 j hj (hp.imp (hr j (h.r.1.lt j hj).2) id)⟩
theorem Duo2.nil (R : Nat → Prop) (E1 E2 : TypeId) (s1 s2 : Nat) (w : World) : Duo2 R E1 s1 (.slice none 0 0) 0 [] E2 s2 (.slice none 0 0) 0 [] w := ⟨Lie.nil _ _ _ _, Lie.nil _ _ _ _⟩
end
end Go.Proofs.Ythmikefinibecaa
