/-
  Plain Lean: samples read of bytes; what is encoded is read.
-/
import Derived.Test.YtmafdbdmmfpeeaaDEnc1
import Derived.Test.YtmafdbdmmfpeeaaDeltaLen
import Derived.Test.YtmafdbdmmfpeeaaPackA
namespace Go.Proofs.Ytmafdbdmmfpeeaa
open Go Go.RowKit

/-- one sample more: where the bits go on, the distance, the sample -/
def stepD (L : List Bool) (a b : Int) (j : Nat) (d t v : Int) : Option (Nat × Int × Int × Int) :=
  if (riceZ (L.drop j) a).2.2 = 0 ∧ (riceZ (L.drop (j + (riceZ (L.drop j) a).2.1)) b).2.2 = 0 ∧ unfoldN (riceZ (L.drop j) a).1 ≤ 1099511627776 ∧ -1099511627776 ≤ unfoldN (riceZ (L.drop j) a).1 ∧
      1 ≤ d + unfoldN (riceZ (L.drop j) a).1 ∧ d + unfoldN (riceZ (L.drop j) a).1 ≤ 1099511627776 ∧ t + (d + unfoldN (riceZ (L.drop j) a).1) < 1099511627776 then
    some (j + (riceZ (L.drop j) a).2.1 + (riceZ (L.drop (j + (riceZ (L.drop j) a).2.1)) b).2.1, d + unfoldN (riceZ (L.drop j) a).1, t + (d + unfoldN (riceZ (L.drop j) a).1), wrapV (v + unfoldN (riceZ (L.drop (j + (riceZ (L.drop j) a).2.1)) b).1))
  else none
/-- samples behind one -/
def restD (L : List Bool) (a b : Int) : Nat → Nat → Int → Int → Int → Option (List Sample × Nat)
  | 0, j, _, _, _ => some ([], j)
  | m + 1, j, d, t, v => match stepD L a b j d t v with
    | none => none
    | some x => (restD L a b m x.1 x.2.1 x.2.2.1 x.2.2.2).map fun r => (⟨x.2.2.1, x.2.2.2⟩ :: r.1, r.2)

def nth (l : List UInt8) (i : Nat) : Nat := (l.getD i 0).toNat
/-- the samples of bytes, and is nothing left? -/
def readP (l : List UInt8) : Option (List Sample × Bool) :=
  if (getAt l 0).2.2 ≠ 0 ∨ 5000 < (getAt l 0).1 then none
  else if (getAt l 0).1 = 0 then some ([], decide ((getAt l 0).2.1 = l.length))
  else if (getAt l (getAt l 0).2.1).2.2 ≠ 0 ∨ 1099511627776 ≤ (getAt l (getAt l 0).2.1).1 then none
  else if (getAt l (getAt l (getAt l 0).2.1).2.1).2.2 ≠ 0 then none
  else if (getAt l 0).1 = 1 then some ([⟨((getAt l (getAt l 0).2.1).1 : Int), unfoldN (getAt l (getAt l (getAt l 0).2.1).2.1).1⟩], decide ((getAt l (getAt l (getAt l 0).2.1).2.1).2.1 = l.length))
  else if l.length < (getAt l (getAt l (getAt l 0).2.1).2.1).2.1.toNat + 2 then none
  else match restD (bitsOf (l.drop ((getAt l (getAt l (getAt l 0).2.1).2.1).2.1.toNat + 2))) (nth l (getAt l (getAt l (getAt l 0).2.1).2.1).2.1.toNat) (nth l ((getAt l (getAt l (getAt l 0).2.1).2.1).2.1.toNat + 1))
        ((getAt l 0).1 - 1) 0 0 ((getAt l (getAt l 0).2.1).1 : Int) (unfoldN (getAt l (getAt l (getAt l 0).2.1).2.1).1) with
    | none => none
    | some r => some (⟨((getAt l (getAt l 0).2.1).1 : Int), unfoldN (getAt l (getAt l (getAt l 0).2.1).2.1).1⟩ :: r.1, decide (endE ((bitsOf (l.drop ((getAt l (getAt l (getAt l 0).2.1).2.1).2.1.toNat + 2))).drop r.2) = 0))

/-! what is read may be encoded -/
theorem step_ok {L : List Bool} {a b : Int} {j : Nat} {d t v : Int} {x : Nat × Int × Int × Int} (h : stepD L a b j d t v = some x) : t < x.2.2.1 ∧ x.2.2.1 < 1099511627776 ∧ In64 x.2.2.2 ∧ 1 ≤ x.2.1 ∧ x.2.1 ≤ 1099511627776 := by
  unfold stepD at h
  split at h
  · rename_i hc
    obtain rfl := Option.some.inj h
    refine ⟨?_, hc.2.2.2.2.2.2, wrapV_in _, hc.2.2.2.2.1, hc.2.2.2.2.2.1⟩
    simp only
    omega
  · cases h
/-- rising times, below the greatest -/
def Rise : Int → List Sample → Prop
  | _, [] => True
  | t, x :: l => t < x.T ∧ x.T < 1099511627776 ∧ In64 x.V ∧ Rise x.T l
theorem rest_ok {L : List Bool} {a b : Int} : ∀ (m j : Nat) (d t v : Int) (r : List Sample × Nat), restD L a b m j d t v = some r → Rise t r.1 ∧ r.1.length = m := by
  intro m
  induction m with
  | zero => intro j d t v r h; simp only [restD, Option.some.injEq] at h; subst h; exact ⟨trivial, rfl⟩
  | succ m ih =>
    intro j d t v r h
    simp only [restD] at h
    split at h
    · cases h
    · rename_i x hx
      obtain ⟨h1, h2, h3, _⟩ := step_ok hx
      simp only [Option.map_eq_some_iff] at h
      obtain ⟨r', hr', rfl⟩ := h
      obtain ⟨i1, i2⟩ := ih _ _ _ _ _ hr'
      exact ⟨⟨h1, h2, h3, i1⟩, by simp [i2]⟩
theorem rise_good : ∀ (l : List Sample) (t : Int), Rise t l → -1 ≤ t → (∀ x ∈ l, 0 ≤ x.T ∧ x.T < 1099511627776 ∧ In64 x.V) ∧ ∀ i, (h : i + 1 < l.length) → (l[i]'(by omega)).T < l[i + 1].T := by
  intro l
  induction l with
  | nil => intro t _ _; exact ⟨fun x hx => (by cases hx), fun i h => absurd h (by simp)⟩
  | cons x l ih =>
    intro t h ht
    obtain ⟨h1, h2, h3, h4⟩ := h
    obtain ⟨i1, i2⟩ := ih x.T h4 (by omega)
    refine ⟨fun y hy => ?_, fun i hi => ?_⟩
    · rcases List.mem_cons.1 hy with rfl | hy
      · exact ⟨by omega, h2, h3⟩
      · exact i1 y hy
    · cases i with
      | zero =>
        cases l with
        | nil => simp at hi
        | cons y l => exact h4.1
      | succ i => exact i2 i (by simpa using hi)
theorem rise_fine {l : List Sample} {t : Int} (h : Rise t l) (ht : -1 ≤ t) : Fine l ∧ ∀ x ∈ l, Sample.ok x := by
  obtain ⟨h1, h2⟩ := rise_good l t h ht
  exact ⟨⟨fun x hx => ⟨(h1 x hx).1, (h1 x hx).2.1⟩, h2⟩, fun x hx => ⟨by have := h1 x hx; unfold In64; omega, (h1 x hx).2.2⟩⟩
theorem unfold_in {k : Nat} (h : k < 18446744073709551616) : In64 (unfoldN k) := ⟨unfoldN_lo h, unfoldN_hi h⟩
theorem read_ok {l : List UInt8} {r : List Sample × Bool} (h : readP l = some r) : (Fine r.1 ∧ ∀ x ∈ r.1, Sample.ok x) ∧ r.1.length ≤ 5000 := by
  unfold readP at h
  have hx := getAt_lt l (getAt l (getAt l 0).2.1).2.1
  generalize getAt l 0 = g at *
  generalize getAt l g.2.1 = t at *
  generalize getAt l t.2.1 = v at *
  split at h
  · cases h
  · rename_i h1
    split at h
    · obtain rfl := Option.some.inj h
      exact ⟨rise_fine (t := -1) trivial (by omega), by simp⟩
    · split at h
      · cases h
      · rename_i h3
        split at h
        · cases h
        · split at h
          · obtain rfl := Option.some.inj h
            exact ⟨rise_fine (t := -1) ⟨by simp only; omega, by simp only; omega, unfold_in hx, trivial⟩ (by omega), by simp⟩
          · split at h
            · cases h
            · split at h
              · cases h
              · rename_i x hr
                obtain rfl := Option.some.inj h
                obtain ⟨i1, i2⟩ := rest_ok _ _ _ _ _ _ hr
                exact ⟨rise_fine (t := -1) ⟨by simp only; omega, by simp only; omega, unfold_in hx, i1⟩ (by omega), by simp only [List.length_cons, i2]; omega⟩
end Go.Proofs.Ytmafdbdmmfpeeaa
