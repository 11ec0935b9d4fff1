/-
  Plain Lean: rows in blocks: what bytes are.
-/
import Derived.Test.YthmikefinibecaaRow
import Derived.Test.YthmikefinibecaaPackA
namespace Go.Proofs.Ythmikefinibecaa
open Go Go.RowKit

/-- what a reader of numbers answers: the number, where it stands, whether all went well -/
def numP (l : List UInt8) (a : Int) (ok : Bool) (below : Nat) : Nat × Int × Bool :=
  if ok = true ∧ (getAt l a).2.2 = 0 ∧ (getAt l a).1 < below then ((getAt l a).1, (getAt l a).2.1, true) else (0, a, false)
theorem numP_ok {l : List UInt8} {a : Int} {below : Nat} (h1 : (getAt l a).2.2 = 0) (h2 : (getAt l a).1 < below) : numP l a true below = ((getAt l a).1, (getAt l a).2.1, true) := by
  unfold numP; rw [if_pos ⟨rfl, h1, h2⟩]
theorem numP_no {l : List UInt8} {a : Int} {below : Nat} (h : ¬ ((getAt l a).2.2 = 0 ∧ (getAt l a).1 < below)) : numP l a true below = (0, a, false) := by
  unfold numP; rw [if_neg (fun e => h e.2)]
theorem numP_false (l : List UInt8) (a : Int) (below : Nat) : numP l a false below = (0, a, false) := by unfold numP; rw [if_neg (by simp)]
theorem numP_lt {l : List UInt8} {a : Int} {ok : Bool} {below : Nat} (hb : 0 < below) : (numP l a ok below).1 < below := by
  unfold numP
  split
  · rename_i h; exact h.2.2
  · exact hb

/-- a block: its range, how many rows it has, its bytes -/
structure Fen where
  F : Int
  T : Int
  n : Nat
  b : List UInt8
/-- the head of a block: its first time, how much longer it lasts, how many bytes; where the next one stands -/
def headR (l : List UInt8) (a : Int) : Option (Nat × Nat × Nat × Int) :=
  if (getAt l a).2.2 = 0 ∧ (getAt l (getAt l a).2.1).2.2 = 0 ∧ (getAt l (getAt l (getAt l a).2.1).2.1).2.2 = 0 ∧ (getAt l a).1 < 1099511627776 ∧ (getAt l (getAt l a).2.1).1 < 1099511627776 ∧
      (getAt l a).1 + (getAt l (getAt l a).2.1).1 < 1099511627776 ∧ (getAt l (getAt l (getAt l a).2.1).2.1).1 ≤ l.length then
    some ((getAt l a).1, (getAt l (getAt l a).2.1).1, (getAt l (getAt l (getAt l a).2.1).2.1).1, (getAt l (getAt l (getAt l a).2.1).2.1).2.1)
  else none
/-- the heads of blocks: range, rows, bytes; where the bytes begin -/
def headsR (l : List UInt8) : Nat → Nat → Int → Int → Option (List (Int × Int × Nat × Nat) × Int)
  | 0, _, a, _ => some ([], a)
  | k + 1, left, a, last => match headR l a with
    | none => none
    | some x => if (x.1 : Int) < last then none else
      (headsR l k (left - 16) x.2.2.2 ((x.1 : Int) + x.2.1)).map fun r => (((x.1 : Int), (x.1 : Int) + x.2.1 + 1, min left 16, x.2.2.1) :: r.1, r.2)
/-- the blocks, with their bytes -/
def cutR : List (Int × Int × Nat × Nat) → List UInt8 → List Fen
  | [], _ => []
  | h :: hs, t => ⟨h.1, h.2.1, h.2.2.1, t.take h.2.2.2⟩ :: cutR hs (t.drop h.2.2.2)
def sumR (hs : List (Int × Int × Nat × Nat)) : Nat := (hs.map fun h => h.2.2.2).sum
def fencesR (l : List UInt8) : Option (List Fen) :=
  if (getAt l 0).2.2 ≠ 0 ∨ 5000 < (getAt l 0).1 then none
  else match headsR l (((getAt l 0).1 + 15) / 16) (getAt l 0).1 (getAt l 0).2.1 0 with
    | none => none
    | some r => if (sumR r.1 : Int) = (l.length : Int) - r.2 then some (cutR r.1 (l.drop r.2.toNat)) else none

/-- a row of a block -/
def rowR (l : List UInt8) (a t : Int) : Option (Row × Int) :=
  if (getAt l a).2.2 = 0 ∧ (getAt l (getAt l a).2.1).2.2 = 0 ∧ (getAt l (getAt l (getAt l a).2.1).2.1).2.2 = 0 ∧ (getAt l a).1 < 1099511627776 ∧ (getAt l (getAt l a).2.1).1 < 200 then
    some (⟨t + (getAt l a).1, ((getAt l (getAt l a).2.1).1 : Int), unfoldN (getAt l (getAt l (getAt l a).2.1).2.1).1⟩, (getAt l (getAt l (getAt l a).2.1).2.1).2.1)
  else none
def rowsR (l : List UInt8) : Nat → Int → Int → Option (List Row × Int)
  | 0, a, _ => some ([], a)
  | k + 1, a, t => match rowR l a t with
    | none => none
    | some x => (rowsR l k x.2 x.1.T).map fun r => (x.1 :: r.1, r.2)
def behR (a b : Row) : Bool := decide (b.T < a.T) || (a.T == b.T && decide (b.ID < a.ID))
/-- are rows right? -/
def fineR : List Row → Bool
  | [] => true
  | [_] => true
  | a :: b :: l => behR b a && fineR (b :: l)
def rAt (l : List Row) (i : Nat) : Row := l.getD i ⟨0, 0, 0⟩
theorem rAt_get {l : List Row} {i : Nat} (h : i < l.length) : rAt l i = l[i] := by unfold rAt; rw [List.getD_eq_getElem?_getD, List.getElem?_eq_getElem h]; rfl
/-- the rows of a block -/
def readR (f : Fen) : Option (List Row) := match rowsR f.b f.n 0 f.F with
  | none => none
  | some r => if r.2 = f.b.length ∧ fineR r.1 = true ∧ (rAt r.1 0).T = f.F ∧ (rAt r.1 (f.n - 1)).T = f.T - 1 then some r.1 else none
def inR (x y : Int) (r : Row) : Bool := decide (x ≤ r.T) && decide (r.T < y)
/-- the rows of blocks in a range -/
def betR (x y : Int) : List Fen → Option (List Row)
  | [] => some []
  | f :: fs => if max f.F x < min f.T y then match readR f with
      | none => none
      | some rs => (betR x y fs).map fun r => rs.filter (inR x y) ++ r
    else betR x y fs

theorem rows_len {l : List UInt8} : ∀ (k : Nat) (a t : Int) (r : List Row × Int), rowsR l k a t = some r → r.1.length = k := by
  intro k
  induction k with
  | zero => intro a t r h; simp only [rowsR, Option.some.injEq] at h; subst h; rfl
  | succ k ih =>
    intro a t r h
    simp only [rowsR] at h
    split at h
    · cases h
    · simp only [Option.map_eq_some_iff] at h
      obtain ⟨r', hr', rfl⟩ := h
      simp [ih _ _ _ hr']
theorem fineR_snoc {l : List Row} {x : Row} (h : fineR l = true) (hx : l.length = 0 ∨ behR x (rAt l (l.length - 1)) = true) : fineR (l ++ [x]) = true := by
  induction l with
  | nil => rfl
  | cons a l ih =>
    cases l with
    | nil =>
      rcases hx with hx | hx
      · simp at hx
      · simp only [List.cons_append, List.nil_append, fineR, Bool.and_true]
        exact hx
    | cons b l =>
      simp only [fineR, Bool.and_eq_true] at h
      simp only [List.cons_append, fineR, Bool.and_eq_true]
      refine ⟨h.1, ?_⟩
      refine ih h.2 ?_
      rcases hx with hx | hx
      · simp at hx
      · right
        have e1 : rAt (a :: b :: l) ((a :: b :: l).length - 1) = rAt (b :: l) ((b :: l).length - 1) := by
          simp [rAt]
        rw [← e1]; exact hx
theorem fineR_init {l : List Row} {x : Row} (h : fineR (l ++ [x]) = true) : fineR l = true ∧ (l.length = 0 ∨ behR x (rAt l (l.length - 1)) = true) := by
  induction l with
  | nil => exact ⟨rfl, .inl rfl⟩
  | cons a l ih =>
    cases l with
    | nil =>
      simp only [List.cons_append, List.nil_append, fineR, Bool.and_true] at h
      exact ⟨rfl, .inr h⟩
    | cons b l =>
      simp only [List.cons_append, fineR, Bool.and_eq_true] at h
      obtain ⟨i1, i2⟩ := ih h.2
      refine ⟨by simp only [fineR, Bool.and_eq_true]; exact ⟨h.1, i1⟩, .inr ?_⟩
      have e1 : rAt (a :: b :: l) ((a :: b :: l).length - 1) = rAt (b :: l) ((b :: l).length - 1) := by
        simp [rAt]
      rw [e1]
      rcases i2 with i2 | i2
      · simp at i2
      · exact i2
end Go.Proofs.Ythmikefinibecaa
