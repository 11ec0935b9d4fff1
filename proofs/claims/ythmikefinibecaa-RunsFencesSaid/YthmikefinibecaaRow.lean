/-
  Rows, cursors, ranges: as cells, and read from an argument.
-/
import Derived.Test.YthmikefinibecaaPackB
namespace Go.Proofs.Ythmikefinibecaa
open Go Go.RowKit Go.Deep Go.ChangeShapes Go.WideShapes

/-- a sample of a series -/
structure Row where
  T : Int
  ID : Int
  V : Int

def I64 (n : Int) : Prop := -9223372036854775808 ≤ n ∧ n ≤ 9223372036854775807
def Row.ok (r : Row) : Prop := I64 r.T ∧ I64 r.ID ∧ I64 r.V
def rowCells (r : Row) : List Value := [.int .i64 r.T, .int .i64 r.ID, .int .i64 r.V]
theorem rowCells_length (r : Row) : (rowCells r).length = 3 := rfl
def rowVal (r : Row) : Value := .agg #[.int .i64 r.T, .int .i64 r.ID, .int .i64 r.V]

/-- are two rows one? two lists? -/
def rowEq (a b : Row) : Bool := a.T == b.T && (a.ID == b.ID && a.V == b.V)
theorem rowEq_iff (a b : Row) : rowEq a b = true ↔ a = b := by
  cases a; cases b; simp [rowEq]
def rowsEq : List Row → List Row → Bool
  | [], [] => true
  | a :: l, b :: m => rowEq a b && rowsEq l m
  | _, _ => false
theorem rowsEq_iff : ∀ (l m : List Row), rowsEq l m = true ↔ l = m := by
  intro l
  induction l with
  | nil => intro m; cases m <;> simp [rowsEq]
  | cons a l ih => intro m; cases m <;> simp [rowsEq, rowEq_iff, ih]
theorem rowsEq_self (l : List Row) : rowsEq l l = true := (rowsEq_iff l l).2 rfl
theorem rowsEq_ne {l m : List Row} (h : l ≠ m) : rowsEq l m = false := by
  cases e : rowsEq l m
  · rfl
  · exact absurd ((rowsEq_iff l m).1 e) h

/-- the cells of row i, as a walk spells them -/
theorem row_at {w : World} {A : Option Addr} {n : Nat} {xs : List Row} (h : Rd w 3 A n (xs.flatMap rowCells)) {i : Nat} (hi : i < xs.length) :
    ∃ b off, A = some ⟨b, off, none⟩ ∧ b < w.heap.size ∧ w.cell? ⟨b, off + i * 3, none⟩ = some (.int .i64 xs[i].T) ∧ w.cell? ⟨b, off + i * 3 + 1, none⟩ = some (.int .i64 xs[i].ID) ∧ w.cell? ⟨b, off + i * 3 + 2, none⟩ = some (.int .i64 xs[i].V) := by
  obtain ⟨b, off, e, hb, hc⟩ := h.elem rowCells_length (by decide) hi
  exact ⟨b, off, e, hb, hc 0 _ rfl, by have := hc 1 _ rfl; rwa [← Nat.add_assoc] at this, by have := hc 2 _ rfl; rwa [← Nat.add_assoc] at this⟩

section
variable {H : Type} {enc : TypeId × Value → H} {w : World}
theorem row_elem : ∀ n cs y, cs.length = 3 → DataW.trod enc Try.prog w 0 (fun _ => true) true n 36 cs = some y → ∃ x, cs = rowCells x ∧ Row.ok x := by
  intro n cs y hl h
  obtain ⟨_, m, hf⟩ := trod_fields Try.underlying36 (by kernel_rfl) h
  obtain ⟨v0, y0, e0, h0⟩ := hf 0 _ rfl (by omega)
  obtain ⟨v1, y1, e1, h1⟩ := hf 1 _ rfl (by omega)
  obtain ⟨v2, y2, e2, h2⟩ := hf 2 _ rfl (by omega)
  obtain ⟨a, ha, _, wa⟩ := DataW.trod_int Try.underlying3 h0
  obtain ⟨b, hb, _, wb⟩ := DataW.trod_int Try.underlying3 h1
  obtain ⟨c, hc, _, wc⟩ := DataW.trod_int Try.underlying3 h2
  simp at ha hb hc
  subst ha hb hc
  refine ⟨⟨a, b, c⟩, ?_, bounds_i64 wa, bounds_i64 wb, bounds_i64 wc⟩
  match cs, hl with
  | [p, q, r], _ =>
    simp at e0 e1 e2
    subst e0 e1 e2
    rfl

theorem read_rows {v : Value} {d : DataW H} {p : List MemPlace} {r : Reach} {b0 : Nat} (hv : Value.okWide Try.prog w r b0 28 v) (h : DataW.Trod enc Try.prog w 0 (fun _ => true) true 28 v d p) :
    ∃ A c, ∃ xs : List Row, v = .slice A xs.length c ∧ Rd w 3 A xs.length (xs.flatMap rowCells) ∧ (∀ x ∈ xs, Row.ok x) ∧ xs.length ≤ c ∧ c ≤ maxLen :=
  read_slice rowCells_length (by decide) Try.underlying28 (by kernel_rfl) row_elem hv h

theorem read_row {v : Value} {d : DataW H} {p : List MemPlace} {r : Reach} {b0 : Nat} (hv : Value.okWide Try.prog w r b0 36 v) (h : DataW.Trod enc Try.prog w 0 (fun _ => true) true 36 v d p) :
    ∃ x : Row, v = rowVal x ∧ Row.ok x := by
  obtain ⟨cs, rfl, hsz⟩ := okWide_struct Try.underlying36 hv
  obtain ⟨fuel, hf⟩ := h
  have hl : cs.toList.length = 3 := by
    have h3 : Try.prog.cellsOf 36 = 3 := by kernel_rfl
    simp [hsz, h3]
  obtain ⟨x, hx, hok⟩ := row_elem fuel cs.toList _ hl (by simpa [Value.cells] using hf)
  refine ⟨x, ?_, hok⟩
  have : cs = (rowCells x).toArray := by rw [← hx]
  rw [this]; rfl
end
end Go.Proofs.Ythmikefinibecaa
