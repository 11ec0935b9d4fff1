/-
  Samples: as cells, and read from an argument; the numbers of the samples behind the first.
-/
import Derived.Test.YtjendmojkdkipaaSlice
import Derived.Test.YtjendmojkdkipaaZigNum
namespace Go.Proofs.Ytjendmojkdkipaa
open Go Go.RowKit Go.Deep Go.ChangeShapes Go.WideShapes

structure Sample where
  T : Int
  V : Int
def In64 (n : Int) : Prop := -9223372036854775808 ≤ n ∧ n ≤ 9223372036854775807
def Sample.ok (r : Sample) : Prop := In64 r.T ∧ In64 r.V
def sampleCells (r : Sample) : List Value := [.int .i64 r.T, .int .i64 r.V]
theorem sampleCells_length (r : Sample) : (sampleCells r).length = 2 := rfl
def sampleVal (r : Sample) : Value := .agg #[.int .i64 r.T, .int .i64 r.V]

theorem sample_at {w : World} {A : Option Addr} {n : Nat} {xs : List Sample} (h : Rd w 2 A n (xs.flatMap sampleCells)) {i : Nat} (hi : i < xs.length) :
    ∃ b off, A = some ⟨b, off, none⟩ ∧ b < w.heap.size ∧ w.cell? ⟨b, off + i * 2, none⟩ = some (.int .i64 xs[i].T) ∧ w.cell? ⟨b, off + i * 2 + 1, none⟩ = some (.int .i64 xs[i].V) := by
  obtain ⟨b, off, e, hb, hc⟩ := h.elem sampleCells_length (by decide) hi
  exact ⟨b, off, e, hb, hc 0 _ rfl, by have := hc 1 _ rfl; rwa [← Nat.add_assoc] at this⟩

section
variable {H : Type} {enc : TypeId × Value → H} {w : World}
theorem sample_elem : ∀ n cs y, cs.length = 2 → DataW.trod enc Try.prog w 0 (fun _ => true) true n 25 cs = some y → ∃ x, cs = sampleCells x ∧ Sample.ok x := by
  intro n cs y hl h
  obtain ⟨_, m, hf⟩ := trod_fields Try.underlying25 (by kernel_rfl) h
  obtain ⟨v0, y0, e0, h0⟩ := hf 0 _ rfl (by omega)
  obtain ⟨v1, y1, e1, h1⟩ := hf 1 _ rfl (by omega)
  obtain ⟨a, ha, _, wa⟩ := DataW.trod_int Try.underlying3 h0
  obtain ⟨b, hb, _, wb⟩ := DataW.trod_int Try.underlying3 h1
  simp at ha hb
  subst ha hb
  refine ⟨⟨a, b⟩, ?_, bounds_i64 wa, bounds_i64 wb⟩
  match cs, hl with
  | [p, q], _ =>
    simp at e0 e1
    subst e0 e1
    rfl

theorem read_samples {v : Value} {d : DataW H} {p : List MemPlace} {r : Reach} {b0 : Nat} (hv : Value.okWide Try.prog w r b0 23 v) (h : DataW.Trod enc Try.prog w 0 (fun _ => true) true 23 v d p) :
    ∃ A c, ∃ xs : List Sample, v = .slice A xs.length c ∧ Rd w 2 A xs.length (xs.flatMap sampleCells) ∧ (∀ x ∈ xs, Sample.ok x) ∧ xs.length ≤ c ∧ c ≤ maxLen :=
  read_slice sampleCells_length (by decide) Try.underlying23 (by kernel_rfl) sample_elem hv h
end

/-! the numbers of the samples behind the first -/

/-- samples are in order -/
def Fine (l : List Sample) : Prop := (∀ x ∈ l, 0 ≤ x.T ∧ x.T < 1099511627776) ∧ ∀ i, (h : i + 1 < l.length) → (l[i]'(by omega)).T < l[i + 1].T

def sAt (l : List Sample) (i : Nat) : Sample := l.getD i ⟨0, 0⟩
theorem sAt_get {l : List Sample} {i : Nat} (h : i < l.length) : sAt l i = l[i] := by unfold sAt; rw [List.getD_eq_getElem?_getD, List.getElem?_eq_getElem h]; rfl
/-- the distance ahead of sample i + 1 -/
def dist (l : List Sample) (i : Nat) : Int := (sAt l (i + 1)).T - (sAt l i).T
def ahead (l : List Sample) : Nat → Int
  | 0 => 0
  | i + 1 => dist l i
def wrapV (n : Int) : Int := IntKind.i64.wrap n
theorem wrapV_in (n : Int) : In64 (wrapV n) := by unfold wrapV In64; rw [IntKind.wrap_i64]; omega
/-- the two numbers of sample i + 1 -/
def numAt (l : List Sample) (i : Nat) : Nat × Nat := (foldN (dist l i - ahead l i), foldN (wrapV ((sAt l (i + 1)).V - (sAt l i).V)))
def nums (l : List Sample) : List (Nat × Nat) := (List.range (l.length - 1)).map (numAt l)
theorem nums_length (l : List Sample) : (nums l).length = l.length - 1 := by simp [nums]
theorem nums_get {l : List Sample} {i : Nat} (h : i < (nums l).length) : (nums l)[i] = numAt l i := by simp [nums]
theorem nums_take {l : List Sample} {i : Nat} (h : i + 1 < l.length) : (nums l).take (i + 1) = (nums l).take i ++ [numAt l i] := by
  have hl : i < (nums l).length := by rw [nums_length]; omega
  rw [List.take_succ_eq_append_getElem hl, nums_get]
theorem dist_lt {l : List Sample} (h : Fine l) {i : Nat} (hi : i + 1 < l.length) : 0 < dist l i ∧ dist l i < 1099511627776 := by
  have h1 := h.2 i hi
  have h2 := h.1 _ (List.getElem_mem hi)
  have h3 := h.1 _ (List.getElem_mem (show i < l.length by omega))
  unfold dist
  rw [sAt_get hi, sAt_get (by omega)]
  omega
theorem ahead_lt {l : List Sample} (h : Fine l) {i : Nat} (hi : i < l.length) : 0 ≤ ahead l i ∧ ahead l i < 1099511627776 := by
  cases i with
  | zero => exact ⟨Int.le_refl _, (by decide : (0 : Int) < 1099511627776)⟩
  | succ i => have := dist_lt h hi; exact ⟨Int.le_of_lt this.1, this.2⟩
theorem num_lt {l : List Sample} (h : Fine l) {i : Nat} (hi : i + 1 < l.length) : (numAt l i).1 < 18446744073709551616 ∧ (numAt l i).2 < 18446744073709551616 := by
  have h1 := dist_lt h hi
  have h2 := ahead_lt h (show i < l.length by omega)
  have h3 := wrapV_in ((sAt l (i + 1)).V - (sAt l i).V)
  exact ⟨foldN_lt (by omega) (by omega), foldN_lt h3.1 h3.2⟩
end Go.Proofs.Ytjendmojkdkipaa
