/-
  The law's steps: as cells, and read from an argument.
-/
import Derived.Test.YtmllnfplahaccaaSlice
namespace Go.Proofs.Ytmllnfplahaccaa
open Go Go.RowKit Go.Deep Go.ChangeShapes Go.WideShapes

/-- a call of the law's -/
structure Step where
  kind : Int
  n : Nat
  k : Int
def stepCells (r : Step) : List Value := [.int .i64 r.kind, .int .u64 (r.n : Int), .int .i64 r.k]
theorem stepCells_length (r : Step) : (stepCells r).length = 3 := rfl
def Step.ok (r : Step) : Prop := (-9223372036854775808 ≤ r.kind ∧ r.kind ≤ 9223372036854775807) ∧ r.n < 18446744073709551616 ∧ (-9223372036854775808 ≤ r.k ∧ r.k ≤ 9223372036854775807)

theorem step_at {w : World} {A : Option Addr} {n : Nat} {xs : List Step} (h : Rd w 3 A n (xs.flatMap stepCells)) {i : Nat} (hi : i < xs.length) :
    ∃ b off, A = some ⟨b, off, none⟩ ∧ b < w.heap.size ∧ w.cell? ⟨b, off + i * 3, none⟩ = some (.int .i64 xs[i].kind) ∧ w.cell? ⟨b, off + i * 3 + 1, none⟩ = some (.int .u64 (xs[i].n : Int)) ∧ w.cell? ⟨b, off + i * 3 + 2, none⟩ = some (.int .i64 xs[i].k) := by
  obtain ⟨b, off, e, hb, hc⟩ := h.elem stepCells_length (by decide) hi
  exact ⟨b, off, e, hb, hc 0 _ rfl, by have := hc 1 _ rfl; rwa [← Nat.add_assoc] at this, by have := hc 2 _ rfl; rwa [← Nat.add_assoc] at this⟩

section
variable {H : Type} {enc : TypeId × Value → H} {w : World}
theorem step_elem : ∀ n cs y, cs.length = 3 → DataW.trod enc Try.prog w 0 (fun _ => true) true n 40 cs = some y → ∃ x, cs = stepCells x ∧ Step.ok x := by
  intro n cs y hl h
  obtain ⟨_, m, hf⟩ := trod_fields Try.underlying40 (by kernel_rfl) h
  obtain ⟨v0, y0, e0, h0⟩ := hf 0 _ rfl (by omega)
  obtain ⟨v1, y1, e1, h1⟩ := hf 1 _ rfl (by omega)
  obtain ⟨v2, y2, e2, h2⟩ := hf 2 _ rfl (by omega)
  obtain ⟨a, ha, _, wa⟩ := DataW.trod_int Try.underlying3 h0
  obtain ⟨b, hb, _, wb⟩ := DataW.trod_int Try.underlying25 h1
  obtain ⟨c, hc, _, wc⟩ := DataW.trod_int Try.underlying3 h2
  simp at ha hb hc
  subst ha hb hc
  have bd := bounds_u64 wb
  obtain ⟨b', rfl⟩ := Int.eq_ofNat_of_zero_le bd.1
  refine ⟨⟨a, b', c⟩, ?_, bounds_i64 wa, by have := bd.2; simp only; omega, bounds_i64 wc⟩
  match cs, hl with
  | [p, q, r], _ =>
    simp at e0 e1 e2
    subst e0 e1 e2
    rfl

theorem read_steps {v : Value} {d : DataW H} {p : List MemPlace} {r : Reach} {b0 : Nat} (hv : Value.okWide Try.prog w r b0 34 v) (h : DataW.Trod enc Try.prog w 0 (fun _ => true) true 34 v d p) :
    ∃ A c, ∃ xs : List Step, v = .slice A xs.length c ∧ Rd w 3 A xs.length (xs.flatMap stepCells) ∧ (∀ x ∈ xs, Step.ok x) ∧ xs.length ≤ c ∧ c ≤ maxLen :=
  read_slice stepCells_length (by decide) Try.underlying34 (by kernel_rfl) step_elem hv h
end
end Go.Proofs.Ytmllnfplahaccaa
