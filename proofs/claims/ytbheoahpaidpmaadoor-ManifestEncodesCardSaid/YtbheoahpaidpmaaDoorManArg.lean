/-
  Edits that came in; a state as cells; three results of which the first lies in cells.
-/
import Derived.Test.YtbheoahpaidpmaaDoorPackC
import Derived.Test.YtbheoahpaidpmaaDoorManInv
namespace Go.Proofs.YtbheoahpaidpmaaDoor
open Go Go.RowKit Go.Deep Go.ChangeShapes Go.WideShapes

def I64 (n : Int) : Prop := -9223372036854775808 ≤ n ∧ n ≤ 9223372036854775807
def Ed.ok (e : Ed) : Prop := I64 e.Kind ∧ I64 e.Day ∧ I64 e.Layout ∧ I64 e.At
def edCells (e : Ed) : List Value := [.int .i64 e.Kind, .int .i64 e.Day, .int .i64 e.Layout, .int .i64 e.At]
theorem edCells_length (e : Ed) : (edCells e).length = 4 := rfl
/-- the cells of edit i, as a walk spells them -/
theorem ed_at {w : World} {A : Option Addr} {n : Nat} {xs : List Ed} (h : Rd w 4 A n (xs.flatMap edCells)) {i : Nat} (hi : i < xs.length) :
    ∃ b off, A = some ⟨b, off, none⟩ ∧ b < w.heap.size ∧ w.cell? ⟨b, off + i * 4, none⟩ = some (.int .i64 xs[i].Kind) ∧ w.cell? ⟨b, off + i * 4 + 1, none⟩ = some (.int .i64 xs[i].Day) ∧ w.cell? ⟨b, off + i * 4 + 2, none⟩ = some (.int .i64 xs[i].Layout) ∧ w.cell? ⟨b, off + i * 4 + 3, none⟩ = some (.int .i64 xs[i].At) := by
  obtain ⟨b, off, e, hb, hc⟩ := h.elem edCells_length (by decide) hi
  exact ⟨b, off, e, hb, hc 0 _ rfl, by have := hc 1 _ rfl; rwa [← Nat.add_assoc] at this, by have := hc 2 _ rfl; rwa [← Nat.add_assoc] at this, by have := hc 3 _ rfl; rwa [← Nat.add_assoc] at this⟩
section
variable {H : Type} {enc : TypeId × Value → H} {w : World}
theorem ed_elem : ∀ n cs y, cs.length = 4 → DataW.trod enc Tryd.prog w 0 (fun _ => true) true n 47 cs = some y → ∃ x, cs = edCells x ∧ Ed.ok x := by
  intro n cs y hl h
  obtain ⟨_, m, hf⟩ := trod_fields Tryd.underlying47 (by kernel_rfl) h
  obtain ⟨v0, y0, e0, h0⟩ := hf 0 _ rfl (by omega)
  obtain ⟨v1, y1, e1, h1⟩ := hf 1 _ rfl (by omega)
  obtain ⟨v2, y2, e2, h2⟩ := hf 2 _ rfl (by omega)
  obtain ⟨v3, y3, e3, h3⟩ := hf 3 _ rfl (by omega)
  obtain ⟨a, ha, _, wa⟩ := DataW.trod_int Tryd.underlying3 h0
  obtain ⟨b, hb, _, wb⟩ := DataW.trod_int Tryd.underlying3 h1
  obtain ⟨c, hc, _, wc⟩ := DataW.trod_int Tryd.underlying3 h2
  obtain ⟨d, hd, _, wd⟩ := DataW.trod_int Tryd.underlying3 h3
  simp at ha hb hc hd
  subst ha hb hc hd
  refine ⟨⟨a, b, c, d⟩, ?_, bounds_i64 wa, bounds_i64 wb, bounds_i64 wc, bounds_i64 wd⟩
  match cs, hl with
  | [p, q, r, s], _ =>
    simp at e0 e1 e2 e3
    subst e0 e1 e2 e3
    rfl
set_option maxRecDepth 100000 in
theorem read_edits {v : Value} {d : DataW H} {p : List MemPlace} {r : Reach} {b0 : Nat} (hv : Value.okWide Tryd.prog w r b0 22 v) (h : DataW.Trod enc Tryd.prog w 0 (fun _ => true) true 22 v d p) :
    ∃ A c, ∃ xs : List Ed, v = .slice A xs.length c ∧ Rd w 4 A xs.length (xs.flatMap edCells) ∧ (∀ x ∈ xs, Ed.ok x) ∧ xs.length ≤ c ∧ c ≤ maxLen :=
  read_slice edCells_length (by decide) Tryd.underlying22 (by kernel_rfl) ed_elem hv h
set_option maxRecDepth 100000 in
theorem read_edit {v : Value} {d : DataW H} {p : List MemPlace} {r : Reach} {b0 : Nat} (hv : Value.okWide Tryd.prog w r b0 47 v) (h : DataW.Trod enc Tryd.prog w 0 (fun _ => true) true 47 v d p) :
    ∃ x : Ed, v = edVal x ∧ Ed.ok x := by
  obtain ⟨cs, rfl, hsz⟩ := okWide_struct Tryd.underlying47 hv
  obtain ⟨fuel, hf⟩ := h
  have hl : cs.toList.length = 4 := by
    have h3 : Tryd.prog.cellsOf 47 = 4 := by kernel_rfl
    simp [hsz, h3]
  obtain ⟨x, hx, hok⟩ := ed_elem fuel cs.toList _ hl (by simpa [Value.cells] using hf)
  refine ⟨x, ?_, hok⟩
  have : cs = (edCells x).toArray := by rw [← hx]
  rw [this]; rfl
end
/-- a state's cells -/
abbrev stC (A : Option Addr) (n c : Nat) (s : St) : Array Value := #[.slice A n c, .int .i64 s.Next, .int .i64 s.Past, .bool s.On, .int .i64 s.Day, .int .i64 s.To, .int .i64 s.Done]
abbrev z7 : Array Value := #[.slice none 0 0, .int .i64 0, .int .i64 0, .bool false, .int .i64 0, .int .i64 0, .int .i64 0]
abbrev edC (e : Ed) : Array Value := #[.int .i64 e.Kind, .int .i64 e.Day, .int .i64 e.Layout, .int .i64 e.At]
/-- what Fold answers: a state, how many, an error -/
def FdAt (v : St × Nat × Nat) (B : Nat) (w : World) (e : Ending) (w' : World) : Prop :=
  ∃ A n c, e = .returned (.tuple #[stVal A n c v.1, .int .i64 v.2.1, .int .i64 v.2.2]) ∧ PAt B A n v.1.Parts w' ∧ Below B w w'
theorem results_cell_tmp2 {fn : Func} {p : Tmp} {t : TypeId} {q r : Tmp} (h : fn.results = #[.cell p t, .tmp q, .tmp r]) (tmps : Array Value) (P : Program) (w : World) :
    (results fn tmps).run P w = ((asAddr (tmps.getD p undef)).run P w).andThen fun a w₁ => ((loadVar t a).run P w₁).andThen fun v w₂ => .ok (.tuple #[v, tmps.getD q undef, tmps.getD r undef]) w₂ := by
  simp only [results, h]
  simp [Sem.run_bind, Result.andThen]
end Go.Proofs.YtbheoahpaidpmaaDoor
