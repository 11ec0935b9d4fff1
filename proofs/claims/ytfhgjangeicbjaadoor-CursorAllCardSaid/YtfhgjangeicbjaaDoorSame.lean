/-
  The walk of 'same' on texts; texts read from an argument.
-/
import Derived.Test.YtfhgjangeicbjaaDoorRScan
namespace Go.Proofs.YtfhgjangeicbjaaDoor
open Go Go.RowKit Go.Deep Go.ChangeShapes Go.WideShapes

theorem str_at {w : World} {A : Option Addr} {ts : List (List UInt8)} (h : Rd w 1 A ts.length (strCells ts)) {i : Nat} (hi : i < ts.length) :
    ∃ b off, A = some ⟨b, off, none⟩ ∧ b < w.heap.size ∧ w.cell? ⟨b, off + i, none⟩ = some (.string (S ts[i])) := by
  obtain ⟨b, off, e, hb, hc⟩ := h.2 (by omega)
  exact ⟨b, off, e, hb, hc i _ (by simp [strCells, hi])⟩

theorem frame_nil_len : (S (frame [])).size = 3 := by rw [S_size]; simp [frame, text, sumBytes, uint_small]

theorem scanned_len {l : List UInt8} {ts : List (List UInt8)} (h : Scanned l ts) : ts.length ≤ l.length := by
  obtain ⟨r, rfl, _⟩ := h
  have key : ∀ ts : List (List UInt8), ts.length ≤ (ts.flatMap frame).length := by
    intro ts
    induction ts with
    | nil => simp
    | cons t ts ih => rw [List.flatMap_cons, List.length_append, List.length_cons]; have := frame_len_pos t; omega
  have := key ts
  rw [List.length_append]; omega
end Go.Proofs.YtfhgjangeicbjaaDoor
