/-
  manifest.Apply.
-/
import Derived.Test.YtbheoahpaidpmaaDoorPackE
namespace Go.Proofs.YtbheoahpaidpmaaDoor
open Go Go.RowKit

def appV (s : St) (e : Ed) : St × Nat := match applyS s e with
  | none => (st0, 170)
  | some t => (t, 0)
theorem appV_none {s : St} {e : Ed} (h : applyS s e = none) : appV s e = (st0, 170) := by unfold appV; rw [h]
theorem appV_some {s t : St} {e : Ed} (h : applyS s e = some t) : appV s e = (t, 0) := by unfold appV; rw [h]
theorem app0 {s : St} {e : Ed} (h : e.Kind = 0) : applyS s e = putS s e.Day e.Layout := by unfold applyS; rw [if_pos h]
theorem app1 {s : St} {e : Ed} (h : e.Kind = 1) : applyS s e = if (findP s.Parts e.Day).isSome then some (dropS s e.Day) else none := by unfold applyS; rw [if_neg (by omega), if_pos h]
theorem app2 {s : St} {e : Ed} (h : e.Kind = 2) : applyS s e = if s.Past < e.At ∧ e.At ≤ 1099511627776 then some { s with Past := e.At } else none := by unfold applyS; rw [if_neg (by omega), if_neg (by omega), if_pos h]
theorem app3 {s : St} {e : Ed} (h : e.Kind = 3) : applyS s e = match findP s.Parts e.Day with
    | none => none
    | some p => if s.On = false ∧ bitOk e.Layout ∧ p.Layout ≠ e.Layout then some { s with On := true, Day := e.Day, To := e.Layout } else none := by unfold applyS; rw [if_neg (by omega), if_neg (by omega), if_neg (by omega), if_pos h]; rfl
theorem app4 {s : St} {e : Ed} (h : e.Kind = 4) : applyS s e = if s.On = true ∧ s.Done < 5000 then some { s with Done := s.Done + 1 } else none := by unfold applyS; rw [if_neg (by omega), if_neg (by omega), if_neg (by omega), if_neg (by omega), if_pos h]
theorem app5 {s : St} {e : Ed} (h : e.Kind = 5) : applyS s e = if s.On = true then putS s s.Day s.To else none := by unfold applyS; rw [if_neg (by omega), if_neg (by omega), if_neg (by omega), if_neg (by omega), if_neg (by omega), if_pos h]
theorem app6 {s : St} {e : Ed} (h : e.Kind = 6) : applyS s e = if s.On = true then some (offS s) else none := by unfold applyS; rw [if_neg (by omega), if_neg (by omega), if_neg (by omega), if_neg (by omega), if_neg (by omega), if_neg (by omega), if_pos h]
theorem app7 {s : St} {e : Ed} (h0 : e.Kind ≠ 0) (h1 : e.Kind ≠ 1) (h2 : e.Kind ≠ 2) (h3 : e.Kind ≠ 3) (h4 : e.Kind ≠ 4) (h5 : e.Kind ≠ 5) (h6 : e.Kind ≠ 6) : applyS s e = none := by unfold applyS; rw [if_neg h0, if_neg h1, if_neg h2, if_neg h3, if_neg h4, if_neg h5, if_neg h6]
theorem within_bit (n : Int) : withinB n 1 = decide (bitOk n) := by
  refine Bool.eq_iff_iff.2 ?_
  rw [decide_eq_true_iff]
  unfold withinB bitOk
  simp only [Bool.and_eq_true, decide_eq_true_eq]
  omega
theorem within_day (n : Int) : withinB n 17179869183 = decide (dayOk n) := by
  refine Bool.eq_iff_iff.2 ?_
  rw [decide_eq_true_iff]
  unfold withinB dayOk
  simp only [Bool.and_eq_true, decide_eq_true_eq]
  omega
theorem dropS_eq (P : List PartV) (N Q : Int) (O : Bool) (D T X d : Int) : dropS ⟨P, N, Q, O, D, T, X⟩ d = if O = true ∧ D = d then ⟨P.filter (kp d), N, Q, false, 0, 0, 0⟩ else ⟨P.filter (kp d), N, Q, O, D, T, X⟩ := rfl
theorem putS_no {s : St} {d y : Int} (h : ¬ (dayOk d ∧ bitOk y ∧ s.Next < 1099511627776)) : putS s d y = none := by unfold putS; rw [if_neg h]
theorem putS_ok {P : List PartV} {N Q : Int} {O : Bool} {D T X d y : Int} (h1 : dayOk d) (h2 : bitOk y) (h3 : N < 1099511627776) :
    putS ⟨P, N, Q, O, D, T, X⟩ d y = some (if O = true ∧ D = d then ⟨insP ⟨d, y, fileB N⟩ (P.filter (kp d)), N + 1, Q, false, 0, 0, 0⟩ else ⟨insP ⟨d, y, fileB N⟩ (P.filter (kp d)), N + 1, Q, O, D, T, X⟩) := by
  unfold putS
  rw [if_pos ⟨h1, h2, h3⟩, dropS_eq]
  split <;> rfl
theorem keepf {w w1 : World} {a : Addr} (hb : Below w.heap.size w w1) (hl : a.block < w.heap.size) (h : w.frozen? a = false) : w1.frozen? a = false := by
  unfold World.frozen? at h ⊢
  rw [hb.block _ hl]
  exact h
theorem keepf2 {w w1 : World} {b i j : Nat} {u : Value} (hb : Below w.heap.size w w1) (hc : w.cell? ⟨b, i, none⟩ = some u) (h : w.frozen? ⟨b, j, none⟩ = false) : w1.frozen? ⟨b, j, none⟩ = false :=
  keepf (a := ⟨b, j, none⟩) hb (by have := World.block_lt_of_cell? w _ hc; exact this) h
/-- parts that lie from M on -/
structure PAt (M : Nat) (A : Option Addr) (n : Nat) (l : List PartV) (w : World) : Prop where
  rd : Rd w 3 A n (l.flatMap partCells)
  len : l.length = n
  hi : ∀ a, A = some a → M ≤ a.block
theorem PAt.mono {M M' n : Nat} {A : Option Addr} {l : List PartV} {w : World} (h : PAt M A n l w) (hm : M' ≤ M) : PAt M' A n l w := ⟨h.rd, h.len, fun a e => Nat.le_trans hm (h.hi a e)⟩
theorem PAt.nil (M : Nat) (w : World) : PAt M none 0 [] w := ⟨Rd.nil _ _ _, rfl, fun _ e => by cases e⟩
/-- a state lies so -/
def StAt (v : St × Nat) (B : Nat) (w : World) (e : Ending) (w' : World) : Prop :=
  ∃ A n c, e = .returned (.tuple #[stVal A n c v.1, .int .i64 v.2]) ∧ PAt B A n v.1.Parts w' ∧ Below B w w'
theorem seven {w : World} {b : Nat} {v0 v1 v2 v3 v4 v5 v6 : Value} {T : TypeId} (h : w.heap[b]? = some (.cells #[v0, v1, v2, v3, v4, v5, v6] T (0, 0))) :
    w.cell? ⟨b, 0, none⟩ = some v0 ∧ w.cell? ⟨b, 1, none⟩ = some v1 ∧ w.cell? ⟨b, 2, none⟩ = some v2 ∧ w.cell? ⟨b, 3, none⟩ = some v3 ∧ w.cell? ⟨b, 4, none⟩ = some v4 ∧ w.cell? ⟨b, 5, none⟩ = some v5 ∧ w.cell? ⟨b, 6, none⟩ = some v6 ∧ ∀ j, w.frozen? ⟨b, j, none⟩ = false :=
  ⟨by rw [Lib.cell_of_heap h]; rfl, by rw [Lib.cell_of_heap h]; rfl, by rw [Lib.cell_of_heap h]; rfl, by rw [Lib.cell_of_heap h]; rfl, by rw [Lib.cell_of_heap h]; rfl, by rw [Lib.cell_of_heap h]; rfl, by rw [Lib.cell_of_heap h]; rfl, fun j => Lib.frozen_of_heap h j⟩
theorem four {w : World} {b : Nat} {v0 v1 v2 v3 : Value} {T : TypeId} (h : w.heap[b]? = some (.cells #[v0, v1, v2, v3] T (0, 0))) :
    w.cell? ⟨b, 0, none⟩ = some v0 ∧ w.cell? ⟨b, 1, none⟩ = some v1 ∧ w.cell? ⟨b, 2, none⟩ = some v2 ∧ w.cell? ⟨b, 3, none⟩ = some v3 ∧ ∀ j, w.frozen? ⟨b, j, none⟩ = false :=
  ⟨by rw [Lib.cell_of_heap h]; rfl, by rw [Lib.cell_of_heap h]; rfl, by rw [Lib.cell_of_heap h]; rfl, by rw [Lib.cell_of_heap h]; rfl, fun j => Lib.frozen_of_heap h j⟩
theorem PAt.set {M n b j : Nat} {A : Option Addr} {l : List PartV} {w : World} (h : PAt M A n l w) (hb : b < M) (u : Value) : PAt M A n l (w.setCell ⟨b, j, none⟩ u) :=
  ⟨⟨h.rd.1, fun hn => by
    obtain ⟨g, off, e, hlt, hc⟩ := h.rd.2 hn
    have := h.hi _ e
    exact ⟨g, off, e, by simpa [World.setCell] using hlt, fun i v hv => by rw [World.cell?_setCell_other _ _ _ _ (by simp only at this; simp only [ne_eq, Addr.mk.injEq]; omega)]; exact hc i v hv⟩⟩, h.len, h.hi⟩
theorem PAt.drew {M n : Nat} {A : Option Addr} {l : List PartV} {w : World} (h : PAt M A n l w) : PAt M A n l w.drew := ⟨h.rd, h.len, h.hi⟩
theorem PAt.below {M n : Nat} {A : Option Addr} {l : List PartV} {w w' : World} (h : PAt M A n l w) (hb : Below w.heap.size w w') : PAt M A n l w' := ⟨h.rd.below hb, h.len, h.hi⟩
theorem PAt.of {M n c : Nat} {A : Option Addr} {l : List PartV} {w : World} (h : Lie (fun k => k < M) 40 3 (.slice A n c) n (l.flatMap partCells) w) (hn : l.length = n) : PAt M A n l w :=
  ⟨h.rd, hn, fun a e => by subst e; exact Nat.not_lt.1 fun hk => h.2 a.block rfl hk⟩

end Go.Proofs.YtbheoahpaidpmaaDoor
