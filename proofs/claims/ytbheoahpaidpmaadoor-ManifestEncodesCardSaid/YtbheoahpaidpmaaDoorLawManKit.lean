/-
  A state in a variable of a law's own.
-/
import Derived.Test.YtbheoahpaidpmaaDoorPackG
namespace Go.Proofs.YtbheoahpaidpmaaDoor
open Go Go.RowKit

/-- a state in a variable: its cells, its parts -/
structure Var (w : World) (b : Nat) (T : TypeId) (A : Option Addr) (n c : Nat) (s : St) : Prop where
  blk : w.heap[b]? = some (.cells (stC A n c s) T (0, 0))
  rd : Rd w 3 A n (s.Parts.flatMap partCells)
  len : s.Parts.length = n
theorem Var.lt {w : World} {b : Nat} {T : TypeId} {A : Option Addr} {n c : Nat} {s : St} (h : Var w b T A n c s) : b < w.heap.size := (Array.getElem?_eq_some_iff.1 h.blk).1
theorem Var.below {w w' : World} {b : Nat} {T : TypeId} {A : Option Addr} {n c : Nat} {s : St} (h : Var w b T A n c s) (hb : Below w.heap.size w w') : Var w' b T A n c s :=
  ⟨(hb.block b h.lt).trans h.blk, h.rd.below hb, h.len⟩
theorem Var.new {w : World} {b : Nat} {T : TypeId} {A : Option Addr} {n c : Nat} {s : St} (hb : w.heap.size = b) (hr : Rd w 3 A n (s.Parts.flatMap partCells)) (hn : s.Parts.length = n) : Var (w.alloc (.cells (stC A n c s) T)) b T A n c s :=
  ⟨by rw [← hb]; exact heap_alloc_new _ _, hr.below (Below.one _ _), hn⟩
theorem Var.drew {w : World} {b : Nat} {T : TypeId} {A : Option Addr} {n c : Nat} {s : St} (h : Var w b T A n c s) : Var w.drew b T A n c s := ⟨h.blk, h.rd, h.len⟩
theorem appV_ok {s : St} {k : Nat} (h : OkFor s k) (e : Ed) : OkFor (appV s e).1 (k + 1) := by
  cases ha : applyS s e with
  | none => rw [appV_none ha]; exact OkFor.zero _
  | some t => rw [appV_some ha]; exact h.app ha
/-- a cut: ways that meet in a goal that is not typed out -/
theorem cut5 {α β γ δ ε : Type} {C : Prop} (F : α → β → γ → δ → ε → Prop) {G : α → β → γ → δ → ε → Prop} (h1 : (∀ a b c d e, F a b c d e → G a b c d e) → C) (h2 : ∀ a b c d e, F a b c d e → G a b c d e) : C := h1 h2
theorem cut8 {α β γ δ ε ζ η θ : Type} {C : Prop} (F : α → β → γ → δ → ε → ζ → η → θ → Prop) {G : α → β → γ → δ → ε → ζ → η → θ → Prop} (h1 : (∀ a b c d e f g h, F a b c d e f g h → G a b c d e f g h) → C) (h2 : ∀ a b c d e f g h, F a b c d e f g h → G a b c d e f g h) : C := h1 h2
theorem _root_.Go.RowKit.Below.then' {a b c : World} (h : Below a.heap.size a b) (k : Below b.heap.size b c) : Below a.heap.size a c := h.then k
end Go.Proofs.YtbheoahpaidpmaaDoor
