/-
  A set of texts: a map of the call's own, looked into and stored into.
-/
import Derived.Test.YtbheoahpaidpmaaDoorLawManKit
import Derived.Maps.Own
import Derived.Maps.Views
namespace Go.Proofs.YtbheoahpaidpmaaDoor
open Go Go.RowKit

def SetAt (w : World) (b n : Nat) (M : List UInt8 → Bool) : Prop :=
  ∃ D : DataW Unit, w.ownsMap Tryd.prog 9 (plainElem Tryd.prog 4) b n D ∧ Maps.IsMap D ∧ ∀ f, D.atKey (.string f) (.lit (.bool false)) = .lit (.bool (M f))
theorem SetAt.made (w : World) : SetAt (w.alloc (.map #[] 0)) w.heap.size 0 (fun _ => false) :=
  ⟨.map [], World.ownsMap_made w _ _ _, Maps.isMap_empty, fun _ => rfl⟩
theorem SetAt.below {w w' : World} {b n : Nat} {M : List UInt8 → Bool} (h : SetAt w b n M) (hb : Below w.heap.size w w') : SetAt w' b n M := by
  obtain ⟨D, h1, h2, h3⟩ := h
  refine ⟨D, ?_, h2, h3⟩
  have hlt := h1.lt
  obtain ⟨es, clock, hb', F, hs, hD⟩ := h1
  exact ⟨es, clock, (hb.block b hlt).trans hb', F, hs, hD⟩
theorem SetAt.lt {w : World} {b n : Nat} {M : List UInt8 → Bool} (h : SetAt w b n M) : b < w.heap.size := by
  obtain ⟨D, h1, -, -⟩ := h
  exact h1.lt
theorem plainElem_bool_inv {P : Program} {e : TypeId} (he : P.underlying e = some .bool) {v : Value} {z : DataW Unit × List MemPlace} (h : plainElem P e v = some z) : ∃ x, v = .bool x ∧ z = (.lit (.bool x), []) := by
  unfold plainElem at h
  rw [he] at h
  cases v <;> simp only [reduceCtorEq] at h
  rename_i x
  exact ⟨x, rfl, (Option.some.inj h).symm⟩
theorem setKey (f : List UInt8) (hf : f.length ≤ 1000000000) : keyOf Tryd.prog 9 (.string (S f)) = some (.string f) := by
  have := Go.WideMaps.keyOf_string_mk (P := Tryd.prog) Tryd.underlying9 (s := S f) (by rw [S_size]; unfold maxLen; omega)
  rwa [S_toList] at this
/-- m[f] -/
theorem SetAt.look {w : World} {b n : Nat} {M : List UInt8 → Bool} (h : SetAt w b n M) (f : List UInt8) (hf : f.length ≤ 1000000000) :
    (Instr.lookup 100 (.map (some b)) (.string (S f)) false).run Tryd.prog w = .ok (.bool (M f)) w := by
  obtain ⟨D, h1, h2, h3⟩ := h
  obtain ⟨v, ps, hrun, hv⟩ := h1.lookup (Maps.string_keyed Tryd.underlying9) Tryd.underlying100 (z := .bool false) (by kernel_rfl) (plainElem_bool Tryd.underlying4 false) (setKey f hf)
  obtain ⟨x, rfl, hx⟩ := plainElem_bool_inv Tryd.underlying4 hv
  rw [h3 f] at hx
  simp only [Prod.mk.injEq, DataW.lit.injEq, Lit.bool.injEq] at hx
  rw [hrun, hx.1]
/-- m[f] = true -/
theorem SetAt.put {w : World} {b n : Nat} {M : List UInt8 → Bool} (h : SetAt w b n M) (hn : n < maxLen) (f : List UInt8) (hf : f.length ≤ 1000000000) :
    ∃ w', (Instr.mapUpdate 100 (.map (some b)) (.string (S f)) (.bool true)).run Tryd.prog w = .ok () w' ∧ SetAt w' b (n + 1) (fun g => decide (g = f) || M g) ∧ w.grownBy w' (some b) := by
  obtain ⟨D, h1, h2, h3⟩ := h
  obtain ⟨w', hrun, hown, hg⟩ := h1.update (Maps.string_keyed Tryd.underlying9) Tryd.underlying100 hn (setKey f hf) (plainElem_bool Tryd.underlying4 true)
  refine ⟨w', hrun, ⟨_, hown, h2.put _ _, fun g => ?_⟩, hg⟩
  by_cases hgf : g = f
  · subst hgf
    rw [Maps.atKey_put_same h2 (by trivial)]
    simp
  · rw [Maps.atKey_put_other (by simpa using hgf), h3 g]
    simp [hgf]
end Go.Proofs.YtbheoahpaidpmaaDoor
