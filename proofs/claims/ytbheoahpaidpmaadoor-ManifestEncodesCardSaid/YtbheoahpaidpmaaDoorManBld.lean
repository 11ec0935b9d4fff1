/-
  A strings.Builder of the call's own: whatever else lies there, but rows of bytes made since, stands.
-/
import Derived.Test.YtbheoahpaidpmaaDoorStrW
import Derived.Test.YtbheoahpaidpmaaDoorLawManKit
namespace Go.Proofs.YtbheoahpaidpmaaDoor
open Go Go.RowKit

/-- what is older than B0, and what is no row of bytes -/
def NB (B0 : Nat) (w : World) (k : Nat) : Prop := k < w.heap.size ∧ (k < B0 ∨ ∀ cs f, w.heap[k]? ≠ some (.cells cs 5 f))
theorem NB.old (B0 : Nat) (w : World) : Old (NB B0 w) w := fun _ h => h.1
def BldAt (B0 b : Nat) (l : List UInt8) (w : World) : Prop := B0 ≤ b ∧ Bld (NB B0 w) b 82 [] l w
/-- all that counts, but b, stands -/
def Kp (B0 b : Nat) (w w' : World) : Prop := Beside (NB B0 w) b w w'
theorem lie_block {R : Nat → Prop} {e : TypeId} {size n : Nat} {v : Value} {xs : List Value} {w : World} (h : Lie R e size v n xs w) {g : Nat} (hg : v.ownBlock = some g) : ∃ cur, w.heap[g]? = some (.cells cur e (0, 0)) := by
  obtain ⟨⟨-, h1⟩, -⟩ := h
  rcases h1 with ⟨rfl, -⟩ | ⟨g', cap, cur, rfl, -, hh, -⟩
  · simp [Value.ownBlock] at hg
  · have : g' = g := by simpa [Value.ownBlock] using hg
    subst this
    exact ⟨cur, hh⟩
/-- the row lies in no block that counts -/
theorem bld_at {B0 b : Nat} {l : List UInt8} {R : Nat → Prop} {w : World} (h : Bld R b 82 [] l w) (hb : B0 ≤ b) (hR : ∀ k, k < B0 → R k) : BldAt B0 b l w := by
  obtain ⟨-, hf, p, v, hp, hh, hl⟩ := h
  refine ⟨hb, ⟨?_, .inr fun cs f e => ?_⟩, hf, p, v, hp, hh, hl.shift fun g hg hN => ?_⟩
  · exact (Array.getElem?_eq_some_iff.1 hh).1
  · rw [hh] at e
    simp at e
  · obtain ⟨cur, hc⟩ := lie_block hl hg
    rcases hN.2 with h1 | h1
    · exact hl.2 g hg (hR g h1)
    · exact h1 _ _ hc
theorem BldAt.new (w : World) (B0 : Nat) (hB : B0 ≤ w.heap.size) : BldAt B0 w.heap.size [] (w.alloc (.cells #[.pointer none, .slice none 0 0] 82)) := by
  have hh := heap_alloc_new w (.cells #[.pointer none, .slice none 0 0] 82)
  refine bld_at (R := fun k => k < w.heap.size + 1) (fresh_later hh fits_alone (by show _ < _; omega)) hB fun k hk => by show k < _; omega
theorem Kp.refl (B0 b : Nat) (w : World) : Kp B0 b w w := Beside.refl _ _ _
theorem Kp.trans {B0 b : Nat} {a c d : World} (h : Kp B0 b a c) (k : Kp B0 b c d) : Kp B0 b a d := by
  refine ⟨k.os.trans h.os, k.tape.trans h.tape, k.output.trans h.output, Nat.le_trans h.size k.size, fun j hj hjb => ?_⟩
  have e1 := h.block j hj hjb
  refine (k.block j ⟨Nat.lt_of_lt_of_le hj.1 h.size, ?_⟩ hjb).trans e1
  rcases hj.2 with h1 | h1
  · exact .inl h1
  · exact .inr fun cs f e => h1 cs f (e1.symm.trans e)
theorem Kp.below {B0 b : Nat} {w w' : World} (h : Below w.heap.size w w') : Kp B0 b w w' := ⟨h.os, h.tape, h.output, h.size, fun k hk _ => h.block k hk.1⟩
theorem Kp.cells {B0 b : Nat} {w w' : World} (h : Kp B0 b w w') {k : Nat} {cs : Array Value} {T : TypeId} {f : Nat × Nat} (hk : w.heap[k]? = some (.cells cs T f)) (hT : T ≠ 5) (hb : k ≠ b) : w'.heap[k]? = some (.cells cs T f) :=
  (h.block k ⟨(Array.getElem?_eq_some_iff.1 hk).1, .inr fun cs' f' e => by rw [hk] at e; simp at e; exact hT e.2.1⟩ hb).trans hk
theorem Kp.old {B0 b : Nat} {w w' : World} (h : Kp B0 b w w') {k : Nat} (hk : k < B0) (hs : k < w.heap.size) (hb : k ≠ b) : w'.heap[k]? = w.heap[k]? := h.block k ⟨hs, .inl hk⟩ hb
/-- from where the call began -/
theorem Kp.to {B0 b : Nat} {w0 w w' : World} (h : Kp B0 b w w') (hb : B0 ≤ b) (h0 : Below B0 w0 w) (hs : B0 ≤ w.heap.size) : Below B0 w0 w' :=
  ⟨h.os.trans h0.os, h.tape.trans h0.tape, h.output.trans h0.output, Nat.le_trans h0.size h.size, fun k hk => (h.old hk (by omega) (by omega)).trans (h0.block k hk)⟩
theorem BldAt.below {B0 b : Nat} {l : List UInt8} {w w' : World} (h : BldAt B0 b l w) (hb : Below w.heap.size w w') : BldAt B0 b l w' := by
  obtain ⟨h0, -, hf, p, v, hp, hh, hl⟩ := h
  have hlt := (Array.getElem?_eq_some_iff.1 hh).1
  refine bld_at (R := fun k => k < B0 ∨ k = b) ⟨.inr rfl, hf, p, v, hp, (hb.block b hlt).trans hh, (hl.below hb).shift fun g hg hN => ?_⟩ h0 fun k hk => .inl hk
  obtain ⟨cur, hc⟩ := lie_block hl hg
  have hgl := (Array.getElem?_eq_some_iff.1 hc).1
  rcases hN with h1 | h1
  · exact hl.2 g hg ⟨hgl, .inl h1⟩
  · subst h1
    rw [hh] at hc
    simp at hc
/-- a text written behind it -/
theorem wstr_at (B0 b : Nat) (l m : List UInt8) (w : World) (h : BldAt B0 b l w) (hB : B0 ≤ w.heap.size) (hl : l.length + m.length < 1000000000) :
    Calls Tryd.prog 43 #[.pointer (some ⟨b, 0, none⟩), .string (S m)] w fun e w' => (∃ v, e = .returned v) ∧ BldAt B0 b (l ++ m) w' ∧ Kp B0 b w w' := by
  refine (writeString_any (NB B0 w) b _ [] l (S m) w h.2 (by rw [S_size]; omega) (NB.old B0 w)).mono ?_
  rintro e w' ⟨hv, hb, hk, -⟩
  rw [S_toList] at hb
  exact ⟨hv, bld_at hb h.1 fun k hk => ⟨by omega, .inl hk⟩, hk⟩
theorem str_at (B0 b : Nat) (l : List UInt8) (w : World) (h : BldAt B0 b l w) :
    Calls Tryd.prog 46 #[.pointer (some ⟨b, 0, none⟩)] w fun e w' => e = .returned (.string (S l)) ∧ Kp B0 b w w' := by
  refine (string_any (NB B0 w) b _ [] l w h.2 (NB.old B0 w)).mono ?_
  rintro e w' ⟨he, hs⟩
  exact ⟨he, hs.beside⟩
end Go.Proofs.YtbheoahpaidpmaaDoor
