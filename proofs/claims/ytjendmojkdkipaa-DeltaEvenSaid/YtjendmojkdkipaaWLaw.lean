/-
  What the laws on a writer that is read back want.
-/
import Derived.Test.YtjendmojkdkipaaTwo
import Derived.Test.YtjendmojkdkipaaReader2
namespace Go.Proofs.Ytjendmojkdkipaa
open Go Go.RowKit

/-- a number's code put behind, with a k that may be -/
def DoesOk (b : Nat) (s : WSt) (F : Nat → Prop) (w : World) (e : Ending) (w' : World) : Prop := e = .returned (.int .i64 0) ∧ ∃ F', WrF b s F' w' ∧ Frm F F' w w'

theorem riceF0 (b : Nat) (s : WSt) (F : Nat → Prop) (n k : Nat) (w : World) (h : WrF b s F w) (hok : s.ok) (hn : n < 18446744073709551616) (hk : k ≤ 40) (hl : s.L.length < 1099511626000) :
    Calls Try.prog 20 #[.pointer (some ⟨b, 0, none⟩), .int .u64 n, .int .i64 k] w (DoesOk b (s.rice n k) F w) :=
  (rice_any _ b s n k w h.says hok hn hk hl h.old).mono fun _ _ ⟨h1, h2, h3⟩ => ⟨h1, h.shut (wr_local b _) h2 h3⟩

theorem newW (w : World) : WrF w.heap.size WSt.none (fun k => k = w.heap.size) (w.alloc (.cells #[.pointer none, .slice none 0 0, .int .u64 0, .int .i64 0] 71)) :=
  newF w _ _ _ fun _ hR => new_wr (heap_alloc_new w _) hR

theorem sbits_S (L : List UInt8) : sbits (S L) = bitsOf L := by unfold sbits; rw [S_toList]

theorem none_bits : WSt.none.bits = [] := rfl

/-- what is left behind all numbers -/
theorem end_pad (m : Nat) (hm : m < 8) : endE (List.replicate (pad m) false) = 0 := by
  unfold endE
  rw [if_neg]
  rw [List.length_replicate]
  intro h
  rcases h with h | h
  · unfold pad at h; split at h <;> omega
  · exact h (numB_zero.2 fun b hb => (List.mem_replicate.1 hb).2)

theorem bits_mod {s : WSt} (h : s.m < 8) : s.m = s.bits.length % 8 := by rw [bits_len]; omega

/-- writers of the same bits have the same bytes -/
theorem out_eq {s t : WSt} (hs : s.m < 8) (ht : t.m < 8) (h : s.bits = t.bits) : s.out = t.out := by
  apply bitsOf_inj
  rw [out_bits hs, out_bits ht, bits_mod hs, bits_mod ht, h]

theorem out_len (s : WSt) : s.out.length ≤ s.L.length + 1 := by unfold WSt.out; split <;> simp

theorem rdr_stays {R : Nat → Prop} {T : TypeId} {c p : Nat} {s : ByteArray} {w w' : World} (h : Stays R w w') (hc : R c) (hr : RdrOf T c s p w) : RdrOf T c s p w' := by
  unfold RdrOf at *; rw [h.block c hc]; exact hr
end Go.Proofs.Ytjendmojkdkipaa
