/-
  What the walks of this claim stand on: WLaw, DeltaPlain, one behind the other.
-/
import Derived.Test.YtmafdbdmmfpeeaaPackE
import Derived.Test.YtmafdbdmmfpeeaaPackG
import Derived.Test.YtmafdbdmmfpeeaaPackB
/-! WLaw -/
namespace Go.Proofs.Ytmafdbdmmfpeeaa
open Go Go.RowKit

/-- a number's code put behind, with a k that may be -/
def DoesOk (b : Nat) (s : WSt) (F : Nat → Prop) (w : World) (e : Ending) (w' : World) : Prop := e = .returned (.int .i64 0) ∧ ∃ F', WrF b s F' w' ∧ Frm F F' w w'

theorem riceF0 (b : Nat) (s : WSt) (F : Nat → Prop) (n k : Nat) (w : World) (h : WrF b s F w) (hok : s.ok) (hn : n < 18446744073709551616) (hk : k ≤ 40) (hl : s.L.length < 1099511626000) :
    Calls Try.prog 42 #[.pointer (some ⟨b, 0, none⟩), .int .u64 n, .int .i64 k] w (DoesOk b (s.rice n k) F w) :=
  (rice_any _ b s n k w h.says hok hn hk hl h.old).mono fun _ _ ⟨h1, h2, h3⟩ => ⟨h1, h.shut (wr_local b _) h2 h3⟩

theorem newW (w : World) : WrF w.heap.size WSt.none (fun k => k = w.heap.size) (w.alloc (.cells #[.pointer none, .slice none 0 0, .int .u64 0, .int .i64 0] 109)) :=
  newF w _ _ _ fun _ hR => new_wr (heap_alloc_new w _) hR

theorem sbits_S (L : List UInt8) : sbits (S L) = bitsOf L := by unfold sbits; rw [S_toList]

theorem none_bits : WSt.none.bits = [] := rfl

/-- what is left behind all numbers -/
theorem end_pad (m : Nat) (hm : m < 8) : endE (List.replicate (pad m) false) = 0 := by
  unfold endE
  rw [if_neg]
  rw [List.length_replicate]
  intro h
  rcases h with h | h
  · unfold pad at h; split at h <;> omega
  · exact h (numB_zero.2 fun b hb => (List.mem_replicate.1 hb).2)

theorem bits_mod {s : WSt} (h : s.m < 8) : s.m = s.bits.length % 8 := by rw [bits_len]; omega

/-- writers of the same bits have the same bytes -/
theorem out_eq {s t : WSt} (hs : s.m < 8) (ht : t.m < 8) (h : s.bits = t.bits) : s.out = t.out := by
  apply bitsOf_inj
  rw [out_bits hs, out_bits ht, bits_mod hs, bits_mod ht, h]

theorem out_len (s : WSt) : s.out.length ≤ s.L.length + 1 := by unfold WSt.out; split <;> simp

theorem rdr_stays {R : Nat → Prop} {T : TypeId} {c p : Nat} {s : ByteArray} {w w' : World} (h : Stays R w w') (hc : R c) (hr : RdrOf T c s p w) : RdrOf T c s p w' := by
  unfold RdrOf at *; rw [h.block c hc]; exact hr
end Go.Proofs.Ytmafdbdmmfpeeaa

/-! DeltaPlain -/
namespace Go.Proofs.Ytmafdbdmmfpeeaa
open Go Go.RowKit

/-- the writer behind pairs of numbers -/
def wrN (ps : List (Nat × Nat)) (a b : Nat) : WSt := ps.foldl (fun s p => (s.rice p.1 a).rice p.2 b) WSt.none
theorem wrN_nil (a b : Nat) : wrN [] a b = WSt.none := rfl
theorem wrN_snoc (ps : List (Nat × Nat)) (p : Nat × Nat) (a b : Nat) : wrN (ps ++ [p]) a b = ((wrN ps a b).rice p.1 a).rice p.2 b := by simp [wrN]
theorem wrN_next {ps : List (Nat × Nat)} {xs ys : List Nat} (hx : ps.map Prod.fst = xs) (hy : ps.map Prod.snd = ys) {j : Nat} (h : j < xs.length) (h' : j < ys.length) (a b : Nat) :
    wrN (ps.take (j + 1)) a b = ((wrN (ps.take j) a b).rice xs[j] a).rice ys[j] b := by
  subst hx hy
  rw [List.take_succ_eq_append_getElem (by simpa using h), wrN_snoc]
  simp
theorem list_snoc {α : Type} {Pr : List α → Prop} (h0 : Pr []) (h1 : ∀ l x, Pr l → Pr (l ++ [x])) (l : List α) : Pr l := by
  have key : ∀ n (l : List α), l.length = n → Pr l := by
    intro n
    induction n with
    | zero => intro l hl; rw [List.eq_nil_of_length_eq_zero hl]; exact h0
    | succ n ih =>
      intro l hl
      have hne : l ≠ [] := by intro e; rw [e] at hl; simp at hl
      rw [← List.dropLast_concat_getLast hne]
      exact h1 _ _ (ih _ (by simp [hl]))
  exact key _ l rfl
theorem wrN_ok {a b : Nat} (ha : a ≤ 40) (hb : b ≤ 40) (ps : List (Nat × Nat)) : (wrN ps a b).ok ∧ (wrN ps a b).L.length ≤ 40 * ps.length := by
  induction ps using list_snoc with
  | h0 => exact ⟨none_ok, Nat.le_refl _⟩
  | h1 ps p ih =>
    rw [wrN_snoc]
    obtain ⟨h1, h2⟩ := rice_ok (n := p.1) (k := a) ih.1 ha
    obtain ⟨h3, h4⟩ := rice_ok (n := p.2) (k := b) h1 hb
    refine ⟨h3, ?_⟩
    have := ih.2
    rw [List.length_append, List.length_singleton]
    omega
def bits2 (ps : List (Nat × Nat)) (a b : Nat) : List Bool := ps.flatMap fun p => codeL p.1 a ++ codeL p.2 b
theorem wrN_bits (ps : List (Nat × Nat)) (a b : Nat) : (wrN ps a b).bits = bits2 ps a b := by
  induction ps using list_snoc with
  | h0 => rfl
  | h1 ps p ih => rw [wrN_snoc, rice_is, rice_is, ih]; simp [bits2]

def bestT (l : List Sample) : Nat := bestN ((nums l).map Prod.fst) 40
def bestV (l : List Sample) : Nat := bestN ((nums l).map Prod.snd) 40
theorem bestT_le (l : List Sample) : bestT l ≤ 40 := bestN_le _ _
theorem bestV_le (l : List Sample) : bestV l ≤ 40 := bestN_le _ _
/-- the bytes of the first sample; of those behind it -/
def firstB (l : List Sample) : List UInt8 := uint (sAt l 0).T.toNat ++ uint (foldN (sAt l 0).V)
def bodyB (l : List Sample) : List UInt8 := [UInt8.ofNat (bestT l), UInt8.ofNat (bestV l)] ++ (wrN (nums l) (bestT l) (bestV l)).out
def encB (l : List Sample) : List UInt8 := uint l.length ++ (if l.length = 0 then [] else firstB l) ++ (if l.length < 2 then [] else bodyB l)
end Go.Proofs.Ytmafdbdmmfpeeaa
