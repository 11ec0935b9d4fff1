/-
  Objects of the call's own, each in blocks of its own: the writer and the document's writer, side by side.
-/
import Derived.Test.YtjendmojkdkipaaVBytes
import Derived.Test.YtjendmojkdkipaaRBytes
namespace Go.Proofs.Ytjendmojkdkipaa
open Go Go.RowKit

/-- what an object at b says depends on b and on what its predicate leaves out -/
def Local (b : Nat) (O : (Nat → Prop) → World → Prop) : Prop :=
  ∀ R R' w w', O R w → R' b → (∀ k, k < w.heap.size → (k = b ∨ ¬ R k) → w'.heap[k]? = w.heap[k]?) → (∀ k, k < w.heap.size → R' k → R k) → O R' w'

def PrF (F : Nat → Prop) (b : Nat) (w : World) (k : Nat) : Prop := k < w.heap.size ∧ (¬ F k ∨ k = b)

/-- an object that lies at b, in the blocks F -/
structure InF (b : Nat) (O : (Nat → Prop) → World → Prop) (F : Nat → Prop) (w : World) : Prop where
  at_ : F b
  lt : ∀ k, F k → k < w.heap.size
  says : O (PrF F b w) w

theorem InF.old {b : Nat} {O : (Nat → Prop) → World → Prop} {F : Nat → Prop} {w : World} (_ : InF b O F w) : Old (PrF F b w) w := fun _ h => h.1

theorem InF.shut {b : Nat} {O O' : (Nat → Prop) → World → Prop} (hL : Local b O') {F : Nat → Prop} {w w' : World} (h : InF b O F w) (h1 : O' (PrF F b w) w') (h2 : Beside (PrF F b w) b w w') : ∃ F', InF b O' F' w' ∧ Frm F F' w w' := by
  have hb := h.lt b h.at_
  refine ⟨fun k => F k ∨ (w.heap.size ≤ k ∧ k < w'.heap.size), ⟨.inl h.at_, ?_, ?_⟩, ⟨h2.os, h2.tape, h2.output, h2.size, ?_, ?_⟩⟩
  · intro k hk
    have := h2.size
    rcases hk with hk | hk
    · have := h.lt k hk; omega
    · exact hk.2
  · refine hL _ _ w' w' h1 ⟨by have := h2.size; omega, .inr rfl⟩ (fun _ _ _ => rfl) fun k hk hp => ?_
    have hlt : k < w.heap.size ∨ w.heap.size ≤ k := by omega
    rcases hp.2 with h3 | h3
    · rcases hlt with h4 | h4
      · exact ⟨h4, .inl fun e => h3 (.inl e)⟩
      · exact absurd (.inr ⟨h4, hk⟩) h3
    · exact ⟨by omega, .inr h3⟩
  · intro k hk hF
    exact h2.block k ⟨hk, .inl hF⟩ (fun e => hF (e ▸ h.at_))
  · intro k hk
    rcases hk with h3 | h3
    · exact .inl h3
    · exact .inr h3.1

theorem InF.later {b : Nat} {O : (Nat → Prop) → World → Prop} (hL : Local b O) {F : Nat → Prop} {w w' : World} (h : InF b O F w) (hs : w.heap.size ≤ w'.heap.size) (hF : ∀ k, F k → w'.heap[k]? = w.heap[k]?) : InF b O F w' := by
  have hb := h.lt b h.at_
  refine ⟨h.at_, fun k hk => Nat.lt_of_lt_of_le (h.lt k hk) hs, ?_⟩
  refine hL _ _ w w' h.says ⟨by omega, .inr rfl⟩ (fun k hk h1 => ?_) fun k hk hp => ⟨hk, hp.2⟩
  rcases h1 with rfl | h1
  · exact hF k h.at_
  · apply hF
    apply Classical.byContradiction
    intro h2
    exact h1 ⟨hk, .inl h2⟩

theorem InF.frm {b : Nat} {O : (Nat → Prop) → World → Prop} (hL : Local b O) {F G G' : Nat → Prop} {w w' : World} (h : InF b O F w) (hf : Frm G G' w w') (hd : ∀ k, G k → ¬ F k) : InF b O F w' :=
  h.later hL hf.size (hf.other hd h.lt)

theorem InF.below {b : Nat} {O : (Nat → Prop) → World → Prop} (hL : Local b O) {F : Nat → Prop} {w w' : World} (h : InF b O F w) (hf : Below w.heap.size w w') : InF b O F w' :=
  h.later hL hf.size fun k hk => hf.block k (h.lt k hk)

theorem wr_local (b : Nat) (s : WSt) : Local b (fun R => WrOf R b s) := by
  intro R R' w w' h hb hs hR
  obtain ⟨h1, hT, p, v, hp, hh, ho, hn⟩ := h
  have hlt : ∀ g, v.ownBlock = some g → g < w.heap.size := fun g hg => (ho.lt g hg).2
  refine ⟨hb, hT, p, v, hp, (hs b (Array.getElem?_eq_some_iff.1 hh).1 (.inl rfl)).trans hh, ?_⟩
  exact Lie.shift (Lie.later ⟨ho, hn⟩ fun g hg => hs g (hlt g hg) (.inr (hn g hg))) fun g hg hR' => hn g hg (hR g (hlt g hg) hR')

theorem ref_local (c : Nat) (l : List Bool) : Local c (fun R => RefOf R c l) := by
  intro R R' w w' h hb hs hR
  obtain ⟨h1, v, hh, ho, hn⟩ := h
  have hlt : ∀ g, v.ownBlock = some g → g < w.heap.size := fun g hg => (ho.lt g hg).2
  refine ⟨hb, v, (hs c (Array.getElem?_eq_some_iff.1 hh).1 (.inl rfl)).trans hh, ?_⟩
  exact Lie.shift (Lie.later ⟨ho, hn⟩ fun g hg => hs g (hlt g hg) (.inr (hn g hg))) fun g hg hR' => hn g hg (hR g (hlt g hg) hR')

instance (n : Nat) (k : Int) : Decidable (Fit n k) := by unfold Fit; infer_instance

/-- what Put answers, has, and writes -/
def putE (n : Nat) (k : Int) : Nat := if Fit n k then 0 else 1

def WSt.putS (s : WSt) (n : Nat) (k : Int) : WSt := if Fit n k then s.all n k.toNat else s

def putB (l : List Bool) (n : Nat) (k : Int) : List Bool := if Fit n k then l ++ lowL n k.toNat else l

def riceE (k : Int) : Nat := if 0 ≤ k ∧ k ≤ 40 then 0 else 1

def WSt.riceS (s : WSt) (n : Nat) (k : Int) : WSt := if 0 ≤ k ∧ k ≤ 40 then s.rice n k.toNat else s

def riceB (l : List Bool) (n : Nat) (k : Int) : List Bool := if 0 ≤ k ∧ k ≤ 40 then l ++ codeL n k.toNat else l

theorem putS_bits (s : WSt) (n : Nat) (k : Int) : (s.putS n k).bits = putB s.bits n k := by
  unfold WSt.putS putB
  split
  · rw [all_is]
  · rfl

theorem riceS_bits (s : WSt) (n : Nat) (k : Int) : (s.riceS n k).bits = riceB s.bits n k := by
  unfold WSt.riceS riceB
  split
  · rw [rice_is]
  · rfl

theorem putS_ok {s : WSt} {n : Nat} {k : Int} (h : s.ok) : (s.putS n k).ok ∧ (s.putS n k).L.length ≤ s.L.length + 20 := by
  unfold WSt.putS
  split
  · rename_i hf
    obtain ⟨h1, h2⟩ := all_ok k.toNat s n h
    have := hf.2.1
    exact ⟨h1, by omega⟩
  · exact ⟨h, by omega⟩

theorem riceS_ok {s : WSt} {n : Nat} {k : Int} (h : s.ok) : (s.riceS n k).ok ∧ (s.riceS n k).L.length ≤ s.L.length + 20 := by
  unfold WSt.riceS
  split
  · exact rice_ok h (by omega)
  · exact ⟨h, by omega⟩

theorem fit_len {n : Nat} {k : Int} (hn : n < 18446744073709551616) : Fit n k ↔ ¬ (k < 0 ∨ 64 < k ∨ k < (Lib.bitLen n : Int)) := by
  unfold Fit
  constructor
  · rintro ⟨h1, h2, h3⟩ h
    have := (bitLen_le_iff (x := n) (k := k.toNat) hn (by omega)).2 h3
    omega
  · intro h
    exact ⟨by omega, by omega, (bitLen_le_iff (x := n) (k := k.toNat) hn (by omega)).1 (by omega)⟩

theorem wrice_any (R : Nat → Prop) (b : Nat) (s : WSt) (n : Nat) (k : Int) (w : World) (h : WrOf R b s w) (hok : s.ok) (hn : n < 18446744073709551616) (hl : s.L.length < 1099511626000) (hR : Old R w) :
    Calls Try.prog 20 #[.pointer (some ⟨b, 0, none⟩), .int .u64 n, .int .i64 k] w fun e w' => e = .returned (.int .i64 (riceE k : Nat)) ∧ WrOf R b (s.riceS n k) w' ∧ Beside R b w w' := by
  unfold riceE WSt.riceS
  by_cases hf : 0 ≤ k ∧ k ≤ 40
  · rw [if_pos hf, if_pos hf]
    have := rice_any R b s n k.toNat w h hok hn (by omega) hl hR
    rwa [show ((k.toNat : Nat) : Int) = k by omega] at this
  · rw [if_neg hf, if_neg hf]
    refine (rice_no b n k w (by omega)).mono ?_
    rintro e w' ⟨rfl, rfl⟩
    exact ⟨rfl, h, Beside.refl _ _ _⟩

theorem rrice_any (R : Nat → Prop) (c : Nat) (l : List Bool) (n : Nat) (k : Int) (w : World) (h : RefOf R c l w) (hn : n < 18446744073709551616) (hl : l.length < 1099511626000) (hR : Old R w) :
    Calls Try.prog 27 #[.pointer (some ⟨c, 0, none⟩), .int .u64 n, .int .i64 k] w fun e w' => e = .returned (.int .i64 (riceE k : Nat)) ∧ RefOf R c (riceB l n k) w' ∧ Beside R c w w' := by
  unfold riceE riceB
  by_cases hf : 0 ≤ k ∧ k ≤ 40
  · rw [if_pos hf, if_pos hf]
    have := rrice_ok R c l n k.toNat w h hR hn (by omega) hl
    rwa [show ((k.toNat : Nat) : Int) = k by omega] at this
  · rw [if_neg hf, if_neg hf]
    refine (rrice_no c n k w (by omega)).mono ?_
    rintro e w' ⟨rfl, rfl⟩
    exact ⟨rfl, h, Beside.refl _ _ _⟩

/-- the writer, in blocks of its own -/
def WrF (b : Nat) (s : WSt) (F : Nat → Prop) (w : World) : Prop := InF b (fun R => WrOf R b s) F w

def RefF (c : Nat) (l : List Bool) (F : Nat → Prop) (w : World) : Prop := InF c (fun R => RefOf R c l) F w

/-- a call that does to an object what is said, and leaves all blocks but the object's -/
def DoesW (b : Nat) (s : WSt) (F : Nat → Prop) (v : Int) (w : World) (e : Ending) (w' : World) : Prop := e = .returned (.int .i64 v) ∧ ∃ F', WrF b s F' w' ∧ Frm F F' w w'

def DoesR (c : Nat) (l : List Bool) (F : Nat → Prop) (v : Int) (w : World) (e : Ending) (w' : World) : Prop := e = .returned (.int .i64 v) ∧ ∃ F', RefF c l F' w' ∧ Frm F F' w w'

theorem riceF (b : Nat) (s : WSt) (F : Nat → Prop) (n : Nat) (k : Int) (w : World) (h : WrF b s F w) (hok : s.ok) (hn : n < 18446744073709551616) (hl : s.L.length < 1099511626000) :
    Calls Try.prog 20 #[.pointer (some ⟨b, 0, none⟩), .int .u64 n, .int .i64 k] w (DoesW b (s.riceS n k) F (riceE k : Nat) w) :=
  (wrice_any _ b s n k w h.says hok hn hl h.old).mono fun _ _ ⟨h1, h2, h3⟩ => ⟨h1, h.shut (wr_local b _) h2 h3⟩

theorem rriceF (c : Nat) (l : List Bool) (F : Nat → Prop) (n : Nat) (k : Int) (w : World) (h : RefF c l F w) (hn : n < 18446744073709551616) (hl : l.length < 1099511626000) :
    Calls Try.prog 27 #[.pointer (some ⟨c, 0, none⟩), .int .u64 n, .int .i64 k] w (DoesR c (riceB l n k) F (riceE k : Nat) w) :=
  (rrice_any _ c l n k w h.says hn hl h.old).mono fun _ _ ⟨h1, h2, h3⟩ => ⟨h1, h.shut (ref_local c _) h2 h3⟩

theorem WrF.blk {b : Nat} {s : WSt} {F : Nat → Prop} {w : World} (h : WrF b s F w) : WBlk b s.L.length s.a s.m w := WrOf.blk (InF.says h)

/-- the writer's bytes: its own block stands, and all that is none of its -/
theorem bytesF (b : Nat) (s : WSt) (F : Nat → Prop) (w : World) (h : WrF b s F w) (hok : s.ok) (hl : s.L.length < 1099511626000) :
    Calls Try.prog 21 #[.pointer (some ⟨b, 0, none⟩)] w fun e w' => e = .returned (.string (S s.out)) ∧ Stays (PrF F b w) w w' :=
  bytes_any _ b s w h.says hok h.old hl

/-- a writer that was just made -/
theorem newF (w : World) (cs : Array Value) (T : TypeId) (O : (Nat → Prop) → World → Prop) (h : ∀ R : Nat → Prop, R w.heap.size → O R (w.alloc (.cells cs T))) : InF w.heap.size O (fun k => k = w.heap.size) (w.alloc (.cells cs T)) :=
  ⟨rfl, fun k hk => by subst hk; simp, h _ ⟨by simp, .inr rfl⟩⟩

/-- a writer and the document's one, in one world -/
structure Pair (B b c : Nat) (s : WSt) (L : List Bool) (F G : Nat → Prop) (w : World) : Prop where
  wr : WrF b s F w
  ref : RefF c L G w
  dis : ∀ k, F k → ¬ G k
  fb : ∀ k, F k → B ≤ k
  gb : ∀ k, G k → B ≤ k

theorem Pair.size {B b c : Nat} {s : WSt} {L : List Bool} {F G : Nat → Prop} {w : World} (h : Pair B b c s L F G w) : B ≤ w.heap.size := by
  have h1 := h.fb b h.wr.at_
  have h2 := h.wr.lt b h.wr.at_
  omega

theorem Pair.left {B b c : Nat} {s s' : WSt} {L : List Bool} {F F' G : Nat → Prop} {w w' : World} (h : Pair B b c s L F G w) (h1 : WrF b s' F' w') (h2 : Frm F F' w w') : Pair B b c s' L F' G w' ∧ Below B w w' :=
  ⟨⟨h1, h.ref.frm (ref_local c L) h2 h.dis, h2.apart h.dis h.ref.lt, fun k hk => (h2.new k hk).elim (h.fb k) (fun e => Nat.le_trans h.size e), h.gb⟩, h2.below h.size h.fb⟩

theorem Pair.right {B b c : Nat} {s : WSt} {L L' : List Bool} {F G G' : Nat → Prop} {w w' : World} (h : Pair B b c s L F G w) (h1 : RefF c L' G' w') (h2 : Frm G G' w w') : Pair B b c s L' F G' w' ∧ Below B w w' :=
  ⟨⟨h.wr.frm (wr_local b s) h2 (fun k hg hf => h.dis k hf hg), h1, fun k hf hg => h2.apart (fun k hg hf => h.dis k hf hg) h.wr.lt k hg hf, h.fb, fun k hk => (h2.new k hk).elim (h.gb k) (fun e => Nat.le_trans h.size e)⟩, h2.below h.size h.gb⟩

theorem Pair.below {B b c : Nat} {s : WSt} {L : List Bool} {F G : Nat → Prop} {w w' : World} (h : Pair B b c s L F G w) (hb : Below w.heap.size w w') : Pair B b c s L F G w' :=
  ⟨h.wr.below (wr_local b s) hb, h.ref.below (ref_local c L) hb, h.dis, h.fb, h.gb⟩

theorem Pair.cell {B b c : Nat} {s : WSt} {L : List Bool} {F G : Nat → Prop} {w : World} (h : Pair B b c s L F G w) (q : Nat) (hq : w.heap.size ≤ q) : ¬ F q ∧ ¬ G q :=
  ⟨fun e => by have := h.wr.lt q e; omega, fun e => by have := h.ref.lt q e; omega⟩
end Go.Proofs.Ytjendmojkdkipaa
