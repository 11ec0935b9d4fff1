/-
  Series that came in: a slice of a number and a slice of samples each.
-/
import Derived.Test.YtmafdbdmmfpeeaaSerKit
import Derived.Test.YtmafdbdmmfpeeaaMajP
namespace Go.Proofs.Ytmafdbdmmfpeeaa
open Go Go.RowKit Go.Deep Go.ChangeShapes Go.WideShapes

/-- a series as it lies: its number, where its samples lie -/
structure SerV where
  ID : Int
  A : Option Addr
  n : Nat
  c : Nat
def serCells (x : SerV) : List Value := [.int .i64 x.ID, .slice x.A x.n x.c]
theorem serCells_length (x : SerV) : (serCells x).length = 2 := rfl
def serVal (x : SerV) : Value := .agg #[.int .i64 x.ID, .slice x.A x.n x.c]
/-- a series that lies so holds these samples -/
structure SerAt (w : World) (x : SerV) (s : Ser) : Prop where
  id : s.ID = x.ID
  len : s.L.length = x.n
  rd : Rd w 2 x.A x.n (s.L.flatMap sampleCells)
theorem SerAt.below {w w' : World} {x : SerV} {s : Ser} (h : SerAt w x s) (hb : Below w.heap.size w w') : SerAt w' x s := ⟨h.id, h.len, h.rd.below hb⟩
/-- series lie at A: the elements, and what these hold -/
structure SersAt (w : World) (A : Option Addr) (xs : List SerV) (l : List Ser) : Prop where
  len : l.length = xs.length
  rd : Rd w 2 A xs.length (xs.flatMap serCells)
  at_ : ∀ i, (h : i < xs.length) → SerAt w xs[i] (l[i]'(by omega))
theorem SersAt.below {w w' : World} {A : Option Addr} {xs : List SerV} {l : List Ser} (h : SersAt w A xs l) (hb : Below w.heap.size w w') : SersAt w' A xs l := ⟨h.len, h.rd.below hb, fun i hi => (h.at_ i hi).below hb⟩
/-- what is true of series that came in -/
def SerOk (x : SerV) (s : Ser) : Prop := In64 x.ID ∧ (∀ y ∈ s.L, Sample.ok y) ∧ x.n ≤ x.c ∧ x.c ≤ maxLen
section
variable {H : Type} {enc : TypeId × Value → H} {w : World}
/-- a slice that lies in a cell, element by element -/
theorem read_inner {α : Type} {cells : α → List Value} {R : α → Prop} {C : Nat} (hC : ∀ x, (cells x).length = C) (hp : 0 < C) {P : Program} {t e : TypeId} {v : Value} {fuel : Nat} {y : DataW H × List MemPlace}
    (ht : P.underlying t = some (.slice e)) (hCe : P.cellsOf e = C)
    (elem : ∀ n cs y, cs.length = C → DataW.trod enc P w 0 (fun _ => true) true n e cs = some y → ∃ x, cs = cells x ∧ R x)
    (hf : DataW.trod enc P w 0 (fun _ => true) true fuel t [v] = some y) :
    ∃ A c, ∃ xs : List α, v = .slice A xs.length c ∧ Rd w C A xs.length (xs.flatMap cells) ∧ (∀ x ∈ xs, R x) ∧ xs.length ≤ c ∧ c ≤ maxLen := by
  rcases open_slice ht hf with ⟨hcs, _⟩ | ⟨a, len', cap', m, n, D, Pl, hcs, _, hl, hm, hmm, _, hel⟩
  · simp at hcs
    subst hcs
    exact ⟨none, 0, [], rfl, Rd.nil _ _ _, by simp, by simp, by simp⟩
  · simp at hcs
    subst hcs
    rw [if_pos rfl] at hmm
    subst hmm
    have hx : ∀ i, i < len' → ∃ x : α, (∀ j u, (cells x)[j]? = some u → w.cell? (a.add (i * C + j)) = some u) ∧ R x := by
      intro i hi
      obtain ⟨cs', hcs', htr⟩ := hel i (by omega)
      rw [hCe] at hcs'
      obtain ⟨_, hlen, hat⟩ := World.cells?_some hcs'
      obtain ⟨x, hx, hR⟩ := elem n cs' _ hlen htr
      refine ⟨x, fun j u hu => ?_, hR⟩
      rw [← hx] at hu
      have hj : j < C := by have := (List.getElem?_eq_some_iff.1 hu).1; omega
      rw [← Go.Deep.add_add, hat j hj, hu]
    obtain ⟨xs, hxl, hxs⟩ : ∃ xs : List α, xs.length = len' ∧ ∀ i (hi : i < xs.length), (∀ j u, (cells xs[i])[j]? = some u → w.cell? (a.add (i * C + j)) = some u) ∧ R xs[i] := by
      clear hf hel
      have key : ∀ m, m ≤ len' → ∃ xs : List α, xs.length = m ∧ ∀ i (hi : i < xs.length), (∀ j u, (cells xs[i])[j]? = some u → w.cell? (a.add (i * C + j)) = some u) ∧ R xs[i] := by
        intro m
        induction m with
        | zero => exact fun _ => ⟨[], rfl, fun i hi => absurd hi (by simp)⟩
        | succ m ih =>
          intro hm
          obtain ⟨xs, h1, h2⟩ := ih (by omega)
          obtain ⟨x, h3⟩ := hx m (by omega)
          refine ⟨xs ++ [x], by simp [h1], fun i hi => ?_⟩
          by_cases hi' : i < xs.length
          · rw [List.getElem_append_left hi']; exact h2 i hi'
          · obtain rfl : i = xs.length := by simp at hi; omega
            rw [List.getElem_append_right (Nat.le_refl _)]
            simp only [Nat.sub_self, List.getElem_cons_zero]
            rw [h1]; exact h3
      exact key len' (Nat.le_refl _)
    subst hxl
    refine ⟨some a, _, xs, rfl, ⟨flatMap_length hC xs, fun hn => ?_⟩, fun x hx' => ?_, hl, hm⟩
    · obtain ⟨b, off, sp⟩ := a
      have h0 := (hxs 0 hn).1 0 ((cells xs[0])[0]'(by rw [hC]; exact hp)) (List.getElem?_eq_getElem _)
      have hsp : sp = none := by
        have := World.cell?_spot h0
        simpa [Addr.add] using this
      subst hsp
      refine ⟨b, off, rfl, ?_, fun j u hu => ?_⟩
      · have := World.block_lt_of_cell? w _ h0
        rwa [add_none] at this
      · have hjl : j < xs.length * C := by have := (List.getElem?_eq_some_iff.1 hu).1; rwa [flatMap_length hC] at this
        have hmod : j = j / C * C + j % C := by rw [Nat.mul_comm]; exact (Nat.div_add_mod j C).symm
        have hdiv : j / C < xs.length := Nat.div_lt_of_lt_mul (by rw [Nat.mul_comm]; exact hjl)
        rw [hmod, flatMap_get hC xs _ _ (Nat.mod_lt _ hp), List.getElem?_eq_getElem hdiv] at hu
        have := (hxs _ hdiv).1 _ u hu
        rwa [← hmod, add_none] at this
    · obtain ⟨i, hi, rfl⟩ := List.getElem_of_mem hx'
      exact (hxs i hi).2
set_option maxRecDepth 100000 in
theorem inner_samples {n : Nat} {v : Value} {y : DataW H × List MemPlace} (hf : DataW.trod enc Try.prog w 0 (fun _ => true) true n 26 [v] = some y) :
    ∃ A c, ∃ xs : List Sample, v = .slice A xs.length c ∧ Rd w 2 A xs.length (xs.flatMap sampleCells) ∧ (∀ x ∈ xs, Sample.ok x) ∧ xs.length ≤ c ∧ c ≤ maxLen :=
  read_inner sampleCells_length (by decide) Try.underlying26 (by kernel_rfl) sample_elem hf
set_option maxRecDepth 100000 in
theorem ser_elem : ∀ n cs y, cs.length = 2 → DataW.trod enc Try.prog w 0 (fun _ => true) true n 39 cs = some y → ∃ x, cs = serCells x ∧ ∃ s, SerAt w x s ∧ SerOk x s := by
  intro n cs y hl h
  obtain ⟨_, m, hf⟩ := trod_fields Try.underlying39 (by kernel_rfl) h
  obtain ⟨v0, y0, e0, h0⟩ := hf 0 _ rfl (by omega)
  obtain ⟨v1, y1, e1, h1⟩ := hf 1 _ rfl (by omega)
  obtain ⟨a, ha, _, wa⟩ := DataW.trod_int Try.underlying3 h0
  obtain ⟨A, c, xs, rfl, hr, ho, hc, hm⟩ := inner_samples h1
  simp at ha
  subst ha
  refine ⟨⟨a, A, xs.length, c⟩, ?_, ⟨a, xs⟩, ⟨rfl, rfl, hr⟩, bounds_i64 wa, ho, hc, hm⟩
  match cs, hl with
  | [p, q], _ =>
    simp at e0 e1
    subst e0 e1
    rfl
set_option maxRecDepth 100000 in
theorem read_series {v : Value} {d : DataW H} {p : List MemPlace} {r : Reach} {b0 : Nat} (hv : Value.okWide Try.prog w r b0 31 v) (h : DataW.Trod enc Try.prog w 0 (fun _ => true) true 31 v d p) :
    ∃ A c, ∃ (xs : List SerV) (l : List Ser), v = .slice A xs.length c ∧ SersAt w A xs l ∧ (∀ i, (h1 : i < xs.length) → (h2 : i < l.length) → SerOk xs[i] l[i]) ∧ xs.length ≤ c ∧ c ≤ maxLen := by
  obtain ⟨A, c, xs, rfl, hr, ho, hc, hm⟩ := read_slice serCells_length (by decide) Try.underlying31 (by kernel_rfl) (R := fun x => ∃ s, SerAt w x s ∧ SerOk x s) ser_elem hv h
  have key : ∀ xs : List SerV, (∀ x ∈ xs, ∃ s, SerAt w x s ∧ SerOk x s) → ∃ l : List Ser, l.length = xs.length ∧ ∀ i, (h1 : i < xs.length) → (h2 : i < l.length) → SerAt w xs[i] l[i] ∧ SerOk xs[i] l[i] := by
    intro xs
    induction xs with
    | nil => intro _; exact ⟨[], rfl, fun i h1 => absurd h1 (by simp)⟩
    | cons x xs ih =>
      intro h
      obtain ⟨s, hs⟩ := h x (List.mem_cons_self ..)
      obtain ⟨l, h1, h2⟩ := ih fun y hy => h y (List.mem_cons_of_mem _ hy)
      refine ⟨s :: l, by simp [h1], fun i hi hi' => ?_⟩
      cases i with
      | zero => exact hs
      | succ i => exact h2 i (by simpa using hi) (by simpa using hi')
  obtain ⟨l, h1, h2⟩ := key xs ho
  exact ⟨A, c, xs, l, rfl, ⟨h1, hr, fun i hi => (h2 i hi (by omega)).1⟩, fun i g1 g2 => (h2 i g1 g2).2, hc, hm⟩
end
end Go.Proofs.Ytmafdbdmmfpeeaa
