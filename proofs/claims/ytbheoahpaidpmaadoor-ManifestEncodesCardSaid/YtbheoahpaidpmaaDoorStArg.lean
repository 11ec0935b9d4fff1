/-
  A state that came in: a slice of parts, numbers, a word.
-/
import Derived.Test.YtbheoahpaidpmaaDoorManArg
namespace Go.Proofs.YtbheoahpaidpmaaDoor
open Go Go.RowKit Go.Deep Go.ChangeShapes Go.WideShapes

section
variable {H : Type} {enc : TypeId × Value → H} {w : World}
/-- a slice that lies in a cell, element by element -/
theorem read_inner {α : Type} {cells : α → List Value} {R : α → Prop} {C : Nat} (hC : ∀ x, (cells x).length = C) (hp : 0 < C) {P : Program} {t e : TypeId} {v : Value} {fuel : Nat} {y : DataW H × List MemPlace}
    (ht : P.underlying t = some (.slice e)) (hCe : P.cellsOf e = C)
    (elem : ∀ n cs y, cs.length = C → DataW.trod enc P w 0 (fun _ => true) true n e cs = some y → ∃ x, cs = cells x ∧ R x)
    (hf : DataW.trod enc P w 0 (fun _ => true) true fuel t [v] = some y) :
    ∃ A c, ∃ xs : List α, v = .slice A xs.length c ∧ Rd w C A xs.length (xs.flatMap cells) ∧ (∀ x ∈ xs, R x) ∧ xs.length ≤ c ∧ c ≤ maxLen := by
  rcases open_slice ht hf with ⟨hcs, _⟩ | ⟨a, len', cap', m, n, D, Pl, hcs, _, hl, hm, hmm, _, hel⟩
  · simp at hcs
    subst hcs
    exact ⟨none, 0, [], rfl, Rd.nil _ _ _, by simp, by simp, by simp⟩
  · simp at hcs
    subst hcs
    rw [if_pos rfl] at hmm
    subst hmm
    have hx : ∀ i, i < len' → ∃ x : α, (∀ j u, (cells x)[j]? = some u → w.cell? (a.add (i * C + j)) = some u) ∧ R x := by
      intro i hi
      obtain ⟨cs', hcs', htr⟩ := hel i (by omega)
      rw [hCe] at hcs'
      obtain ⟨_, hlen, hat⟩ := World.cells?_some hcs'
      obtain ⟨x, hx, hR⟩ := elem n cs' _ hlen htr
      refine ⟨x, fun j u hu => ?_, hR⟩
      rw [← hx] at hu
      have hj : j < C := by have := (List.getElem?_eq_some_iff.1 hu).1; omega
      rw [← Go.Deep.add_add, hat j hj, hu]
    obtain ⟨xs, hxl, hxs⟩ : ∃ xs : List α, xs.length = len' ∧ ∀ i (hi : i < xs.length), (∀ j u, (cells xs[i])[j]? = some u → w.cell? (a.add (i * C + j)) = some u) ∧ R xs[i] := by
      clear hf hel
      have key : ∀ m, m ≤ len' → ∃ xs : List α, xs.length = m ∧ ∀ i (hi : i < xs.length), (∀ j u, (cells xs[i])[j]? = some u → w.cell? (a.add (i * C + j)) = some u) ∧ R xs[i] := by
        intro m
        induction m with
        | zero => exact fun _ => ⟨[], rfl, fun i hi => absurd hi (by simp)⟩
        | succ m ih =>
          intro hm
          obtain ⟨xs, h1, h2⟩ := ih (by omega)
          obtain ⟨x, h3⟩ := hx m (by omega)
          refine ⟨xs ++ [x], by simp [h1], fun i hi => ?_⟩
          by_cases hi' : i < xs.length
          · rw [List.getElem_append_left hi']; exact h2 i hi'
          · obtain rfl : i = xs.length := by simp at hi; omega
            rw [List.getElem_append_right (Nat.le_refl _)]
            simp only [Nat.sub_self, List.getElem_cons_zero]
            rw [h1]; exact h3
      exact key len' (Nat.le_refl _)
    subst hxl
    refine ⟨some a, _, xs, rfl, ⟨flatMap_length hC xs, fun hn => ?_⟩, fun x hx' => ?_, hl, hm⟩
    · obtain ⟨b, off, sp⟩ := a
      have h0 := (hxs 0 hn).1 0 ((cells xs[0])[0]'(by rw [hC]; exact hp)) (List.getElem?_eq_getElem _)
      have hsp : sp = none := by
        have := World.cell?_spot h0
        simpa [Addr.add] using this
      subst hsp
      refine ⟨b, off, rfl, ?_, fun j u hu => ?_⟩
      · have := World.block_lt_of_cell? w _ h0
        rwa [add_none] at this
      · have hjl : j < xs.length * C := by have := (List.getElem?_eq_some_iff.1 hu).1; rwa [flatMap_length hC] at this
        have hmod : j = j / C * C + j % C := by rw [Nat.mul_comm]; exact (Nat.div_add_mod j C).symm
        have hdiv : j / C < xs.length := Nat.div_lt_of_lt_mul (by rw [Nat.mul_comm]; exact hjl)
        rw [hmod, flatMap_get hC xs _ _ (Nat.mod_lt _ hp), List.getElem?_eq_getElem hdiv] at hu
        have := (hxs _ hdiv).1 _ u hu
        rwa [← hmod, add_none] at this
    · obtain ⟨i, hi, rfl⟩ := List.getElem_of_mem hx'
      exact (hxs i hi).2
theorem part_elem : ∀ n cs y, cs.length = 3 → DataW.trod enc Tryd.prog w 0 (fun _ => true) true n 40 cs = some y → ∃ x, cs = partCells x ∧ True := by
  intro n cs y hl h
  obtain ⟨_, m, hf⟩ := trod_fields Tryd.underlying40 (by kernel_rfl) h
  obtain ⟨v0, y0, e0, h0⟩ := hf 0 _ rfl (by omega)
  obtain ⟨v1, y1, e1, h1⟩ := hf 1 _ rfl (by omega)
  obtain ⟨v2, y2, e2, h2⟩ := hf 2 _ rfl (by omega)
  obtain ⟨a, ha, _, wa⟩ := DataW.trod_int Tryd.underlying3 h0
  obtain ⟨b, hb, _, wb⟩ := DataW.trod_int Tryd.underlying3 h1
  obtain ⟨c, hc, _, wc⟩ := DataW.trod_string Tryd.underlying9 h2
  simp at ha hb hc
  subst ha hb hc
  refine ⟨⟨a, b, c.data.toList⟩, ?_, trivial⟩
  match cs, hl with
  | [p, q, r], _ =>
    simp at e0 e1 e2
    subst e0 e1 e2
    simp [partCells, S_data]
set_option maxRecDepth 100000 in
theorem read_state {v : Value} {d : DataW H} {p : List MemPlace} {r : Reach} {b0 : Nat} (hv : Value.okWide Tryd.prog w r b0 25 v) (h : DataW.Trod enc Tryd.prog w 0 (fun _ => true) true 25 v d p) :
    ∃ A c, ∃ s : St, v = stVal A s.Parts.length c s ∧ Rd w 3 A s.Parts.length (s.Parts.flatMap partCells) := by
  obtain ⟨cs, rfl, hsz⟩ := okWide_struct Tryd.underlying25 hv
  obtain ⟨fuel, hf⟩ := h
  have hl : cs.toList.length = 7 := by
    have h3 : Tryd.prog.cellsOf 25 = 7 := by kernel_rfl
    simp [hsz, h3]
  have hf' : DataW.trod enc Tryd.prog w 0 (fun _ => true) true fuel 25 cs.toList = some (d, p) := by simpa [Value.cells] using hf
  obtain ⟨_, m, hg⟩ := trod_fields Tryd.underlying25 (by kernel_rfl) hf'
  obtain ⟨v0, y0, e0, h0⟩ := hg 0 _ rfl (by omega)
  obtain ⟨v1, y1, e1, h1⟩ := hg 1 _ rfl (by omega)
  obtain ⟨v2, y2, e2, h2⟩ := hg 2 _ rfl (by omega)
  obtain ⟨v3, y3, e3, h3⟩ := hg 3 _ rfl (by omega)
  obtain ⟨v4, y4, e4, h4⟩ := hg 4 _ rfl (by omega)
  obtain ⟨v5, y5, e5, h5⟩ := hg 5 _ rfl (by omega)
  obtain ⟨v6, y6, e6, h6⟩ := hg 6 _ rfl (by omega)
  obtain ⟨A, c, xs, rfl, hr, -, -, -⟩ := read_inner partCells_length (by decide) Tryd.underlying23 (by kernel_rfl) part_elem h0
  obtain ⟨n1, k1, _, wa⟩ := DataW.trod_int Tryd.underlying3 h1
  obtain ⟨n2, k2, _, wb⟩ := DataW.trod_int Tryd.underlying3 h2
  obtain ⟨o, k3, _⟩ := DataW.trod_bool Tryd.underlying4 h3
  obtain ⟨n4, k4, _, wd⟩ := DataW.trod_int Tryd.underlying3 h4
  obtain ⟨n5, k5, _, we⟩ := DataW.trod_int Tryd.underlying3 h5
  obtain ⟨n6, k6, _, wf⟩ := DataW.trod_int Tryd.underlying3 h6
  simp at k1 k2 k3 k4 k5 k6
  subst k1 k2 k3 k4 k5 k6
  refine ⟨A, c, ⟨xs, n1, n2, o, n4, n5, n6⟩, ?_, hr⟩
  obtain ⟨l⟩ := cs
  match l, hl with
  | [a, b, c, d, e, f, g], _ =>
    simp at e0 e1 e2 e3 e4 e5 e6
    subst e0 e1 e2 e3 e4 e5 e6
    rfl
end
end Go.Proofs.YtbheoahpaidpmaaDoor
