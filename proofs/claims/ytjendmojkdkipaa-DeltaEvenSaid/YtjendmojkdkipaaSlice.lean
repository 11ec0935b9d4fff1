/-
  Slices that are read: what they hold as a list of cells; how an argument's reading gives that. Over any program.
-/
import Derived.Test.YtjendmojkdkipaaOwn
import Derived.Deep.Slices
import Derived.Deep.Fields
import Derived.Laws.OwnMore
namespace Go.Proofs.Ytjendmojkdkipaa
open Go Go.RowKit Go.Deep Go.ChangeShapes Go.WideShapes

/-- the slice at A, of n elements of 'size' cells each, holds the cells xs -/
def Rd (w : World) (size : Nat) (A : Option Addr) (n : Nat) (xs : List Value) : Prop :=
  xs.length = n * size ∧ (0 < n → ∃ b off, A = some ⟨b, off, none⟩ ∧ b < w.heap.size ∧ ∀ j u, xs[j]? = some u → w.cell? ⟨b, off + j, none⟩ = some u)

section
variable {w w' : World} {size n : Nat} {A : Option Addr} {xs : List Value}
theorem Rd.nil (w : World) (size : Nat) (A : Option Addr) : Rd w size A 0 [] := ⟨by simp, fun h => absurd h (by omega)⟩
theorem Rd.below (h : Rd w size A n xs) (hb : Below w.heap.size w w') : Rd w' size A n xs :=
  ⟨h.1, fun hn => by
    obtain ⟨b, off, e, hlt, hc⟩ := h.2 hn
    have hs := hb.size
    exact ⟨b, off, e, by omega, fun j u hu => (hb.cell (p := ⟨b, off + j, none⟩) hlt).trans (hc j u hu)⟩⟩
theorem Rd.drew (h : Rd w size A n xs) : Rd w.drew size A n xs := h
theorem Rd.alloc (h : Rd w size A n xs) (o : Obj) : Rd (w.alloc o) size A n xs := h.below ((Below.refl _ _).alloc (Nat.le_refl _) o)
/-- a row of the call's own is such a slice -/
theorem Rd.of_own {B : Nat} {e : TypeId} {v : Value} (h : w.ownsRow B e size v n xs) : ∃ A c, v = .slice A n c ∧ Rd w size A n xs := by
  have hl := h.1
  rcases h.2 with ⟨rfl, rfl⟩ | ⟨g, cap, cur, rfl, hb, hg, hn, hm, hs, ht⟩
  · exact ⟨none, 0, rfl, hl, fun h => absurd h (by omega)⟩
  · refine ⟨_, cap, rfl, hl, fun _ => ⟨g, 0, rfl, (Array.getElem?_eq_some_iff.1 hg).1, fun j u hu => ?_⟩⟩
    have := h.cells (g := g) rfl j u hu
    have hadd : (⟨g, 0, none⟩ : Addr).add j = ⟨g, 0 + j, none⟩ := by unfold Addr.add; split <;> simp_all
    rwa [hadd] at this
end

/-- a call that boxed an argument first: what lies below the box is as it was -/
theorem boxed {w wr : World} {o : Obj} (h : Below (w.heap.size + 1) (w.alloc o) wr) : Below w.heap.size w wr := ((Below.refl _ _).alloc (Nat.le_refl _) o).trans (h.mono (by omega))
theorem box_lt {w wr : World} {o : Obj} (h : Below (w.heap.size + 1) (w.alloc o) wr) : w.heap.size < wr.heap.size := by have := h.size; simp at this; omega
theorem unboxed {w wr : World} {o : Obj} (h : Below (w.alloc o).heap.size (w.alloc o) wr) : Below (w.heap.size + 1) (w.alloc o) wr := h.mono (by simp)
/-- the box itself -/
theorem box_cell {w wr : World} {cs : Array Value} {t : TypeId} (h : Below (w.heap.size + 1) (w.alloc (.cells cs t)) wr) {j : Nat} {v : Value} (hv : cs[j]? = some v) : wr.cell? ⟨w.heap.size, j, none⟩ = some v := by
  rw [h.cell (p := ⟨w.heap.size, j, none⟩) (by simp), cell_of_row (w.alloc (.cells cs t)) w.heap.size j cs t (0, 0) (heap_alloc_new w _)]
  exact hv

/-- an owned row behind a call that leaves what was there -/
theorem own_below {w w' : World} {B n : Nat} {e : TypeId} {size : Nat} {v : Value} {xs : List Value} (h : w.ownsRow B e size v n xs) (hb : Below w.heap.size w w') : w'.ownsRow B e size v n xs := by
  refine ⟨h.1, ?_⟩
  rcases h.2 with hn | ⟨g, cap, cur, rfl, hB, hg, rest⟩
  · exact .inl hn
  · exact .inr ⟨g, cap, cur, rfl, hB, (hb.block g (Array.getElem?_eq_some_iff.1 hg).1).trans hg, rest⟩

theorem own_form {w : World} {B n : Nat} {e : TypeId} {size : Nat} {v : Value} {xs : List Value} (h : w.ownsRow B e size v n xs) : ∃ A c, v = .slice A n c := by
  rcases h.2 with ⟨rfl, rfl⟩ | ⟨g, cap, cur, rfl, _⟩
  · exact ⟨none, 0, rfl⟩
  · exact ⟨_, cap, rfl⟩

/-- '[]T{}' behind a box -/
theorem made0 (w : World) (o : Obj) (e : TypeId) (size : Nat) : ((w.alloc o).alloc (.cells #[] e)).ownsRow (w.heap.size + 1) e size (.slice (some ⟨w.heap.size + 1, 0, none⟩) 0 0) 0 [] := by
  have hs : (w.alloc o).heap.size = w.heap.size + 1 := by simp
  have := World.ownsRow_made (w := w.alloc o) (base := w.heap.size + 1) (e := e) (size := size) #[] 0 (by omega) (by decide) (by simp)
  rw [hs] at this
  exact this
theorem made0_below (w : World) (o o' : Obj) : Below (w.heap.size + 1) (w.alloc o) ((w.alloc o).alloc o') := (Below.refl _ _).alloc (by simp) o'
theorem made0' (w : World) (e : TypeId) (size : Nat) : (w.alloc (.cells #[] e)).ownsRow w.heap.size e size (.slice (some ⟨w.heap.size, 0, none⟩) 0 0) 0 [] :=
  World.ownsRow_made _ #[] 0 (Nat.le_refl _) (by decide) (by simp)

theorem add_none (b off j : Nat) : (⟨b, off, none⟩ : Addr).add j = ⟨b, off + j, none⟩ := by unfold Addr.add; split <;> simp_all

theorem flatMap_get {α : Type} {cells : α → List Value} {C : Nat} (hC : ∀ x, (cells x).length = C) : ∀ (xs : List α) (i j : Nat), j < C → (xs.flatMap cells)[i * C + j]? = (xs[i]?).bind fun x => (cells x)[j]? := by
  intro xs
  induction xs with
  | nil => intro i j _; simp
  | cons x xs ih =>
    intro i j hj
    rw [List.flatMap_cons]
    cases i with
    | zero => rw [Nat.zero_mul, Nat.zero_add, List.getElem?_append_left (by rw [hC]; exact hj)]; rfl
    | succ i =>
      rw [List.getElem?_append_right (by rw [hC, Nat.succ_mul]; omega), hC, Nat.succ_mul, show i * C + C + j - C = i * C + j by omega, ih i j hj]
      rfl
theorem flatMap_length {α : Type} {cells : α → List Value} {C : Nat} (hC : ∀ x, (cells x).length = C) (xs : List α) : (xs.flatMap cells).length = xs.length * C := by
  induction xs with
  | nil => simp
  | cons x xs ih => rw [List.flatMap_cons, List.length_append, ih, hC, List.length_cons, Nat.succ_mul]; omega

/-- the cells of element i -/
theorem Rd.elem {α : Type} {cells : α → List Value} {C : Nat} (hC : ∀ x, (cells x).length = C) (hp : 0 < C) {w : World} {A : Option Addr} {n : Nat} {xs : List α} (h : Rd w C A n (xs.flatMap cells)) {i : Nat} (hi : i < xs.length) :
    ∃ b off, A = some ⟨b, off, none⟩ ∧ b < w.heap.size ∧ ∀ j u, (cells xs[i])[j]? = some u → w.cell? ⟨b, off + (i * C + j), none⟩ = some u := by
  have hl := h.1
  rw [flatMap_length hC] at hl
  have hn : n = xs.length := (Nat.eq_of_mul_eq_mul_right hp hl).symm
  obtain ⟨b, off, e, hlt, hc⟩ := h.2 (by omega)
  refine ⟨b, off, e, hlt, fun j u hu => hc _ u ?_⟩
  have hj : j < C := by have := (List.getElem?_eq_some_iff.1 hu).1; rwa [hC] at this
  rw [flatMap_get hC xs i j hj, List.getElem?_eq_getElem hi]
  exact hu

section
variable {H : Type} {enc : TypeId × Value → H} {P : Program} {w : World}
/-- An argument that is a slice, element by element: 'elem' says what an element's cells are. -/
theorem read_slice {α : Type} {cells : α → List Value} {R : α → Prop} {C : Nat} (hC : ∀ x, (cells x).length = C) (hp : 0 < C) {t e : TypeId} {v : Value} {d : DataW H} {p : List MemPlace} {r : Reach} {b0 : Nat}
    (ht : P.underlying t = some (.slice e)) (hCe : P.cellsOf e = C)
    (elem : ∀ n cs y, cs.length = C → DataW.trod enc P w 0 (fun _ => true) true n e cs = some y → ∃ x, cs = cells x ∧ R x)
    (hv : Value.okWide P w r b0 t v) (h : DataW.Trod enc P w 0 (fun _ => true) true t v d p) :
    ∃ A c, ∃ xs : List α, v = .slice A xs.length c ∧ Rd w C A xs.length (xs.flatMap cells) ∧ (∀ x ∈ xs, R x) ∧ xs.length ≤ c ∧ c ≤ maxLen := by
  obtain ⟨a0, len, cap, rfl⟩ := okWide_slice ht hv
  obtain ⟨fuel, hf⟩ := h
  rcases open_slice ht hf with ⟨hcs, _⟩ | ⟨a, len', cap', m, n, D, Pl, hcs, _, hl, hm, hmm, _, hel⟩
  · simp [Value.cells] at hcs
    obtain ⟨rfl, rfl, rfl⟩ := hcs
    exact ⟨none, 0, [], rfl, Rd.nil _ _ _, by simp, by simp, by simp⟩
  · simp [Value.cells] at hcs
    obtain ⟨rfl, rfl, rfl⟩ := hcs
    rw [if_pos rfl] at hmm
    subst hmm
    have hx : ∀ i, i < len → ∃ x : α, (∀ j u, (cells x)[j]? = some u → w.cell? (a.add (i * C + j)) = some u) ∧ R x := by
      intro i hi
      obtain ⟨cs', hcs', htr⟩ := hel i (by omega)
      rw [hCe] at hcs'
      obtain ⟨_, hlen, hat⟩ := World.cells?_some hcs'
      obtain ⟨x, hx, hR⟩ := elem n cs' _ hlen htr
      refine ⟨x, fun j u hu => ?_, hR⟩
      rw [← hx] at hu
      have hj : j < C := by have := (List.getElem?_eq_some_iff.1 hu).1; omega
      rw [← Go.Deep.add_add, hat j hj, hu]
    obtain ⟨xs, hxl, hxs⟩ : ∃ xs : List α, xs.length = len ∧ ∀ i (hi : i < xs.length), (∀ j u, (cells xs[i])[j]? = some u → w.cell? (a.add (i * C + j)) = some u) ∧ R xs[i] := by
      clear hf hel hv
      have key : ∀ m, m ≤ len → ∃ xs : List α, xs.length = m ∧ ∀ i (hi : i < xs.length), (∀ j u, (cells xs[i])[j]? = some u → w.cell? (a.add (i * C + j)) = some u) ∧ R xs[i] := by
        intro m
        induction m with
        | zero => exact fun _ => ⟨[], rfl, fun i hi => absurd hi (by simp)⟩
        | succ m ih =>
          intro hm
          obtain ⟨xs, h1, h2⟩ := ih (by omega)
          obtain ⟨x, h3⟩ := hx m (by omega)
          refine ⟨xs ++ [x], by simp [h1], fun i hi => ?_⟩
          by_cases hi' : i < xs.length
          · rw [List.getElem_append_left hi']; exact h2 i hi'
          · obtain rfl : i = xs.length := by simp at hi; omega
            rw [List.getElem_append_right (Nat.le_refl _)]
            simp only [Nat.sub_self, List.getElem_cons_zero]
            rw [h1]; exact h3
      exact key len (Nat.le_refl _)
    subst hxl
    refine ⟨some a, _, xs, rfl, ⟨flatMap_length hC xs, fun hn => ?_⟩, fun x hx' => ?_, hl, hm⟩
    · obtain ⟨b, off, sp⟩ := a
      have h0 := (hxs 0 hn).1 0 ((cells xs[0])[0]'(by rw [hC]; exact hp)) (List.getElem?_eq_getElem _)
      have hsp : sp = none := by
        have := World.cell?_spot h0
        simpa [Addr.add] using this
      subst hsp
      refine ⟨b, off, rfl, ?_, fun j u hu => ?_⟩
      · have := World.block_lt_of_cell? w _ h0
        rwa [add_none] at this
      · have hjl : j < xs.length * C := by have := (List.getElem?_eq_some_iff.1 hu).1; rwa [flatMap_length hC] at this
        have hmod : j = j / C * C + j % C := by rw [Nat.mul_comm]; exact (Nat.div_add_mod j C).symm
        have hdiv : j / C < xs.length := Nat.div_lt_of_lt_mul (by rw [Nat.mul_comm]; exact hjl)
        rw [hmod, flatMap_get hC xs _ _ (Nat.mod_lt _ hp), List.getElem?_eq_getElem hdiv] at hu
        have := (hxs _ hdiv).1 _ u hu
        rwa [← hmod, add_none] at this
    · obtain ⟨i, hi, rfl⟩ := List.getElem_of_mem hx'
      exact (hxs i hi).2

/-- a struct of one-cell fields: each field's cell, and its reading -/
theorem trod_fields {e : TypeId} {fs : Array Field} {n : Nat} {cs : List Value} {y : DataW H × List MemPlace} {base : Nat} {spare : Nat → Bool} {held : Bool} (he : P.underlying e = some (.struct fs)) (hone : oneCellFields P fs = true)
    (h : DataW.trod enc P w base spare held n e cs = some y) : cs.length = P.cellsOf e ∧ ∃ m, ∀ (j : Nat) (f : Field), fs[j]? = some f → j < cs.length → ∃ v y', cs[j]? = some v ∧ DataW.trod enc P w base spare held m f.type [v] = some y' := by
  obtain ⟨xs, m, _, _, hlen, hxl, hf⟩ := DataW.trod_struct he h
  refine ⟨hlen, m, fun j f hj hjl => ?_⟩
  obtain ⟨ho, hk⟩ := hone_of hone j f hj
  have h1 := hf j f hj
  have hjf : j < fs.size := (Array.getElem?_eq_some_iff.1 hj).1
  rw [ho, hk] at h1
  have hd : (cs.drop j).take 1 = [cs[j]] := by rw [List.drop_eq_getElem_cons hjl]; rfl
  rw [hd] at h1
  exact ⟨cs[j], xs[j]'(by omega), List.getElem?_eq_getElem hjl, h1.trans (List.getElem?_eq_getElem (by omega))⟩
end
end Go.Proofs.Ytjendmojkdkipaa
