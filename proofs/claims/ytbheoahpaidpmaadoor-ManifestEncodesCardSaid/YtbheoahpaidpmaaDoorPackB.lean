/-
  What the walks of this claim stand on: Slice, Append, Keep, one behind the other.
-/
import Derived.Test.YtbheoahpaidpmaaDoorPackA
import Derived.Deep.Slices
import Derived.Deep.Fields
import Derived.Laws.OwnMore
import Derived.Maps.AppendAt
/-! Slice -/
namespace Go.Proofs.YtbheoahpaidpmaaDoor
open Go Go.RowKit Go.Deep Go.ChangeShapes Go.WideShapes

/-- the slice at A, of n elements of 'size' cells each, holds the cells xs -/
def Rd (w : World) (size : Nat) (A : Option Addr) (n : Nat) (xs : List Value) : Prop :=
  xs.length = n * size ∧ (0 < n → ∃ b off, A = some ⟨b, off, none⟩ ∧ b < w.heap.size ∧ ∀ j u, xs[j]? = some u → w.cell? ⟨b, off + j, none⟩ = some u)

section
variable {w w' : World} {size n : Nat} {A : Option Addr} {xs : List Value}
theorem Rd.nil (w : World) (size : Nat) (A : Option Addr) : Rd w size A 0 [] := ⟨by simp, fun h => absurd h (by omega)⟩
theorem Rd.below (h : Rd w size A n xs) (hb : Below w.heap.size w w') : Rd w' size A n xs :=
  ⟨h.1, fun hn => by
    obtain ⟨b, off, e, hlt, hc⟩ := h.2 hn
    have hs := hb.size
    exact ⟨b, off, e, by omega, fun j u hu => (hb.cell (p := ⟨b, off + j, none⟩) hlt).trans (hc j u hu)⟩⟩
theorem Rd.drew (h : Rd w size A n xs) : Rd w.drew size A n xs := h
theorem Rd.alloc (h : Rd w size A n xs) (o : Obj) : Rd (w.alloc o) size A n xs := h.below ((Below.refl _ _).alloc (Nat.le_refl _) o)
/-- a row of the call's own is such a slice -/
theorem Rd.of_own {B : Nat} {e : TypeId} {v : Value} (h : w.ownsRow B e size v n xs) : ∃ A c, v = .slice A n c ∧ Rd w size A n xs := by
  have hl := h.1
  rcases h.2 with ⟨rfl, rfl⟩ | ⟨g, cap, cur, rfl, hb, hg, hn, hm, hs, ht⟩
  · exact ⟨none, 0, rfl, hl, fun h => absurd h (by omega)⟩
  · refine ⟨_, cap, rfl, hl, fun _ => ⟨g, 0, rfl, (Array.getElem?_eq_some_iff.1 hg).1, fun j u hu => ?_⟩⟩
    have := h.cells (g := g) rfl j u hu
    have hadd : (⟨g, 0, none⟩ : Addr).add j = ⟨g, 0 + j, none⟩ := by unfold Addr.add; split <;> simp_all
    rwa [hadd] at this
end

/-- a call that boxed an argument first: what lies below the box is as it was -/
theorem boxed {w wr : World} {o : Obj} (h : Below (w.heap.size + 1) (w.alloc o) wr) : Below w.heap.size w wr := ((Below.refl _ _).alloc (Nat.le_refl _) o).trans (h.mono (by omega))
theorem box_lt {w wr : World} {o : Obj} (h : Below (w.heap.size + 1) (w.alloc o) wr) : w.heap.size < wr.heap.size := by have := h.size; simp at this; omega
theorem unboxed {w wr : World} {o : Obj} (h : Below (w.alloc o).heap.size (w.alloc o) wr) : Below (w.heap.size + 1) (w.alloc o) wr := h.mono (by simp)
/-- the box itself -/
theorem box_cell {w wr : World} {cs : Array Value} {t : TypeId} (h : Below (w.heap.size + 1) (w.alloc (.cells cs t)) wr) {j : Nat} {v : Value} (hv : cs[j]? = some v) : wr.cell? ⟨w.heap.size, j, none⟩ = some v := by
  rw [h.cell (p := ⟨w.heap.size, j, none⟩) (by simp), cell_of_row (w.alloc (.cells cs t)) w.heap.size j cs t (0, 0) (heap_alloc_new w _)]
  exact hv

/-- an owned row behind a call that leaves what was there -/
theorem own_below {w w' : World} {B n : Nat} {e : TypeId} {size : Nat} {v : Value} {xs : List Value} (h : w.ownsRow B e size v n xs) (hb : Below w.heap.size w w') : w'.ownsRow B e size v n xs := by
  refine ⟨h.1, ?_⟩
  rcases h.2 with hn | ⟨g, cap, cur, rfl, hB, hg, rest⟩
  · exact .inl hn
  · exact .inr ⟨g, cap, cur, rfl, hB, (hb.block g (Array.getElem?_eq_some_iff.1 hg).1).trans hg, rest⟩

theorem own_form {w : World} {B n : Nat} {e : TypeId} {size : Nat} {v : Value} {xs : List Value} (h : w.ownsRow B e size v n xs) : ∃ A c, v = .slice A n c := by
  rcases h.2 with ⟨rfl, rfl⟩ | ⟨g, cap, cur, rfl, _⟩
  · exact ⟨none, 0, rfl⟩
  · exact ⟨_, cap, rfl⟩

/-- '[]T{}' behind a box -/
theorem made0 (w : World) (o : Obj) (e : TypeId) (size : Nat) : ((w.alloc o).alloc (.cells #[] e)).ownsRow (w.heap.size + 1) e size (.slice (some ⟨w.heap.size + 1, 0, none⟩) 0 0) 0 [] := by
  have hs : (w.alloc o).heap.size = w.heap.size + 1 := by simp
  have := World.ownsRow_made (w := w.alloc o) (base := w.heap.size + 1) (e := e) (size := size) #[] 0 (by omega) (by decide) (by simp)
  rw [hs] at this
  exact this
theorem made0_below (w : World) (o o' : Obj) : Below (w.heap.size + 1) (w.alloc o) ((w.alloc o).alloc o') := (Below.refl _ _).alloc (by simp) o'
theorem made0' (w : World) (e : TypeId) (size : Nat) : (w.alloc (.cells #[] e)).ownsRow w.heap.size e size (.slice (some ⟨w.heap.size, 0, none⟩) 0 0) 0 [] :=
  World.ownsRow_made _ #[] 0 (Nat.le_refl _) (by decide) (by simp)

theorem add_none (b off j : Nat) : (⟨b, off, none⟩ : Addr).add j = ⟨b, off + j, none⟩ := by unfold Addr.add; split <;> simp_all

theorem flatMap_get {α : Type} {cells : α → List Value} {C : Nat} (hC : ∀ x, (cells x).length = C) : ∀ (xs : List α) (i j : Nat), j < C → (xs.flatMap cells)[i * C + j]? = (xs[i]?).bind fun x => (cells x)[j]? := by
  intro xs
  induction xs with
  | nil => intro i j _; simp
  | cons x xs ih =>
    intro i j hj
    rw [List.flatMap_cons]
    cases i with
    | zero => rw [Nat.zero_mul, Nat.zero_add, List.getElem?_append_left (by rw [hC]; exact hj)]; rfl
    | succ i =>
      rw [List.getElem?_append_right (by rw [hC, Nat.succ_mul]; omega), hC, Nat.succ_mul, show i * C + C + j - C = i * C + j by omega, ih i j hj]
      rfl
theorem flatMap_length {α : Type} {cells : α → List Value} {C : Nat} (hC : ∀ x, (cells x).length = C) (xs : List α) : (xs.flatMap cells).length = xs.length * C := by
  induction xs with
  | nil => simp
  | cons x xs ih => rw [List.flatMap_cons, List.length_append, ih, hC, List.length_cons, Nat.succ_mul]; omega

/-- the cells of element i -/
theorem Rd.elem {α : Type} {cells : α → List Value} {C : Nat} (hC : ∀ x, (cells x).length = C) (hp : 0 < C) {w : World} {A : Option Addr} {n : Nat} {xs : List α} (h : Rd w C A n (xs.flatMap cells)) {i : Nat} (hi : i < xs.length) :
    ∃ b off, A = some ⟨b, off, none⟩ ∧ b < w.heap.size ∧ ∀ j u, (cells xs[i])[j]? = some u → w.cell? ⟨b, off + (i * C + j), none⟩ = some u := by
  have hl := h.1
  rw [flatMap_length hC] at hl
  have hn : n = xs.length := (Nat.eq_of_mul_eq_mul_right hp hl).symm
  obtain ⟨b, off, e, hlt, hc⟩ := h.2 (by omega)
  refine ⟨b, off, e, hlt, fun j u hu => hc _ u ?_⟩
  have hj : j < C := by have := (List.getElem?_eq_some_iff.1 hu).1; rwa [hC] at this
  rw [flatMap_get hC xs i j hj, List.getElem?_eq_getElem hi]
  exact hu

section
variable {H : Type} {enc : TypeId × Value → H} {P : Program} {w : World}
/-- An argument that is a slice, element by element: 'elem' says what an element's cells are. -/
theorem read_slice {α : Type} {cells : α → List Value} {R : α → Prop} {C : Nat} (hC : ∀ x, (cells x).length = C) (hp : 0 < C) {t e : TypeId} {v : Value} {d : DataW H} {p : List MemPlace} {r : Reach} {b0 : Nat}
    (ht : P.underlying t = some (.slice e)) (hCe : P.cellsOf e = C)
    (elem : ∀ n cs y, cs.length = C → DataW.trod enc P w 0 (fun _ => true) true n e cs = some y → ∃ x, cs = cells x ∧ R x)
    (hv : Value.okWide P w r b0 t v) (h : DataW.Trod enc P w 0 (fun _ => true) true t v d p) :
    ∃ A c, ∃ xs : List α, v = .slice A xs.length c ∧ Rd w C A xs.length (xs.flatMap cells) ∧ (∀ x ∈ xs, R x) ∧ xs.length ≤ c ∧ c ≤ maxLen := by
  obtain ⟨a0, len, cap, rfl⟩ := okWide_slice ht hv
  obtain ⟨fuel, hf⟩ := h
  rcases open_slice ht hf with ⟨hcs, _⟩ | ⟨a, len', cap', m, n, D, Pl, hcs, _, hl, hm, hmm, _, hel⟩
  · simp [Value.cells] at hcs
    obtain ⟨rfl, rfl, rfl⟩ := hcs
    exact ⟨none, 0, [], rfl, Rd.nil _ _ _, by simp, by simp, by simp⟩
  · simp [Value.cells] at hcs
    obtain ⟨rfl, rfl, rfl⟩ := hcs
    rw [if_pos rfl] at hmm
    subst hmm
    have hx : ∀ i, i < len → ∃ x : α, (∀ j u, (cells x)[j]? = some u → w.cell? (a.add (i * C + j)) = some u) ∧ R x := by
      intro i hi
      obtain ⟨cs', hcs', htr⟩ := hel i (by omega)
      rw [hCe] at hcs'
      obtain ⟨_, hlen, hat⟩ := World.cells?_some hcs'
      obtain ⟨x, hx, hR⟩ := elem n cs' _ hlen htr
      refine ⟨x, fun j u hu => ?_, hR⟩
      rw [← hx] at hu
      have hj : j < C := by have := (List.getElem?_eq_some_iff.1 hu).1; omega
      rw [← Go.Deep.add_add, hat j hj, hu]
    obtain ⟨xs, hxl, hxs⟩ : ∃ xs : List α, xs.length = len ∧ ∀ i (hi : i < xs.length), (∀ j u, (cells xs[i])[j]? = some u → w.cell? (a.add (i * C + j)) = some u) ∧ R xs[i] := by
      clear hf hel hv
      have key : ∀ m, m ≤ len → ∃ xs : List α, xs.length = m ∧ ∀ i (hi : i < xs.length), (∀ j u, (cells xs[i])[j]? = some u → w.cell? (a.add (i * C + j)) = some u) ∧ R xs[i] := by
        intro m
        induction m with
        | zero => exact fun _ => ⟨[], rfl, fun i hi => absurd hi (by simp)⟩
        | succ m ih =>
          intro hm
          obtain ⟨xs, h1, h2⟩ := ih (by omega)
          obtain ⟨x, h3⟩ := hx m (by omega)
          refine ⟨xs ++ [x], by simp [h1], fun i hi => ?_⟩
          by_cases hi' : i < xs.length
          · rw [List.getElem_append_left hi']; exact h2 i hi'
          · obtain rfl : i = xs.length := by simp at hi; omega
            rw [List.getElem_append_right (Nat.le_refl _)]
            simp only [Nat.sub_self, List.getElem_cons_zero]
            rw [h1]; exact h3
      exact key len (Nat.le_refl _)
    subst hxl
    refine ⟨some a, _, xs, rfl, ⟨flatMap_length hC xs, fun hn => ?_⟩, fun x hx' => ?_, hl, hm⟩
    · obtain ⟨b, off, sp⟩ := a
      have h0 := (hxs 0 hn).1 0 ((cells xs[0])[0]'(by rw [hC]; exact hp)) (List.getElem?_eq_getElem _)
      have hsp : sp = none := by
        have := World.cell?_spot h0
        simpa [Addr.add] using this
      subst hsp
      refine ⟨b, off, rfl, ?_, fun j u hu => ?_⟩
      · have := World.block_lt_of_cell? w _ h0
        rwa [add_none] at this
      · have hjl : j < xs.length * C := by have := (List.getElem?_eq_some_iff.1 hu).1; rwa [flatMap_length hC] at this
        have hmod : j = j / C * C + j % C := by rw [Nat.mul_comm]; exact (Nat.div_add_mod j C).symm
        have hdiv : j / C < xs.length := Nat.div_lt_of_lt_mul (by rw [Nat.mul_comm]; exact hjl)
        rw [hmod, flatMap_get hC xs _ _ (Nat.mod_lt _ hp), List.getElem?_eq_getElem hdiv] at hu
        have := (hxs _ hdiv).1 _ u hu
        rwa [← hmod, add_none] at this
    · obtain ⟨i, hi, rfl⟩ := List.getElem_of_mem hx'
      exact (hxs i hi).2

/-- a struct of one-cell fields: each field's cell, and its reading -/
theorem trod_fields {e : TypeId} {fs : Array Field} {n : Nat} {cs : List Value} {y : DataW H × List MemPlace} {base : Nat} {spare : Nat → Bool} {held : Bool} (he : P.underlying e = some (.struct fs)) (hone : oneCellFields P fs = true)
    (h : DataW.trod enc P w base spare held n e cs = some y) : cs.length = P.cellsOf e ∧ ∃ m, ∀ (j : Nat) (f : Field), fs[j]? = some f → j < cs.length → ∃ v y', cs[j]? = some v ∧ DataW.trod enc P w base spare held m f.type [v] = some y' := by
  obtain ⟨xs, m, _, _, hlen, hxl, hf⟩ := DataW.trod_struct he h
  refine ⟨hlen, m, fun j f hj hjl => ?_⟩
  obtain ⟨ho, hk⟩ := hone_of hone j f hj
  have h1 := hf j f hj
  have hjf : j < fs.size := (Array.getElem?_eq_some_iff.1 hj).1
  rw [ho, hk] at h1
  have hd : (cs.drop j).take 1 = [cs[j]] := by rw [List.drop_eq_getElem_cons hjl]; rfl
  rw [hd] at h1
  exact ⟨cs[j], xs[j]'(by omega), List.getElem?_eq_getElem hjl, h1.trans (List.getElem?_eq_getElem (by omega))⟩
end
end Go.Proofs.YtbheoahpaidpmaaDoor

/-! Append -/
namespace Go.Proofs.YtbheoahpaidpmaaDoor
open Go Go.RowKit

theorem run_append_owned_empty {P : Program} {w : World} (base : Nat) (t ty e : TypeId) (i : TypeInfo) (size : Nat) (ht : P.underlying t = some (.slice e)) (hi : P.info? e = some i)
    (v : Value) (n c : Nat) (xs : List Value) (hown : w.ownsRow base e size v n xs) :
    (Builtin.append_ #[t, t] ty #[v, .slice none 0 c]).run P w = .ok v w := by
  rcases hown.2 with ⟨rfl, rfl⟩ | ⟨g, cap, cur, rfl, _, _, hnc, _⟩
  · simp [Builtin.append_, run_underlying ht, sizeOf, typeInfo, hi, Builtin.lenOf, Builtin.firstCells]
  · simp [Builtin.append_, run_underlying ht, sizeOf, typeInfo, hi, Builtin.lenOf, Builtin.firstCells, hnc, storeCells]

theorem wpList_append_rd {P : Program} {ops : Array Oper} {rest : List Oper} {o : Oper} {a : Act} {Q : Exit → Act → World → Prop} (hgd : o.guard = none) (s x : Operand) (T : TypeId)
    (ho : o.op = Op.call { callee := Callee.builtin Builtin.append, args := #[s, x], argTypes := #[T, T] })
    (e : TypeId) (z : Value) (size bytes : Nat) (ht : P.underlying T = some (.slice e)) (hinf : (P.info? e).map (fun i => (i.zero, i.size, i.bytes)) = some (some z, size, bytes))
    (hzs : z.cells.size = size) (hsz : 0 < size) (base n : Nat) (xs : List Value) (v : Value) (W w0 : World)
    (hown : w0.ownsRow base e size v n xs) (hs : a.eval s = v) (hbel : Below base W w0) (hbase : base ≤ w0.heap.size)
    (A : Option Addr) (m c : Nat) (news : List Value) (hx : a.eval x = .slice A m c) (hrd : Rd w0 size A m news) (h1 : ∀ u ∈ news, u.oneCell' = true)
    (hn : n + m ≤ maxLen) (hb : (n + m) * bytes ≤ 140737488355328)
    (h : ∀ v' w', w'.ownsRow base e size v' (n + m) (xs ++ news) → Below base W w' → base ≤ w'.heap.size → w0.heap.size ≤ w'.heap.size → w0.grownBy w' v.ownBlock → wpList P ops Q rest (a.put o.dst v') w') :
    wpList P ops Q (o :: rest) a w0 := by
  obtain ⟨i, hi, hz, hz1, hz2⟩ := info_parts hinf
  have some_case : ∀ ad, A = some ad → (∀ j u, news[j]? = some u → w0.cell? (ad.add j) = some u) → wpList P ops Q (o :: rest) a w0 := by
    intro ad hA hnews
    subst hA
    refine wpList_append_own _ hgd s x T ho base e i z size bytes ht hi hz hz1 hz2 hzs hsz v n xs hs hown ad m c news hx hrd.1 hnews h1 hn hb hbase ?_
    intro v' w' hown' hgr _
    exact h v' w' hown' (hbel.grown hgr hbase fun k hk => (hown.lt k hk).1) (by have := hgr.size; omega) hgr.size hgr
  by_cases hm : 0 < m
  · obtain ⟨b, off, hA, _, hc⟩ := hrd.2 hm
    exact some_case _ hA fun j u hu => by rw [add_none]; exact hc j u hu
  · obtain rfl : m = 0 := by omega
    have hnil : news = [] := List.eq_nil_of_length_eq_zero (by rw [hrd.1]; simp)
    subst hnil
    match A, hx, some_case with
    | some ad, _, sc => exact sc ad rfl (by simp)
    | none, hx, _ =>
      refine wpList_plain hgd fun K hK => ?_
      have hrun := run_append_owned_empty (P := P) (w := w0) base T o.type e i size ht hi v n c xs hown
      unfold Oper.wp
      simp [execOp, ho, resolve, invoke, builtin, hs, hx, hrun, Result.andThen]
      refine hK _ _ (h v w0 (by simpa using hown) hbel hbase (Nat.le_refl _) ?_)
      exact ⟨rfl, rfl, rfl, Nat.le_refl _, fun _ _ _ => rfl⟩
end Go.Proofs.YtbheoahpaidpmaaDoor

/-! Keep -/
namespace Go.Proofs.YtbheoahpaidpmaaDoor
open Go Go.RowKit

/-- the blocks named by Pr are all there already -/
def Old (Pr : Nat → Prop) (w : World) : Prop := ∀ k, Pr k → k < w.heap.size
theorem Old.mono {Pr : Nat → Prop} {w w' : World} (h : Old Pr w) (hs : w.heap.size ≤ w'.heap.size) : Old Pr w' := fun k hk => Nat.lt_of_lt_of_le (h k hk) hs

/-- the blocks named by Pr, other than b, stand -/
structure Beside (Pr : Nat → Prop) (b : Nat) (w w' : World) : Prop where
  os : w'.os = w.os
  tape : w'.tape = w.tape
  output : w'.output = w.output
  size : w.heap.size ≤ w'.heap.size
  block : ∀ k, Pr k → k ≠ b → w'.heap[k]? = w.heap[k]?

theorem Beside.refl (R : Nat → Prop) (b : Nat) (w : World) : Beside R b w w := ⟨rfl, rfl, rfl, Nat.le_refl _, fun _ _ _ => rfl⟩
theorem Beside.trans {R : Nat → Prop} {b : Nat} {a c d : World} (h : Beside R b a c) (k : Beside R b c d) : Beside R b a d :=
  ⟨k.os.trans h.os, k.tape.trans h.tape, k.output.trans h.output, Nat.le_trans h.size k.size, fun i hi hb => (k.block i hi hb).trans (h.block i hi hb)⟩
theorem Beside.below {R : Nat → Prop} {b B : Nat} {w w' : World} (h : Beside R b w w') (hB : B ≤ b) (hb : ∀ k, k < B → R k) : Below B w w' := ⟨h.os, h.tape, h.output, h.size, fun k hk => h.block k (hb k hk) (by omega)⟩
theorem beside_set (R : Nat → Prop) (b : Nat) (j : Nat) (w : World) (v : Value) : Beside R b w (w.setCell ⟨b, j, none⟩ v) :=
  ⟨rfl, rfl, rfl, by simp [World.setCell], fun k _ hk => Below.heap_setCell _ _ _ _ hk⟩
theorem Beside.cell {R : Nat → Prop} {b : Nat} {w w' : World} (h : Beside R b w w') {p : Addr} (hp : R p.block) (hb : p.block ≠ b) : w'.cell? p = w.cell? p := by
  simp only [World.cell?, h.block _ hp hb]
theorem Beside.drewr {R : Nat → Prop} {b : Nat} {w w' : World} (h : Beside R b w w') : Beside R b w w'.drew := ⟨h.os, h.tape, h.output, h.size, h.block⟩
theorem Beside.drewl {R : Nat → Prop} {b : Nat} {w w' : World} (h : Beside R b w.drew w') : Beside R b w w' := ⟨h.os, h.tape, h.output, h.size, h.block⟩

/-- the blocks named by Pr stand -/
structure Stays (Pr : Nat → Prop) (w w' : World) : Prop where
  os : w'.os = w.os
  tape : w'.tape = w.tape
  output : w'.output = w.output
  size : w.heap.size ≤ w'.heap.size
  block : ∀ k, Pr k → w'.heap[k]? = w.heap[k]?
theorem Stays.refl (R : Nat → Prop) (w : World) : Stays R w w := ⟨rfl, rfl, rfl, Nat.le_refl _, fun _ _ => rfl⟩
theorem Stays.trans {R : Nat → Prop} {a c d : World} (h : Stays R a c) (k : Stays R c d) : Stays R a d :=
  ⟨k.os.trans h.os, k.tape.trans h.tape, k.output.trans h.output, Nat.le_trans h.size k.size, fun i hi => (k.block i hi).trans (h.block i hi)⟩
theorem Stays.drewr {R : Nat → Prop} {w w' : World} (h : Stays R w w') : Stays R w w'.drew := ⟨h.os, h.tape, h.output, h.size, h.block⟩
theorem Stays.drewl {R : Nat → Prop} {w w' : World} (h : Stays R w.drew w') : Stays R w w' := ⟨h.os, h.tape, h.output, h.size, h.block⟩
theorem Stays.allocr {R : Nat → Prop} {w w' : World} (h : Stays R w w') (ho : Old R w) (o : Obj) : Stays R w (w'.alloc o) :=
  ⟨h.os, h.tape, h.output, by have := h.size; simp; omega, fun k hk => (heap_alloc_old w' o (Nat.lt_of_lt_of_le (ho k hk) h.size)).trans (h.block k hk)⟩
theorem Stays.beside {R : Nat → Prop} {b : Nat} {w w' : World} (h : Stays R w w') : Beside R b w w' := ⟨h.os, h.tape, h.output, h.size, fun k hk _ => h.block k hk⟩
theorem Stays.below {R : Nat → Prop} {B : Nat} {w w' : World} (h : Stays R w w') (hb : ∀ k, k < B → R k) : Below B w w' := ⟨h.os, h.tape, h.output, h.size, fun k hk => h.block k (hb k hk)⟩
theorem Stays.of {R : Nat → Prop} {w w' : World} (h : Below w.heap.size w w') (ho : Old R w) : Stays R w w' := ⟨h.os, h.tape, h.output, h.size, fun k hk => h.block k (ho k hk)⟩
theorem Stays.mono {R R' : Nat → Prop} {w w' : World} (h : Stays R w w') (hr : ∀ k, R' k → R k) : Stays R' w w' := ⟨h.os, h.tape, h.output, h.size, fun k hk => h.block k (hr k hk)⟩
theorem stays_freeze {R : Nat → Prop} {w w' : World} (h : Stays R w w') {p : Addr} (hp : ¬ R p.block) (n : Nat) : Stays R w (w'.freeze p n) := by
  unfold World.freeze
  split
  · exact h
  · refine ⟨h.os, h.tape, h.output, by simp; exact h.size, fun k hk => ?_⟩
    simp only [Array.getElem?_modify]
    rw [if_neg (fun e : p.block = k => hp (by rw [e]; exact hk))]
    exact h.block k hk

/-- a row of the call's own that lies in no block named by Pr -/
def Lie (Pr : Nat → Prop) (e : TypeId) (size : Nat) (v : Value) (n : Nat) (xs : List Value) (w : World) : Prop :=
  w.ownsRow 0 e size v n xs ∧ ∀ g, v.ownBlock = some g → ¬ Pr g
theorem Lie.nil (Pr : Nat → Prop) (w : World) (e : TypeId) (size : Nat) : Lie Pr e size (.slice none 0 0) 0 [] w := ⟨World.ownsRow_nil _ _ _ _, by intro g hg; simp [Value.ownBlock] at hg⟩
theorem Lie.form {Pr : Nat → Prop} {e : TypeId} {size n : Nat} {v : Value} {xs : List Value} {w : World} (h : Lie Pr e size v n xs w) : ∃ A c, v = .slice A n c := own_form h.1
theorem own_set {R : Nat → Prop} {b n size : Nat} {e : TypeId} {w : World} {v : Value} {xs : List Value} (h : Lie R e size v n xs w) (hb : R b) (j : Nat) (u : Value) : Lie R e size v n xs (w.setCell ⟨b, j, none⟩ u) := by
  refine ⟨h.1.kept (row := some b) ⟨rfl, rfl, rfl, by simp [World.setCell], fun k _ hk => Below.heap_setCell _ _ _ _ (fun e => hk (by simp [e]))⟩ (Or.inr ?_), h.2⟩
  intro e1
  exact h.2 b e1 hb
/-- a row stands if its block does -/
theorem Lie.later {R : Nat → Prop} {n size : Nat} {e : TypeId} {w w' : World} {v : Value} {xs : List Value} (h : Lie R e size v n xs w) (hg : ∀ g, v.ownBlock = some g → w'.heap[g]? = w.heap[g]?) : Lie R e size v n xs w' := by
  refine ⟨⟨h.1.1, ?_⟩, h.2⟩
  rcases h.1.2 with hn | ⟨g, cap, cur, rfl, hb, hgg, rest⟩
  · exact .inl hn
  · exact .inr ⟨g, cap, cur, rfl, hb, (hg g rfl).trans hgg, rest⟩
theorem Lie.shift {R R' : Nat → Prop} {n size : Nat} {e : TypeId} {w : World} {v : Value} {xs : List Value} (h : Lie R e size v n xs w) (hr : ∀ g, v.ownBlock = some g → ¬ R' g) : Lie R' e size v n xs w := ⟨h.1, hr⟩
theorem Lie.below {R : Nat → Prop} {n size : Nat} {e : TypeId} {w w' : World} {v : Value} {xs : List Value} (h : Lie R e size v n xs w) (hb : Below w.heap.size w w') : Lie R e size v n xs w' :=
  h.later fun g hg => hb.block g (h.1.lt g hg).2
theorem Lie.rd {R : Nat → Prop} {n size : Nat} {e : TypeId} {w : World} {A : Option Addr} {c : Nat} {xs : List Value} (h : Lie R e size (.slice A n c) n xs w) : Rd w size A n xs := by
  obtain ⟨A', c', hv, hr⟩ := Rd.of_own h.1
  obtain ⟨rfl, rfl⟩ : A = A' ∧ c = c' := by simpa using hv
  exact hr
theorem Lie.made (R : Nat → Prop) (w : World) (e : TypeId) (size : Nat) (ho : Old R w) : Lie R e size (.slice (some ⟨w.heap.size, 0, none⟩) 0 0) 0 [] (w.alloc (.cells #[] e)) :=
  ⟨World.ownsRow_made _ #[] 0 (Nat.zero_le _) (by decide) (by simp), by
    intro g hg hR
    have e1 : w.heap.size = g := by simpa [Value.ownBlock] using hg
    have := ho g hR
    omega⟩

/-- 'append(s, x)': one element -/
theorem wpList_append_elem_row {P : Program} {ops : Array Oper} {rest : List Oper} {o : Oper} {a : Act} {Q : Exit → Act → World → Prop} (hgd : o.guard = none) (s x : Operand) (T : TypeId)
    (ho : o.op = Op.call { callee := Callee.builtin Builtin.append, args := #[s, x], argTypes := #[T, T] })
    (e : TypeId) (z : Value) (size bytes : Nat) (ht : P.underlying T = some (.slice e)) (hinf : (P.info? e).map (fun i => (i.zero, i.size, i.bytes)) = some (some z, size, bytes))
    (hzs : z.cells.size = size) (hsz : 0 < size) (Pr : Nat → Prop) (n : Nat) (xs : List Value) (v : Value) (w0 : World) (us : Array Value) (hus : us.size = size) (h1 : ∀ u ∈ us.toList, u.oneCell' = true)
    (hown : Lie Pr e size v n xs w0) (hs : a.eval s = v) (hold : Old Pr w0) (hx : a.eval x = .slice (some ⟨w0.heap.size, 0, none⟩) 1 1)
    (hn : n + 1 ≤ maxLen) (hb : (n + 1) * bytes ≤ 140737488355328)
    (h : ∀ v' w', Lie Pr e size v' (n + 1) (xs ++ us.toList) w' → Stays Pr w0 w' → w0.grownBy w' v.ownBlock → (v'.ownBlock = v.ownBlock ∨ ∃ g, v'.ownBlock = some g ∧ w0.heap.size ≤ g) → wpList P ops Q rest (a.put o.dst v') w') :
    wpList P ops Q (o :: rest) a (w0.alloc (.cells us e)) := by
  obtain ⟨i, hi, hz, hz1, hz2⟩ := info_parts hinf
  have hg0 := World.grownBy_alloc w0 (.cells us e) v.ownBlock
  refine wpList_append_own_at _ hgd s x T ho 0 e i z size bytes ht hi hz hz1 hz2 hzs hsz v n xs hs (hown.1.alloc _) ⟨w0.heap.size, 0, none⟩ 1 1 us.toList hx (by simp [hus]) (cell_new w0 us e) h1 hn hb (Nat.zero_le _) ?_
  intro v' w' hown' hgr hnil hat
  have hgr' : w0.grownBy w' v.ownBlock := hg0.trans hgr
  have hat' : v'.ownBlock = v.ownBlock ∨ ∃ g, v'.ownBlock = some g ∧ w0.heap.size ≤ g := by
    rcases hat with h1 | h1
    · exact .inl h1
    · exact .inr ⟨_, h1, by simp⟩
  refine h v' w' ⟨hown', fun g hg hR => ?_⟩ ⟨hgr'.os, hgr'.tape, hgr'.output, hgr'.size, fun k hk => hgr'.block k (hold k hk) (fun e1 => hown.2 k e1.symm hk)⟩ hgr' hat'
  rcases hat' with h1 | ⟨g', h1, h2⟩
  · exact hown.2 g (h1.symm.trans hg) hR
  · rw [h1] at hg
    obtain rfl : g' = g := by simpa using hg
    have := hold _ hR
    omega

/-- 'append(s, l...)': whatever is read -/
theorem run_append_rd_row {P : Program} (T ty e : TypeId) (z : Value) (size bytes : Nat) (ht : P.underlying T = some (.slice e)) (hinf : (P.info? e).map (fun i => (i.zero, i.size, i.bytes)) = some (some z, size, bytes))
    (hzs : z.cells.size = size) (hsz : 0 < size) (Pr : Nat → Prop) (n : Nat) (xs : List Value) (v : Value) (w0 : World)
    (hown : Lie Pr e size v n xs w0) (hold : Old Pr w0)
    (A : Option Addr) (m c : Nat) (news : List Value) (hrd : Rd w0 size A m news) (h1 : ∀ u ∈ news, u.oneCell' = true)
    (hn : n + m ≤ maxLen) (hb : (n + m) * bytes ≤ 140737488355328) :
    ∃ v' w', (Builtin.append_ #[T, T] ty #[v, .slice A m c]).run P w0 = .ok v' w' ∧ Lie Pr e size v' (n + m) (xs ++ news) w' ∧ Stays Pr w0 w' ∧ w0.grownBy w' v.ownBlock ∧ (v'.ownBlock = v.ownBlock ∨ ∃ g, v'.ownBlock = some g ∧ w0.heap.size ≤ g) := by
  obtain ⟨i, hi, hz, hz1, hz2⟩ := info_parts hinf
  have fin : ∀ v' w', w'.ownsRow 0 e size v' (n + m) (xs ++ news) → w0.grownBy w' v.ownBlock → (v'.ownBlock = v.ownBlock ∨ ∃ g, v'.ownBlock = some g ∧ w0.heap.size ≤ g) → Lie Pr e size v' (n + m) (xs ++ news) w' ∧ Stays Pr w0 w' := by
    intro v' w' hown' hgr' hat'
    refine ⟨⟨hown', fun g hg hR => ?_⟩, ⟨hgr'.os, hgr'.tape, hgr'.output, hgr'.size, fun k hk => hgr'.block k (hold k hk) (fun e1 => hown.2 k e1.symm hk)⟩⟩
    rcases hat' with h1 | ⟨g', h1, h2⟩
    · exact hown.2 g (h1.symm.trans hg) hR
    · rw [h1] at hg
      obtain rfl : g' = g := by simpa using hg
      have := hold _ hR
      omega
  have some_case : ∀ ad, (∀ j u, news[j]? = some u → w0.cell? (ad.add j) = some u) → ∃ v' w', (Builtin.append_ #[T, T] ty #[v, .slice (some ad) m c]).run P w0 = .ok v' w' ∧ Lie Pr e size v' (n + m) (xs ++ news) w' ∧ Stays Pr w0 w' ∧ w0.grownBy w' v.ownBlock ∧ (v'.ownBlock = v.ownBlock ∨ ∃ g, v'.ownBlock = some g ∧ w0.heap.size ≤ g) := by
    intro ad hnews
    obtain ⟨v', w', hr, hown', hgr, _, hat⟩ := run_append_own_at (P := P) w0 0 T ty e i z size bytes ht hi hz hz1 hz2 hzs hsz v n xs hown.1 ad m c news hrd.1 hnews h1 hn hb (Nat.zero_le _)
    have hat' : v'.ownBlock = v.ownBlock ∨ ∃ g, v'.ownBlock = some g ∧ w0.heap.size ≤ g := by
      rcases hat with h1 | h1
      · exact .inl h1
      · exact .inr ⟨_, h1, Nat.le_refl _⟩
    obtain ⟨f1, f2⟩ := fin v' w' hown' hgr hat'
    exact ⟨v', w', hr, f1, f2, hgr, hat'⟩
  by_cases hm : 0 < m
  · obtain ⟨b, off, hA, _, hc⟩ := hrd.2 hm
    subst hA
    exact some_case _ fun j u hu => by rw [add_none]; exact hc j u hu
  · obtain rfl : m = 0 := by omega
    have hnil : news = [] := List.eq_nil_of_length_eq_zero (by rw [hrd.1]; simp)
    subst hnil
    match A with
    | some ad => exact some_case ad (by simp)
    | none =>
      have hg0 : w0.grownBy w0 v.ownBlock := ⟨rfl, rfl, rfl, Nat.le_refl _, fun _ _ _ => rfl⟩
      obtain ⟨f1, f2⟩ := fin v w0 (by simpa using hown.1) hg0 (.inl rfl)
      exact ⟨v, w0, run_append_owned_empty (P := P) (w := w0) 0 T ty e i size ht hi v n c xs hown.1, f1, f2, hg0, .inl rfl⟩

theorem wp_append_rd_row {P : Program} {o : Oper} {a : Act} {K : Act → World → Prop} {Q : Exit → Act → World → Prop} (s x : Operand) (T : TypeId)
    (ho : o.op = Op.call { callee := Callee.builtin Builtin.append, args := #[s, x], argTypes := #[T, T] })
    (e : TypeId) (z : Value) (size bytes : Nat) (ht : P.underlying T = some (.slice e)) (hinf : (P.info? e).map (fun i => (i.zero, i.size, i.bytes)) = some (some z, size, bytes))
    (hzs : z.cells.size = size) (hsz : 0 < size) (Pr : Nat → Prop) (n : Nat) (xs : List Value) (v : Value) (w0 : World)
    (hown : Lie Pr e size v n xs w0) (hs : a.eval s = v) (hold : Old Pr w0)
    (A : Option Addr) (m c : Nat) (news : List Value) (hx : a.eval x = .slice A m c) (hrd : Rd w0 size A m news) (h1 : ∀ u ∈ news, u.oneCell' = true)
    (hn : n + m ≤ maxLen) (hb : (n + m) * bytes ≤ 140737488355328)
    (h : ∀ v' w', Lie Pr e size v' (n + m) (xs ++ news) w' → Stays Pr w0 w' → w0.grownBy w' v.ownBlock → (v'.ownBlock = v.ownBlock ∨ ∃ g, v'.ownBlock = some g ∧ w0.heap.size ≤ g) → K (a.put o.dst v') w') : o.wp P a w0 K Q := by
  obtain ⟨v', w', hr, h2, h3, h4, h5⟩ := run_append_rd_row (P := P) T o.type e z size bytes ht hinf hzs hsz Pr n xs v w0 hown hold A m c news hrd h1 hn hb
  unfold Oper.wp execOp
  simp only [ho, resolve, invoke, builtin, Sem.run_bind, Sem.run_pure, Result.andThen_ok, List.map_toArray, List.map_cons, List.map_nil, hs, hx, hr]
  exact h v' w' h2 h3 h4 h5

theorem wpList_append_rd_row {P : Program} {ops : Array Oper} {rest : List Oper} {o : Oper} {a : Act} {Q : Exit → Act → World → Prop} (hgd : o.guard = none) (s x : Operand) (T : TypeId)
    (ho : o.op = Op.call { callee := Callee.builtin Builtin.append, args := #[s, x], argTypes := #[T, T] })
    (e : TypeId) (z : Value) (size bytes : Nat) (ht : P.underlying T = some (.slice e)) (hinf : (P.info? e).map (fun i => (i.zero, i.size, i.bytes)) = some (some z, size, bytes))
    (hzs : z.cells.size = size) (hsz : 0 < size) (Pr : Nat → Prop) (n : Nat) (xs : List Value) (v : Value) (w0 : World)
    (hown : Lie Pr e size v n xs w0) (hs : a.eval s = v) (hold : Old Pr w0)
    (A : Option Addr) (m c : Nat) (news : List Value) (hx : a.eval x = .slice A m c) (hrd : Rd w0 size A m news) (h1 : ∀ u ∈ news, u.oneCell' = true)
    (hn : n + m ≤ maxLen) (hb : (n + m) * bytes ≤ 140737488355328)
    (h : ∀ v' w', Lie Pr e size v' (n + m) (xs ++ news) w' → Stays Pr w0 w' → w0.grownBy w' v.ownBlock → (v'.ownBlock = v.ownBlock ∨ ∃ g, v'.ownBlock = some g ∧ w0.heap.size ≤ g) → wpList P ops Q rest (a.put o.dst v') w') :
    wpList P ops Q (o :: rest) a w0 :=
  wpList_plain hgd fun _ hK => wp_append_rd_row s x T ho e z size bytes ht hinf hzs hsz Pr n xs v w0 hown hs hold A m c news hx hrd h1 hn hb fun v' w' a1 a2 a3 a4 => hK _ _ (h v' w' a1 a2 a3 a4)

/-- at a step of a region that draws its order -/
theorem step_append_rd_row {P : Program} {ops : Array Oper} {o : Oper} {a : Act} {K : Act → World → Prop} {Q : Exit → Act → World → Prop} {E : Prop} (hgd : o.guard = none) (s x : Operand) (T : TypeId)
    (ho : o.op = Op.call { callee := Callee.builtin Builtin.append, args := #[s, x], argTypes := #[T, T] })
    (e : TypeId) (z : Value) (size bytes : Nat) (ht : P.underlying T = some (.slice e)) (hinf : (P.info? e).map (fun i => (i.zero, i.size, i.bytes)) = some (some z, size, bytes))
    (hzs : z.cells.size = size) (hsz : 0 < size) (Pr : Nat → Prop) (n : Nat) (xs : List Value) (v : Value) (w0 : World)
    (hown : Lie Pr e size v n xs w0) (hs : a.eval s = v) (hold : Old Pr w0)
    (A : Option Addr) (m c : Nat) (news : List Value) (hx : a.eval x = .slice A m c) (hrd : Rd w0 size A m news) (h1 : ∀ u ∈ news, u.oneCell' = true)
    (hn : n + m ≤ maxLen) (hb : (n + m) * bytes ≤ 140737488355328)
    (h : ∀ v' w', Lie Pr e size v' (n + m) (xs ++ news) w' → Stays Pr w0 w' → w0.grownBy w' v.ownBlock → (v'.ownBlock = v.ownBlock ∨ ∃ g, v'.ownBlock = some g ∧ w0.heap.size ≤ g) → K (a.put o.dst v') w') :
    if Region.wanted o (yielded ops a.tmps) = true then Oper.wp P o a w0 K Q else E := by
  have hw : Region.wanted o (yielded ops a.tmps) = true := by simp [Region.wanted, hgd]
  rw [if_pos hw]
  exact wp_append_rd_row s x T ho e z size bytes ht hinf hzs hsz Pr n xs v w0 hown hs hold A m c news hx hrd h1 hn hb h

/-! An object's footprint -/

/-- all but the blocks of F stands; F' is what of F is left, and blocks that were made -/
structure Frm (F F' : Nat → Prop) (w w' : World) : Prop where
  os : w'.os = w.os
  tape : w'.tape = w.tape
  output : w'.output = w.output
  size : w.heap.size ≤ w'.heap.size
  block : ∀ k, k < w.heap.size → ¬ F k → w'.heap[k]? = w.heap[k]?
  new : ∀ k, F' k → F k ∨ w.heap.size ≤ k
theorem Frm.refl (F : Nat → Prop) (w : World) : Frm F F w w := ⟨rfl, rfl, rfl, Nat.le_refl _, fun _ _ _ => rfl, fun _ h => .inl h⟩
theorem Frm.trans {F F' F'' : Nat → Prop} {a b c : World} (h : Frm F F' a b) (k : Frm F' F'' b c) : Frm F F'' a c :=
  ⟨k.os.trans h.os, k.tape.trans h.tape, k.output.trans h.output, Nat.le_trans h.size k.size, fun i hi hF => (k.block i (Nat.lt_of_lt_of_le hi h.size) (fun e => by
    rcases h.new i e with h1 | h1
    · exact hF h1
    · omega)).trans (h.block i hi hF), fun i hi => by
    rcases k.new i hi with h1 | h1
    · exact h.new i h1
    · exact .inr (Nat.le_trans h.size h1)⟩
theorem Frm.below {F F' : Nat → Prop} {B : Nat} {w w' : World} (h : Frm F F' w w') (hB : B ≤ w.heap.size) (hF : ∀ k, F k → B ≤ k) : Below B w w' :=
  ⟨h.os, h.tape, h.output, h.size, fun k hk => h.block k (by omega) (fun e => by have := hF k e; omega)⟩
theorem Frm.of {F : Nat → Prop} {w w' : World} (h : Below w.heap.size w w') : Frm F F w w' := ⟨h.os, h.tape, h.output, h.size, fun k hk _ => h.block k hk, fun _ h => .inl h⟩
/-- what lies in no block of F stands -/
theorem Frm.other {F F' G : Nat → Prop} {w w' : World} (h : Frm F F' w w') (hd : ∀ k, F k → ¬ G k) (hG : ∀ k, G k → k < w.heap.size) : ∀ k, G k → w'.heap[k]? = w.heap[k]? :=
  fun k hk => h.block k (hG k hk) (fun e => hd k e hk)
theorem Frm.apart {F F' G : Nat → Prop} {w w' : World} (h : Frm F F' w w') (hd : ∀ k, F k → ¬ G k) (hG : ∀ k, G k → k < w.heap.size) : ∀ k, F' k → ¬ G k := fun k hk hg => by
  rcases h.new k hk with h1 | h1
  · exact hd k h1 hg
  · have := hG k hg; omega
end Go.Proofs.YtbheoahpaidpmaaDoor
