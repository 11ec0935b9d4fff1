/-
  Plain: what the law 'DeltaParts' makes; parts of rows.
-/
import Derived.Test.YtjendmojkdkipaaRDDec
import Derived.Test.YtjendmojkdkipaaSampEq
import Derived.Test.YtjendmojkdkipaaLawDeltaTurns
namespace Go.Proofs.Ytjendmojkdkipaa
open Go Go.RowKit Go.Deep Go.ChangeShapes Go.WideShapes

def byteCell (c : Nat) : List Value := [.int .u8 (c : Int)]
theorem byteCell_length (c : Nat) : (byteCell c).length = 1 := rfl
section
variable {H : Type} {enc : TypeId × Value → H} {w : World}
theorem byte_elem : ∀ n cs y, cs.length = 1 → DataW.trod enc Try.prog w 0 (fun _ => true) true n 5 cs = some y → ∃ x : Nat, cs = byteCell x ∧ x < 256 := by
  intro n cs y hl h
  match cs, hl with
  | [v], _ =>
    obtain ⟨a, ha, _, wa⟩ := DataW.trod_int Try.underlying5 h
    simp at ha
    subst ha
    have hb := bounds_u8 wa
    obtain ⟨k, rfl⟩ := Int.eq_ofNat_of_zero_le hb.1
    exact ⟨k, rfl, by omega⟩
theorem read_bytes {v : Value} {d : DataW H} {p : List MemPlace} {r : Reach} {b0 : Nat} (hv : Value.okWide Try.prog w r b0 37 v) (h : DataW.Trod enc Try.prog w 0 (fun _ => true) true 37 v d p) :
    ∃ A c, ∃ xs : List Nat, v = .slice A xs.length c ∧ Rd w 1 A xs.length (xs.flatMap byteCell) ∧ (∀ x ∈ xs, x < 256) ∧ xs.length ≤ c ∧ c ≤ maxLen :=
  read_slice byteCell_length (by decide) Try.underlying37 (by kernel_rfl) byte_elem hv h
end
theorem byte_at {w : World} {A : Option Addr} {n : Nat} {xs : List Nat} (h : Rd w 1 A n (xs.flatMap byteCell)) {i : Nat} (hi : i < xs.length) :
    ∃ b off, A = some ⟨b, off, none⟩ ∧ b < w.heap.size ∧ w.cell? ⟨b, off + i, none⟩ = some (.int .u8 (xs[i] : Int)) := by
  obtain ⟨b, off, e, hb, hc⟩ := h.elem byteCell_length (by decide) hi
  exact ⟨b, off, e, hb, by have := hc 0 _ rfl; rwa [Nat.mul_one, Nat.add_zero] at this⟩

/-- the times, one behind the other; the samples -/
def timeP (ts : List Nat) : Nat → Nat
  | 0 => 0
  | j + 1 => timeP ts j + (1 + ts.getD j 0)
def partV (vs : List Int) (j : Nat) : Int := if j < vs.length then vs.getD j 0 else (j : Int)
def partL (ts : List Nat) (vs : List Int) (n : Nat) : List Sample := (List.range n).map fun j => ⟨(timeP ts (j + 1) : Int), partV vs j⟩
theorem partL_length (ts : List Nat) (vs : List Int) (n : Nat) : (partL ts vs n).length = n := by simp [partL]
theorem partL_next (ts : List Nat) (vs : List Int) (n : Nat) : partL ts vs (n + 1) = partL ts vs n ++ [⟨(timeP ts (n + 1) : Int), partV vs n⟩] := by simp [partL, List.range_succ]
theorem timeP_le {ts : List Nat} (h : ∀ x ∈ ts, x < 256) : ∀ j, timeP ts j ≤ 256 * j := by
  intro j
  induction j with
  | zero => simp [timeP]
  | succ j ih =>
    have hx : ts.getD j 0 < 256 := by
      rw [List.getD_eq_getElem?_getD]
      by_cases hj : j < ts.length
      · rw [List.getElem?_eq_getElem hj]; exact h _ (List.getElem_mem hj)
      · rw [List.getElem?_eq_none (by omega)]; decide
    simp only [timeP]
    omega
theorem partV_in {vs : List Int} (h : ∀ x ∈ vs, In64 x) {j : Nat} (hj : j ≤ 1000) : In64 (partV vs j) := by
  unfold partV
  split
  · rename_i h1
    rw [List.getD_eq_getElem?_getD, List.getElem?_eq_getElem h1]
    exact h _ (List.getElem_mem h1)
  · unfold In64; omega
theorem partL_fine {ts : List Nat} {vs : List Int} {n : Nat} (ht : ∀ x ∈ ts, x < 256) (hv : ∀ x ∈ vs, In64 x) (hn : n ≤ 60) : Fine (partL ts vs n) ∧ ∀ x ∈ partL ts vs n, Sample.ok x := by
  have hg : ∀ i, (h : i < (partL ts vs n).length) → (partL ts vs n)[i] = ⟨(timeP ts (i + 1) : Int), partV vs i⟩ := fun i h => by simp [partL]
  refine ⟨⟨fun x hx => ?_, fun i hi => ?_⟩, fun x hx => ?_⟩
  · obtain ⟨i, hi, rfl⟩ := List.getElem_of_mem hx
    rw [hg i hi]
    rw [partL_length] at hi
    have := timeP_le ht (i + 1)
    simp only
    omega
  · rw [hg _ hi, hg i (by omega)]
    have h1 : timeP ts (i + 1 + 1) = timeP ts (i + 1) + (1 + ts.getD (i + 1) 0) := rfl
    simp only
    omega
  · obtain ⟨i, hi, rfl⟩ := List.getElem_of_mem hx
    rw [hg i hi]
    rw [partL_length] at hi
    have := timeP_le ht (i + 1)
    exact ⟨by unfold In64; simp only; omega, partV_in hv (by omega)⟩
theorem fine_take {l : List Sample} (h : Fine l) (k : Nat) : Fine (l.take k) := by
  refine ⟨fun x hx => h.1 x (List.mem_of_mem_take hx), fun i hi => ?_⟩
  rw [List.length_take] at hi
  rw [List.getElem_take, List.getElem_take]
  exact h.2 i (by omega)
theorem fine_drop {l : List Sample} (h : Fine l) (k : Nat) : Fine (l.drop k) := by
  refine ⟨fun x hx => h.1 x (List.mem_of_mem_drop hx), fun i hi => ?_⟩
  rw [List.length_drop] at hi
  rw [List.getElem_drop, List.getElem_drop]
  exact h.2 (k + i) (by omega)
theorem flat_take {α : Type} {f : α → List Value} {C : Nat} (hC : ∀ x, (f x).length = C) (l : List α) (k : Nat) : (l.take k).flatMap f = (l.flatMap f).take (k * C) := by
  induction l generalizing k with
  | nil => simp
  | cons x l ih =>
    cases k with
    | zero => simp
    | succ k =>
      rw [List.take_succ_cons, List.flatMap_cons, List.flatMap_cons, ih k, List.take_append, hC, Nat.succ_mul, Nat.add_sub_cancel]
      rw [List.take_of_length_le (l := f x) (by rw [hC]; omega)]
theorem flat_drop {α : Type} {f : α → List Value} {C : Nat} (hC : ∀ x, (f x).length = C) (l : List α) (k : Nat) : (l.drop k).flatMap f = (l.flatMap f).drop (k * C) := by
  induction l generalizing k with
  | nil => simp
  | cons x l ih =>
    cases k with
    | zero => simp
    | succ k =>
      rw [List.drop_succ_cons, List.flatMap_cons, ih k, List.drop_append, hC, Nat.succ_mul, Nat.add_sub_cancel]
      rw [List.drop_of_length_le (l := f x) (by rw [hC]; omega), List.nil_append]
/-- the first k elements; those from k on -/
theorem Rd.take {w : World} {A : Option Addr} {l : List Sample} (h : Rd w 2 A l.length (l.flatMap sampleCells)) {k : Nat} (hk : k ≤ l.length) : Rd w 2 A k ((l.take k).flatMap sampleCells) := by
  refine ⟨by rw [flatMap_length sampleCells_length, List.length_take]; congr 1; omega, fun hp => ?_⟩
  obtain ⟨b, off, e, hb, hc⟩ := h.2 (by omega)
  refine ⟨b, off, e, hb, fun j u hu => hc j u ?_⟩
  rw [flat_take sampleCells_length] at hu
  have hj := (List.getElem?_eq_some_iff.1 hu).1
  rw [List.length_take] at hj
  rwa [List.getElem?_take_of_lt (by omega)] at hu
theorem Rd.drop {w : World} {b off : Nat} {l : List Sample} (h : Rd w 2 (some ⟨b, off, none⟩) l.length (l.flatMap sampleCells)) {k : Nat} (hk : k ≤ l.length) : Rd w 2 (some ⟨b, off + k * 2, none⟩) (l.length - k) ((l.drop k).flatMap sampleCells) := by
  refine ⟨by rw [flatMap_length sampleCells_length, List.length_drop], fun hp => ?_⟩
  obtain ⟨b', off', e, hb, hc⟩ := h.2 (by omega)
  obtain ⟨rfl, rfl⟩ : b = b' ∧ off = off' := by simpa using e
  refine ⟨b, off + k * 2, rfl, hb, fun j u hu => ?_⟩
  rw [flat_drop sampleCells_length, List.getElem?_drop] at hu
  have := hc _ u hu
  rwa [← Nat.add_assoc] at this
end Go.Proofs.Ytjendmojkdkipaa
