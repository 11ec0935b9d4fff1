/-
  runs: what of a block's rows is in a range: the closure, IndexFunc, DeleteFunc.
-/
import Derived.Test.YthmikefinibecaaRunBlk
import Derived.Test.YthmikefinibecaaRunRead3
import Derived.Lib.SliceRun
namespace Go.Proofs.Ythmikefinibecaa
open Go Go.RowKit

theorem below_cells {B b : Nat} {a : World} (hb : B ≤ b) : ∀ (vs : List Value) (o : Nat) (w : World), Below B a w → Below B a (w.setCells b o vs)
  | [], _, _, h => h
  | v :: r, o, _, h => below_cells hb r (o + 1) _ (h.setCell (p := ⟨b, o, none⟩) hb v)
theorem size_cells (b : Nat) : ∀ (vs : List Value) (o : Nat) (w : World), (w.setCells b o vs).heap.size = w.heap.size
  | [], _, _ => rfl
  | v :: r, o, w => by rw [World.setCells, size_cells b r]; simp [World.setCell]
/-- clear, of a slice of elements of any number of cells -/
theorem run_clear_rows {P : Program} (w : World) (t e : TypeId) (z : Value) (size : Nat) (ht : P.underlying t = some (.slice e)) (hv : ∀ w, (zeroValue e).run P w = .ok z w) (hz : z.cells.size = size) (hp : 0 < size) (h1 : ∀ u ∈ z.cells.toList, u.oneCell' = true) (b o n c : Nat)
    (hc : ∀ j, j < n * size → (w.cell? ⟨b, o + j, none⟩).isSome = true) (hf : ∀ j, j < n * size → w.frozen? ⟨b, o + j, none⟩ = false) :
    ∃ vs, vs.length = n * size ∧ ∀ ty, (Builtin.clear_ #[t] ty #[.slice (some ⟨b, o, none⟩) n c]).run P w = .ok (.tuple #[]) (w.setCells b o vs) := by
  refine ⟨(Builtin.zeroCells z.cells n).toList, by simp [Builtin.zeroCells, hz], fun ty => ?_⟩
  have hst := run_storeCells_cells (P := P) b o (Builtin.zeroCells z.cells n).toList 0 w (by simpa [Builtin.zeroCells, hz] using hc) (by simpa [Builtin.zeroCells, hz] using hf) (by
    intro v hv'
    simp only [Builtin.zeroCells, Array.toList_map, List.mem_map] at hv'
    obtain ⟨i, -, rfl⟩ := hv'
    refine h1 _ ?_
    rw [hz]
    have hi : i % size < z.cells.size := by rw [hz]; exact Nat.mod_lt _ hp
    rw [getElem!_pos z.cells _ hi]
    simp)
  simp only [Nat.add_zero] at hst
  cases n with
  | zero => simp [Builtin.clear_, run_underlying ht, Builtin.zeroCells, World.setCells]
  | succ m => simp [Builtin.clear_, run_underlying ht, hv, hst]
theorem rows_set : ∀ (i : Nat) (ys : List Row) (r : Row), i < ys.length → (((ys.flatMap rowCells).set (i * 3) (.int .i64 r.T)).set (i * 3 + 1) (.int .i64 r.ID)).set (i * 3 + 2) (.int .i64 r.V) = (ys.set i r).flatMap rowCells := by
  intro i
  induction i with
  | zero =>
    intro ys r h
    cases ys with
    | nil => simp at h
    | cons y ys => simp [rowCells]
  | succ i ih =>
    intro ys r h
    cases ys with
    | nil => simp at h
    | cons y ys =>
      have := ih ys r (by simpa using h)
      rw [List.set_cons_succ, List.flatMap_cons, List.flatMap_cons, ← this]
      rw [show (i + 1) * 3 = i * 3 + 3 by omega]
      simp only [rowCells, List.cons_append, List.nil_append]
      rw [show i * 3 + 3 = (i * 3 + 2) + 1 by omega, List.set_cons_succ, List.set_cons_succ, List.set_cons_succ]
      simp only [List.set_cons_succ]

set_option linter.unusedSimpArgs false in
set_option maxRecDepth 100000 in
set_option maxHeartbeats 1000000 in
theorem inrange_any (x y : Int) (r : Row) (b : Nat) (w : World) (h0 : w.cell? ⟨b, 0, none⟩ = some (.int .i64 x)) (h1 : w.cell? ⟨b, 1, none⟩ = some (.int .i64 y)) :
    Calls Try.prog 24 #[rowVal r, .pointer (some ⟨b, 0, none⟩)] w fun e w' => e = .returned (.bool (!inR x y r)) ∧ Below w.heap.size w w' := by
  unfold rowVal inR
  obtain ⟨T, I, V⟩ := r
  simp only
  have hbl := World.block_lt_of_cell? w _ h0
  simp only at hbl
  have c0 : (w.alloc (.cells #[.int .i64 T, .int .i64 I, .int .i64 V] 36)).cell? ⟨b, 0, none⟩ = some (.int .i64 x) := Lib.cell?_alloc_some _ h0
  have c1 : (w.alloc (.cells #[.int .i64 T, .int .i64 I, .int .i64 V] 36)).cell? ⟨b, 1, none⟩ = some (.int .i64 y) := Lib.cell?_alloc_some _ h1
  have hc : T < x ∨ (¬ T < x ∧ y ≤ T) ∨ (¬ T < x ∧ ¬ y ≤ T) := by omega
  rcases hc with h | ⟨h, h'⟩ | ⟨h, h'⟩
  · rw [show decide (x ≤ T) = false from decide_eq_false (by omega)]
    have k1 : decide (T < x) = true := decide_eq_true h
    clear h
    go_enter Try.func24, Try.ntmps24
    go_wp2_with fail
    go_ret
    exact ⟨rfl, (Below.refl _ w).alloc (Nat.le_refl _) _⟩
  · rw [show decide (x ≤ T) = true from decide_eq_true (by omega), show decide (T < y) = false from decide_eq_false (by omega)]
    have k1 : decide (T < x) = false := decide_eq_false h
    have k2 : decide (y ≤ T) = true := decide_eq_true h'
    clear h h'
    go_enter Try.func24, Try.ntmps24
    go_wp2_with fail
    go_ret
    exact ⟨rfl, (Below.refl _ w).alloc (Nat.le_refl _) _⟩
  · rw [show decide (x ≤ T) = true from decide_eq_true (by omega), show decide (T < y) = true from decide_eq_true (by omega)]
    have k1 : decide (T < x) = false := decide_eq_false h
    have k2 : decide (y ≤ T) = false := decide_eq_false h'
    clear h h'
    go_enter Try.func24, Try.ntmps24
    go_wp2_with fail
    go_ret
    exact ⟨rfl, (Below.refl _ w).alloc (Nat.le_refl _) _⟩

/-- what IndexFunc answers: the first row that is not in the range -/
def IdxPost (x y : Int) (xs : List Row) (w : World) (e : Ending) (w' : World) : Prop :=
  Below w.heap.size w w' ∧ (((∀ r ∈ xs, inR x y r = true) ∧ e = .returned (.int .i64 (-1))) ∨ ∃ (i : Nat) (h : i < xs.length), inR x y xs[i] = false ∧ (∀ j, (hj : j < i) → inR x y (xs[j]'(by omega)) = true) ∧ e = .returned (.int .i64 i))

set_option linter.unusedSimpArgs false in
set_option maxRecDepth 100000 in
set_option maxHeartbeats 1000000 in
theorem index_at (x y : Int) (b : Nat) (A : Option Addr) (c n : Nat) (xs : List Row) (w : World) (h0 : w.cell? ⟨b, 0, none⟩ = some (.int .i64 x)) (h1 : w.cell? ⟨b, 1, none⟩ = some (.int .i64 y)) (hr : Rd w 3 A n (xs.flatMap rowCells)) (hn : xs.length = n) (hl : n ≤ 16) :
    Calls Try.prog 39 #[.slice A n c, .func (.func 24) #[] #[.pointer (some ⟨b, 0, none⟩)]] w (IdxPost x y xs w) := by
  have HR := Lib.hid hr
  have HN := Lib.hid hn
  have H0 := Lib.hid h0
  have H1 := Lib.hid h1
  clear hr hn h0 h1
  go_enter Try.func39, Try.ntmps39
  go_wp2_with fail
  go_loopw [8] (fun ix wr => ∃ i : Nat, ix = .int .i64 i ∧ i ≤ n ∧ (∀ j, j < i → ∃ h : j < xs.length, inR x y xs[j] = true) ∧ Below w.heap.size w wr) (fun ix _ => n - (intOf ix).toNat)
  case atStart => exact ⟨0, rfl, by omega, fun j hj => absurd hj (by omega), Below.refl _ _⟩
  case round =>
    obtain ⟨i, rfl, hi, hall, hbel⟩ := hrel
    have Hall := Lib.hid hall
    have Hbel := Lib.hid hbel
    clear hall hbel
    by_cases hlt : i < n
    · have hlt' : i < xs.length := by have := HN.out; omega
      obtain ⟨gb, off, rfl, hgb, s0, s1, s2⟩ := row_at (HR.out.below Hbel.out) hlt'
      have hk1 : (i : Int) < n := by omega
      have HC := Lib.hid (inrange_any x y xs[i] b wr (keepc Hbel.out H0.out) (keepc Hbel.out H1.out))
      obtain ⟨r, hr⟩ : ∃ r, xs[i] = r := ⟨_, rfl⟩
      rw [hr] at s0 s1 s2 HC
      have Hr := Lib.hid (show ∀ h : i < xs.length, xs[i]'h = r from fun _ => hr)
      clear hr hlt'
      obtain ⟨T, I, V⟩ := r
      simp only at s0 s1 s2
      cases hb : inR x y ⟨T, I, V⟩ with
      | true =>
        rw [hb] at HC
        have Hb := Lib.hid hb
        clear hb
        go_wp2_with fail
        refine HC.out.mono ?_
        rintro e w1 ⟨rfl, hb1⟩
        have Hb1 := Lib.hid (Hbel.out.trans (hb1.mono Hbel.out.size))
        clear hb1
        go_wp2_with fail
        go_roundw
        case rel => exact ⟨i + 1, by go_num, by omega, fun j hj => by
            have := HN.out
            by_cases e : j = i
            · subst e; exact ⟨by omega, by rw [Hr.out]; exact Hb.out⟩
            · exact Hall.out j (by omega), Hb1.out⟩
        case measure => simp [intOf]; omega
      | false =>
        rw [hb] at HC
        have Hb := Lib.hid hb
        clear hb
        go_wp2_with fail
        refine HC.out.mono ?_
        rintro e w1 ⟨rfl, hb1⟩
        have Hb1 := Lib.hid (Hbel.out.trans (hb1.mono Hbel.out.size))
        clear hb1
        go_wp2_with fail
        go_ret
        exact ⟨Hb1.out, .inr ⟨i, by have := HN.out; omega, by rw [Hr.out]; exact Hb.out, fun j hj => (Hall.out j hj).2, rfl⟩⟩
    · obtain rfl : i = n := by omega
      go_wp2_with fail
      go_ret
      refine ⟨Hbel.out, .inl ⟨fun r hr => ?_, rfl⟩⟩
      obtain ⟨j, hj, rfl⟩ := List.getElem_of_mem hr
      exact (Hall.out j (by have := HN.out; omega)).2
end Go.Proofs.Ythmikefinibecaa
