/-
  Parts as they lie; Clone, IndexFunc, DeleteFunc over them.
-/
import Derived.Test.YtbheoahpaidpmaaDoorManP
import Derived.Test.YtbheoahpaidpmaaDoorPackB
import Derived.Lib.SliceRun
namespace Go.Proofs.YtbheoahpaidpmaaDoor
open Go Go.RowKit

def partCells (p : PartV) : List Value := [.int .i64 p.Day, .int .i64 p.Layout, .string (S p.File)]
theorem partCells_length (p : PartV) : (partCells p).length = 3 := rfl
def partVal (p : PartV) : Value := .agg #[.int .i64 p.Day, .int .i64 p.Layout, .string (S p.File)]
theorem part_at {w : World} {A : Option Addr} {n : Nat} {xs : List PartV} (h : Rd w 3 A n (xs.flatMap partCells)) {i : Nat} (hi : i < xs.length) :
    ∃ b off, A = some ⟨b, off, none⟩ ∧ b < w.heap.size ∧ w.cell? ⟨b, off + i * 3, none⟩ = some (.int .i64 xs[i].Day) ∧ w.cell? ⟨b, off + i * 3 + 1, none⟩ = some (.int .i64 xs[i].Layout) ∧ w.cell? ⟨b, off + i * 3 + 2, none⟩ = some (.string (S xs[i].File)) := by
  obtain ⟨b, off, e, hb, hc⟩ := h.elem partCells_length (by decide) hi
  exact ⟨b, off, e, hb, hc 0 _ rfl, by have := hc 1 _ rfl; rwa [← Nat.add_assoc] at this, by have := hc 2 _ rfl; rwa [← Nat.add_assoc] at this⟩
theorem partInf : (Tryd.prog.info? 40).map (fun i => (i.zero, i.size, i.bytes)) = some (some (.agg #[.int .i64 0, .int .i64 0, .string ⟨#[]⟩]), 3, 32) := by kernel_rfl
theorem parts_one {xs : List PartV} : ∀ u ∈ xs.flatMap partCells, u.oneCell' = true := fun u hu => by
  obtain ⟨p, -, hp⟩ := List.mem_flatMap.1 hu
  simp only [partCells, List.mem_cons, List.not_mem_nil, or_false] at hp
  rcases hp with rfl | rfl | rfl <;> rfl

theorem Lie.store {R : Nat → Prop} {n size c g : Nat} {e : TypeId} {w : World} {xs : List Value} (h : Lie R e size (.slice (some ⟨g, 0, none⟩) n c) n xs w) {j : Nat} (u : Value) : Lie R e size (.slice (some ⟨g, 0, none⟩) n c) n (xs.set j u) (w.setCell ⟨g, j, none⟩ u) := by
  refine ⟨⟨by rw [List.length_set]; exact h.1.1, ?_⟩, h.2⟩
  rcases h.1.2 with ⟨h1, _⟩ | ⟨g', cap, cur, hv, hb, hg, hn, hm, hs, ht⟩
  · simp at h1
  · right
    simp only [Value.slice.injEq, Option.some.injEq, Addr.mk.injEq] at hv
    obtain ⟨⟨rfl, _, _⟩, _, rfl⟩ := hv
    refine ⟨g, c, cur.setIfInBounds j u, rfl, hb, ?_, hn, hm, by simp [hs], ?_⟩
    · simp [World.setCell, Array.getElem?_modify, hg]
    · rw [← ht]; simp [List.take_set]
theorem Lie.cell {R : Nat → Prop} {n size c g : Nat} {e : TypeId} {w : World} {xs : List Value} (h : Lie R e size (.slice (some ⟨g, 0, none⟩) n c) n xs w) (j : Nat) : w.frozen? ⟨g, j, none⟩ = false := by
  rcases h.1.2 with ⟨h1, _⟩ | ⟨g', cap, cur, hv, hb, hg, hn, hm, hs, ht⟩
  · simp at h1
  · simp only [Value.slice.injEq, Option.some.injEq, Addr.mk.injEq] at hv
    obtain ⟨⟨rfl, _, _⟩, _, rfl⟩ := hv
    exact Lib.frozen_of_heap hg j
theorem Lie.own {R : Nat → Prop} {n size c : Nat} {e : TypeId} {w : World} {A : Option Addr} {xs : List Value} (h : Lie R e size (.slice A n c) n xs w) (hn : 0 < n) : ∃ g, A = some ⟨g, 0, none⟩ ∧ n ≤ c ∧ c ≤ maxLen := by
  rcases h.1.2 with ⟨h1, h2⟩ | ⟨g', cap, cur, hv, hb, hg, hn, hm, hs, ht⟩
  · omega
  · simp only [Value.slice.injEq] at hv
    obtain ⟨rfl, _, rfl⟩ := hv
    exact ⟨g', rfl, hn, hm⟩

theorem below_cells {B b : Nat} {a : World} (hb : B ≤ b) : ∀ (vs : List Value) (o : Nat) (w : World), Below B a w → Below B a (w.setCells b o vs)
  | [], _, _, h => h
  | v :: r, o, _, h => below_cells hb r (o + 1) _ (h.setCell (p := ⟨b, o, none⟩) hb v)
theorem size_cells (b : Nat) : ∀ (vs : List Value) (o : Nat) (w : World), (w.setCells b o vs).heap.size = w.heap.size
  | [], _, _ => rfl
  | v :: r, o, w => by rw [World.setCells, size_cells b r]; simp [World.setCell]
/-- clear, of a slice of elements of any number of cells -/
theorem run_clear_rows {P : Program} (w : World) (t e : TypeId) (z : Value) (size : Nat) (ht : P.underlying t = some (.slice e)) (hv : ∀ w, (zeroValue e).run P w = .ok z w) (hz : z.cells.size = size) (hp : 0 < size) (h1 : ∀ u ∈ z.cells.toList, u.oneCell' = true) (b o n c : Nat)
    (hc : ∀ j, j < n * size → (w.cell? ⟨b, o + j, none⟩).isSome = true) (hf : ∀ j, j < n * size → w.frozen? ⟨b, o + j, none⟩ = false) :
    ∃ vs, vs.length = n * size ∧ ∀ ty, (Builtin.clear_ #[t] ty #[.slice (some ⟨b, o, none⟩) n c]).run P w = .ok (.tuple #[]) (w.setCells b o vs) := by
  refine ⟨(Builtin.zeroCells z.cells n).toList, by simp [Builtin.zeroCells, hz], fun ty => ?_⟩
  have hst := run_storeCells_cells (P := P) b o (Builtin.zeroCells z.cells n).toList 0 w (by simpa [Builtin.zeroCells, hz] using hc) (by simpa [Builtin.zeroCells, hz] using hf) (by
    intro v hv'
    simp only [Builtin.zeroCells, Array.toList_map, List.mem_map] at hv'
    obtain ⟨i, -, rfl⟩ := hv'
    refine h1 _ ?_
    rw [hz]
    have hi : i % size < z.cells.size := by rw [hz]; exact Nat.mod_lt _ hp
    rw [getElem!_pos z.cells _ hi]
    simp)
  simp only [Nat.add_zero] at hst
  cases n with
  | zero => simp [Builtin.clear_, run_underlying ht, Builtin.zeroCells, World.setCells]
  | succ m => simp [Builtin.clear_, run_underlying ht, hv, hst]
theorem parts_set : ∀ (i : Nat) (ys : List PartV) (r : PartV), i < ys.length → (((ys.flatMap partCells).set (i * 3) (.int .i64 r.Day)).set (i * 3 + 1) (.int .i64 r.Layout)).set (i * 3 + 2) (.string (S r.File)) = (ys.set i r).flatMap partCells := by
  intro i
  induction i with
  | zero =>
    intro ys r h
    cases ys with
    | nil => simp at h
    | cons y ys => simp [partCells]
  | succ i ih =>
    intro ys r h
    cases ys with
    | nil => simp at h
    | cons y ys =>
      have := ih ys r (by simpa using h)
      rw [List.set_cons_succ, List.flatMap_cons, List.flatMap_cons, ← this]
      rw [show (i + 1) * 3 = i * 3 + 3 by omega]
      simp only [partCells, List.cons_append, List.nil_append]
      rw [show i * 3 + 3 = (i * 3 + 2) + 1 by omega, List.set_cons_succ, List.set_cons_succ, List.set_cons_succ]
      simp only [List.set_cons_succ]

set_option linter.unusedSimpArgs false in
set_option maxRecDepth 100000 in
set_option maxHeartbeats 1000000 in
theorem isday_f (d : Int) (r : PartV) (b : Nat) (w : World) (h0 : w.cell? ⟨b, 0, none⟩ = some (.int .i64 d)) :
    Calls Tryd.prog 28 #[partVal r, .pointer (some ⟨b, 0, none⟩)] w fun e w' => e = .returned (.bool (r.Day == d)) ∧ Below w.heap.size w w' := by
  unfold partVal
  obtain ⟨T, I, V⟩ := r
  simp only
  have hbl := World.block_lt_of_cell? w _ h0
  simp only at hbl
  have c0 : (w.alloc (.cells #[.int .i64 T, .int .i64 I, .string (S V)] 40)).cell? ⟨b, 0, none⟩ = some (.int .i64 d) := Lib.cell?_alloc_some _ h0
  go_enter Tryd.func28, Tryd.ntmps28
  go_wp2_with fail
  go_ret
  exact ⟨rfl, (Below.refl _ w).alloc (Nat.le_refl _) _⟩

/-- what IndexFunc answers: the first part of the day -/
def IdxPost_f (d : Int) (xs : List PartV) (w : World) (e : Ending) (w' : World) : Prop :=
  Below w.heap.size w w' ∧ (((∀ r ∈ xs, (r.Day == d) = false) ∧ e = .returned (.int .i64 (-1))) ∨ ∃ (i : Nat) (h : i < xs.length), (xs[i].Day == d) = true ∧ (∀ j, (hj : j < i) → ((xs[j]'(by omega)).Day == d) = false) ∧ e = .returned (.int .i64 i))

set_option linter.unusedSimpArgs false in
set_option maxRecDepth 100000 in
set_option maxHeartbeats 1000000 in
theorem index_f (d : Int) (b : Nat) (A : Option Addr) (c n : Nat) (xs : List PartV) (w : World) (h0 : w.cell? ⟨b, 0, none⟩ = some (.int .i64 d)) (hr : Rd w 3 A n (xs.flatMap partCells)) (hn : xs.length = n) (hl : n ≤ 1000000) :
    Calls Tryd.prog 27 #[.slice A n c, .func (.func 28) #[] #[.pointer (some ⟨b, 0, none⟩)]] w (IdxPost_f d xs w) := by
  have HR := Lib.hid hr
  have HN := Lib.hid hn
  have H0 := Lib.hid h0
  clear hr hn h0
  go_enter Tryd.func27, Tryd.ntmps27
  go_wp2_with fail
  go_loopw [8] (fun ix wr => ∃ i : Nat, ix = .int .i64 i ∧ i ≤ n ∧ (∀ j, j < i → ∃ h : j < xs.length, (xs[j].Day == d) = false) ∧ Below w.heap.size w wr) (fun ix _ => n - (intOf ix).toNat)
  case atStart => exact ⟨0, rfl, by omega, fun j hj => absurd hj (by omega), Below.refl _ _⟩
  case round =>
    obtain ⟨i, rfl, hi, hall, hbel⟩ := hrel
    have Hall := Lib.hid hall
    have Hbel := Lib.hid hbel
    clear hall hbel
    by_cases hlt : i < n
    · have hlt' : i < xs.length := by have := HN.out; omega
      obtain ⟨gb, off, rfl, hgb, s0, s1, s2⟩ := part_at (HR.out.below Hbel.out) hlt'
      have hk1 : (i : Int) < n := by omega
      have HC := Lib.hid (isday_f d xs[i] b wr (keepc Hbel.out H0.out))
      obtain ⟨r, hr⟩ : ∃ r, xs[i] = r := ⟨_, rfl⟩
      rw [hr] at s0 s1 s2 HC
      have Hr := Lib.hid (show ∀ h : i < xs.length, xs[i]'h = r from fun _ => hr)
      clear hr hlt'
      obtain ⟨T, I, V⟩ := r
      simp only at s0 s1 s2
      unfold partVal at HC
      simp only at HC
      cases hb : (T == d) with
      | false =>
        rw [hb] at HC
        have Hb := Lib.hid hb
        clear hb
        go_wp2_with fail
        refine HC.out.mono ?_
        rintro e w1 ⟨rfl, hb1⟩
        have Hb1 := Lib.hid (Hbel.out.trans (hb1.mono Hbel.out.size))
        clear hb1
        go_wp2_with fail
        go_roundw
        case rel => exact ⟨i + 1, by go_num, by omega, fun j hj => by
            have := HN.out
            by_cases e : j = i
            · subst e; exact ⟨by omega, by rw [Hr.out]; exact Hb.out⟩
            · exact Hall.out j (by omega), Hb1.out⟩
        case measure => simp [intOf]; omega
      | true =>
        rw [hb] at HC
        have Hb := Lib.hid hb
        clear hb
        go_wp2_with fail
        refine HC.out.mono ?_
        rintro e w1 ⟨rfl, hb1⟩
        have Hb1 := Lib.hid (Hbel.out.trans (hb1.mono Hbel.out.size))
        clear hb1
        go_wp2_with fail
        go_ret
        exact ⟨Hb1.out, .inr ⟨i, by have := HN.out; omega, by rw [Hr.out]; exact Hb.out, fun j hj => (Hall.out j hj).2, rfl⟩⟩
    · obtain rfl : i = n := by omega
      go_wp2_with fail
      go_ret
      refine ⟨Hbel.out, .inl ⟨fun r hr => ?_, rfl⟩⟩
      obtain ⟨j, hj, rfl⟩ := List.getElem_of_mem hr
      exact (Hall.out j (by have := HN.out; omega)).2

set_option linter.unusedSimpArgs false in
set_option maxRecDepth 100000 in
set_option maxHeartbeats 1000000 in
theorem isday_a (d : Int) (r : PartV) (b : Nat) (w : World) (h0 : w.cell? ⟨b, 1, none⟩ = some (.int .i64 d)) :
    Calls Tryd.prog 34 #[partVal r, .pointer (some ⟨b, 0, none⟩)] w fun e w' => e = .returned (.bool (r.Day == d)) ∧ Below w.heap.size w w' := by
  unfold partVal
  obtain ⟨T, I, V⟩ := r
  simp only
  have hbl := World.block_lt_of_cell? w _ h0
  simp only at hbl
  have c0 : (w.alloc (.cells #[.int .i64 T, .int .i64 I, .string (S V)] 40)).cell? ⟨b, 1, none⟩ = some (.int .i64 d) := Lib.cell?_alloc_some _ h0
  go_enter Tryd.func34, Tryd.ntmps34
  go_wp2_with fail
  go_ret
  exact ⟨rfl, (Below.refl _ w).alloc (Nat.le_refl _) _⟩

/-- what IndexFunc answers: the first part of the day -/
def IdxPost_a (d : Int) (xs : List PartV) (w : World) (e : Ending) (w' : World) : Prop :=
  Below w.heap.size w w' ∧ (((∀ r ∈ xs, (r.Day == d) = false) ∧ e = .returned (.int .i64 (-1))) ∨ ∃ (i : Nat) (h : i < xs.length), (xs[i].Day == d) = true ∧ (∀ j, (hj : j < i) → ((xs[j]'(by omega)).Day == d) = false) ∧ e = .returned (.int .i64 i))

set_option linter.unusedSimpArgs false in
set_option maxRecDepth 100000 in
set_option maxHeartbeats 1000000 in
theorem index_a (d : Int) (b : Nat) (A : Option Addr) (c n : Nat) (xs : List PartV) (w : World) (h0 : w.cell? ⟨b, 1, none⟩ = some (.int .i64 d)) (hr : Rd w 3 A n (xs.flatMap partCells)) (hn : xs.length = n) (hl : n ≤ 1000000) :
    Calls Tryd.prog 27 #[.slice A n c, .func (.func 34) #[] #[.pointer (some ⟨b, 0, none⟩)]] w (IdxPost_a d xs w) := by
  have HR := Lib.hid hr
  have HN := Lib.hid hn
  have H0 := Lib.hid h0
  clear hr hn h0
  go_enter Tryd.func27, Tryd.ntmps27
  go_wp2_with fail
  go_loopw [8] (fun ix wr => ∃ i : Nat, ix = .int .i64 i ∧ i ≤ n ∧ (∀ j, j < i → ∃ h : j < xs.length, (xs[j].Day == d) = false) ∧ Below w.heap.size w wr) (fun ix _ => n - (intOf ix).toNat)
  case atStart => exact ⟨0, rfl, by omega, fun j hj => absurd hj (by omega), Below.refl _ _⟩
  case round =>
    obtain ⟨i, rfl, hi, hall, hbel⟩ := hrel
    have Hall := Lib.hid hall
    have Hbel := Lib.hid hbel
    clear hall hbel
    by_cases hlt : i < n
    · have hlt' : i < xs.length := by have := HN.out; omega
      obtain ⟨gb, off, rfl, hgb, s0, s1, s2⟩ := part_at (HR.out.below Hbel.out) hlt'
      have hk1 : (i : Int) < n := by omega
      have HC := Lib.hid (isday_a d xs[i] b wr (keepc Hbel.out H0.out))
      obtain ⟨r, hr⟩ : ∃ r, xs[i] = r := ⟨_, rfl⟩
      rw [hr] at s0 s1 s2 HC
      have Hr := Lib.hid (show ∀ h : i < xs.length, xs[i]'h = r from fun _ => hr)
      clear hr hlt'
      obtain ⟨T, I, V⟩ := r
      simp only at s0 s1 s2
      unfold partVal at HC
      simp only at HC
      cases hb : (T == d) with
      | false =>
        rw [hb] at HC
        have Hb := Lib.hid hb
        clear hb
        go_wp2_with fail
        refine HC.out.mono ?_
        rintro e w1 ⟨rfl, hb1⟩
        have Hb1 := Lib.hid (Hbel.out.trans (hb1.mono Hbel.out.size))
        clear hb1
        go_wp2_with fail
        go_roundw
        case rel => exact ⟨i + 1, by go_num, by omega, fun j hj => by
            have := HN.out
            by_cases e : j = i
            · subst e; exact ⟨by omega, by rw [Hr.out]; exact Hb.out⟩
            · exact Hall.out j (by omega), Hb1.out⟩
        case measure => simp [intOf]; omega
      | true =>
        rw [hb] at HC
        have Hb := Lib.hid hb
        clear hb
        go_wp2_with fail
        refine HC.out.mono ?_
        rintro e w1 ⟨rfl, hb1⟩
        have Hb1 := Lib.hid (Hbel.out.trans (hb1.mono Hbel.out.size))
        clear hb1
        go_wp2_with fail
        go_ret
        exact ⟨Hb1.out, .inr ⟨i, by have := HN.out; omega, by rw [Hr.out]; exact Hb.out, fun j hj => (Hall.out j hj).2, rfl⟩⟩
    · obtain rfl : i = n := by omega
      go_wp2_with fail
      go_ret
      refine ⟨Hbel.out, .inl ⟨fun r hr => ?_, rfl⟩⟩
      obtain ⟨j, hj, rfl⟩ := List.getElem_of_mem hr
      exact (Hall.out j (by have := HN.out; omega)).2

set_option linter.unusedSimpArgs false in
set_option maxRecDepth 100000 in
set_option maxHeartbeats 1000000 in
theorem clone_any (A : Option Addr) (c n : Nat) (xs : List PartV) (w : World) (hr : Rd w 3 A n (xs.flatMap partCells)) (hn : xs.length = n) (hl : n ≤ 1000000) :
    Calls Tryd.prog 29 #[.slice A n c] w fun e w' => ∃ A' c', e = .returned (.slice A' n c') ∧ Lie (fun k => k < w.heap.size) 40 3 (.slice A' n c') n (xs.flatMap partCells) w' ∧ Below w.heap.size w w' := by
  have HR := Lib.hid hr
  have HN := Lib.hid hn
  clear hr hn
  cases A with
  | none =>
    have h0 : n = 0 := by
      rcases Nat.eq_zero_or_pos n with h | h
      · exact h
      · obtain ⟨b, off, e, -⟩ := HR.out.2 h
        cases e
    subst h0
    have hx : xs = [] := List.eq_nil_of_length_eq_zero HN.out
    subst hx
    have q : ∀ w, (binOp .eql 23 (.slice none 0 c) (.slice none 0 0)).run Tryd.prog w = .ok (.bool true) w := fun w => Lib.run_eql_slice_nil w _ _ none 0 c 0 0 Tryd.underlying23
    go_enter Tryd.func29, Tryd.ntmps29
    go_wp2_with fail
    go_ret
    exact ⟨none, 0, rfl, Lie.nil _ _ _ _, Below.refl _ _⟩
  | some a =>
    have hold : Old (fun k => k < w.heap.size) (w.alloc (.cells #[] 40)) := fun k hk => by simp; omega
    have HM := Lib.hid (Lie.made (fun k => k < w.heap.size) w 40 3 (fun k hk => hk))
    have HB := Lib.hid (Below.one w (.cells #[] 40))
    have HR1 := Lib.hid (HR.out.below HB.out)
    have q : ∀ w, (binOp .eql 23 (.slice (some a) n c) (.slice none 0 0)).run Tryd.prog w = .ok (.bool false) w := fun w => Lib.run_eql_slice_nil w _ _ (some a) n c 0 0 Tryd.underlying23
    go_enter Tryd.func29, Tryd.ntmps29
    go_wp2_with (at_builtin; go_must (refine wpList_append_rd_row rfl (.tmp 5) (.tmp 6) 23 (by rfl) 40 (.agg #[.int .i64 0, .int .i64 0, .string ⟨#[]⟩]) 3 32 Tryd.underlying23 partInf rfl (by decide) (fun k => k < w.heap.size) 0 [] _ _ HM.out (by rfl) hold (some a) n c (xs.flatMap partCells) (by rfl) HR1.out parts_one (by unfold maxLen; omega) (by omega) ?_); intro v6 w6 hown6 hst6 hgr6 hat6; have Ho6 := Lib.hid hown6; have Hb6 := Lib.hid (HB.out.trans (hst6.below fun k hk => hk)); obtain ⟨A6, c6, rfl⟩ := hown6.form; clear hown6 hst6 hgr6 hat6)
    go_ret
    exact ⟨A6, c6, by simp only [Nat.zero_add]; rfl, by have := Ho6.out; simpa using this, Hb6.out⟩
end Go.Proofs.YtbheoahpaidpmaaDoor
