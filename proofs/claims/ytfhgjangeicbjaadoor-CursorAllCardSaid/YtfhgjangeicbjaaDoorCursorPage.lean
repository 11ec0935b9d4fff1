/-
  The walks of cursor.Page and of the document's.
-/
import Derived.Test.YtfhgjangeicbjaaDoorCursorA
namespace Go.Proofs.YtfhgjangeicbjaaDoor
open Go Go.RowKit Go.Deep Go.ChangeShapes Go.WideShapes

/-- a call that answers rows and a bool -/
def RetRowsB (xs : List Row) (more : Bool) (w : World) (e : Ending) (w' : World) : Prop :=
  ∃ A c, e = .returned (.tuple #[.slice A xs.length c, .bool more]) ∧ Rd w' 3 A xs.length (xs.flatMap rowCells) ∧ Below w.heap.size w w'

def behindOf (c : Cur) (rows : List Row) : List Row := rows.filter (afterB c)
def pageRows (rows : List Row) (c : Cur) (k : Int) : List Row := (behindOf c rows).take k.toNat
def pageMore (rows : List Row) (c : Cur) (k : Int) : Bool := decide (k.toNat < (behindOf c rows).length)

theorem take_snoc' {α : Type} {l : List α} {j : Nat} (h : j < l.length) : l.take (j + 1) = l.take j ++ [l[j]] := by
  rw [List.take_succ_eq_append_getElem h]
theorem behindOf_yes {c : Cur} {rows : List Row} {j : Nat} (h : j < rows.length) (ha : afterB c rows[j] = true) : behindOf c (rows.take (j + 1)) = behindOf c (rows.take j) ++ [rows[j]] := by
  unfold behindOf; rw [take_snoc' h, List.filter_append]; simp [ha]
theorem behindOf_no {c : Cur} {rows : List Row} {j : Nat} (h : j < rows.length) (ha : afterB c rows[j] = false) : behindOf c (rows.take (j + 1)) = behindOf c (rows.take j) := by
  unfold behindOf; rw [take_snoc' h, List.filter_append]; simp [ha]
theorem behindOf_prefix {c : Cur} {rows : List Row} (j : Nat) : ∃ r, behindOf c rows = behindOf c (rows.take j) ++ r := by
  refine ⟨behindOf c (rows.drop j), ?_⟩
  unfold behindOf; rw [← List.filter_append, List.take_append_drop]

theorem page_full {c : Cur} {rows : List Row} {k : Int} {j : Nat} {xs : List Row} (hlt : j < rows.length) (hxs : xs = behindOf c (rows.take j)) (hsn : behindOf c (rows.take (j + 1)) = behindOf c (rows.take j) ++ [rows[j]]) (h1 : xs.length ≤ k.toNat) (h2 : k ≤ (xs.length : Int)) :
    pageRows rows c k = xs ∧ pageMore rows c k = true := by
  obtain ⟨r, hr⟩ := behindOf_prefix (c := c) (rows := rows) (j + 1)
  rw [hsn, ← hxs] at hr
  have hk : k.toNat = xs.length := by omega
  unfold pageRows pageMore
  rw [hr, hk]
  constructor
  · rw [List.append_assoc, List.take_left]
  · simp
theorem page_end {c : Cur} {rows : List Row} {k : Int} {xs : List Row} (hxs : xs = behindOf c rows) (h1 : xs.length ≤ k.toNat) :
    pageRows rows c k = xs ∧ pageMore rows c k = false := by
  unfold pageRows pageMore
  rw [← hxs]
  exact ⟨List.take_of_length_le h1, by simp; omega⟩

theorem rowInf : (Tryd.prog.info? 40).map (fun i => (i.zero, i.size, i.bytes)) = some (some (.agg #[.int .i64 0, .int .i64 0, .int .i64 0]), 3, 24) := by kernel_rfl

set_option maxRecDepth 100000 in
set_option maxHeartbeats 1000000 in
theorem page_any (A : Option Addr) (cap : Nat) (rows : List Row) (q : ByteArray) (t id k : Int) (w : World) (hr : Rd w 3 A rows.length (rows.flatMap rowCells)) (hl : rows.length ≤ 4096) :
    Calls Tryd.prog 13 #[.slice A rows.length cap, .agg #[.string q, .int .i64 t, .int .i64 id], .int .i64 k] w (RetRowsB (pageRows rows ⟨q, t, id⟩ k) (pageMore rows ⟨q, t, id⟩ k) w) := by
  go_enter Tryd.func13, Tryd.ntmps13
  go_wp2
  go_loopw [8, 10, 13] (fun out _ i wr => ∃ (j : Nat) (xs : List Row) (O : Option Addr) (co : Nat), i = .int .i64 j ∧ j ≤ rows.length ∧ xs = behindOf ⟨q, t, id⟩ (rows.take j) ∧ xs.length ≤ k.toNat ∧ out = .slice O xs.length co ∧
      wr.ownsRow (w.heap.size + 1) 40 3 (.slice O xs.length co) xs.length (xs.flatMap rowCells) ∧ Below (w.heap.size + 1) (w.alloc (.cells #[.string q, .int .i64 t, .int .i64 id] 23)) wr) (fun _ _ i _ => rows.length - (intOf i).toNat)
  case atStart => exact ⟨0, [], none, 0, rfl, by omega, rfl, by simp, rfl, World.ownsRow_nil _ _ _ _, Below.refl _ _⟩
  case round =>
    obtain ⟨j, xs, O, co, rfl, hj, hxs, hxk, rfl, hown, hbel⟩ := hrel
    have Hxs := Lib.hid hxs
    have hz := box_lt hbel
    have hz' : w.heap.size + 1 ≤ wr.heap.size := hz
    by_cases hlt : j < rows.length
    · have hr' := hr.below (boxed hbel)
      obtain ⟨b, off, rfl, hb, e0, e1, e2⟩ := row_at hr' hlt
      have q0 := box_cell hbel (j := 0) rfl
      have q1 := box_cell hbel (j := 1) rfl
      have q2 := box_cell hbel (j := 2) rfl
      have Hr := Lib.hid hr
      have hxl : xs.length ≤ 4096 := by rw [hxs]; exact Nat.le_trans (List.length_filter_le _ _) (by simp; omega)
      clear hr hr' hxs
      simp only [List.getElem_toArray, List.getElem_cons_zero, List.getElem_cons_succ] at q0 q1 q2
      rcases Bool.eq_false_or_eq_true (afterB ⟨q, t, id⟩ ⟨rows[j].T, rows[j].ID, rows[j].V⟩) with hA | hA
      · have HA := Lib.hid hA
        have Hsn := Lib.hid (behindOf_yes hlt hA)
        clear hA
        by_cases hk : (xs.length : Int) < k
        · go_wp2_with fail
          with_reducible refine (after_any _ _ _ _ _ _ _).mono ?_
          rintro e w1 ⟨rfl, hb1⟩
          rw [HA.out]
          have p0 := box_cell (unboxed hb1) (j := 0) rfl
          have p1 := box_cell (unboxed hb1) (j := 1) rfl
          have p2 := box_cell (unboxed hb1) (j := 2) rfl
          simp only [List.getElem_toArray, List.getElem_cons_zero, List.getElem_cons_succ] at p0 p1 p2
          have pz := box_lt (unboxed hb1)
          have hbel1 := (hbel.alloc hz' _).trans (hb1.mono (by simp; omega))
          have hown1 := own_below (hown.alloc _) hb1
          go_wp2_with (at_builtin; go_must (refine wpList_append_elem rfl _ _ 37 rfl 40 (.agg #[.int .i64 0, .int .i64 0, .int .i64 0]) 3 24 Tryd.underlying37 rowInf rfl (by decide) (w.heap.size + 1) _ _ _ _ w1 #[.int .i64 rows[j].T, .int .i64 rows[j].ID, .int .i64 rows[j].V] rfl (by intro u hu; simp at hu; rcases hu with rfl | rfl | rfl <;> rfl) hown1 rfl hbel1 (by omega) rfl (by unfold maxLen; omega) (by omega) ?_); intro v' w2 hown2 hgr2 hbel2 hsz2 hlt2 hnn2)
          go_roundw
          case rel =>
            obtain ⟨O', co', rfl⟩ := own_form hown2
            exact ⟨j + 1, xs ++ [rows[j]], O', co', by go_num, by omega, by rw [Hsn.out, Hxs.out], by simp; omega, by simp, by simpa [List.flatMap_append, rowCells] using hown2, hbel2⟩
          case measure => simp [intOf]; omega
        · have hdk : decide (k ≤ (xs.length : Int)) = true := by simp; omega
          go_wp2_with fail
          with_reducible refine (after_any _ _ _ _ _ _ _).mono ?_
          rintro e w1 ⟨rfl, hb1⟩
          rw [HA.out]
          have hbel1 := (hbel.alloc hz' _).trans (hb1.mono (by simp; omega))
          have hown1 := own_below (hown.alloc _) hb1
          go_wp2_with fail
          go_ret2
          obtain ⟨e1, e2⟩ := page_full hlt Hxs.out Hsn.out hxk (by omega)
          rw [e1, e2]
          obtain ⟨A', c', hv, hrd⟩ := Rd.of_own hown1
          obtain ⟨rfl, rfl⟩ : O = A' ∧ co = c' := by simpa using hv
          exact ⟨O, co, rfl, hrd, boxed hbel1⟩
      · have HA := Lib.hid hA
        have Hsn := Lib.hid (behindOf_no hlt hA)
        clear hA
        go_wp2_with fail
        with_reducible refine (after_any _ _ _ _ _ _ _).mono ?_
        rintro e w1 ⟨rfl, hb1⟩
        rw [HA.out]
        have hbel1 := (hbel.alloc hz' _).trans (hb1.mono (by simp; omega))
        have hown1 := own_below (hown.alloc _) hb1
        go_wp2_with fail
        go_roundw
        case rel => exact ⟨j + 1, xs, O, co, by go_num, by omega, by rw [Hsn.out, Hxs.out], hxk, rfl, hown1, hbel1⟩
        case measure => simp [intOf]; omega
    · clear hr hxs
      go_wp2_with fail
      go_ret2
      obtain ⟨e1, e2⟩ := page_end (c := ⟨q, t, id⟩) (rows := rows) (k := k) (xs := xs) (by rw [Hxs.out, show j = rows.length by omega, List.take_length]) hxk
      rw [e1, e2]
      obtain ⟨A', c', hv, hrd⟩ := Rd.of_own hown
      obtain ⟨rfl, rfl⟩ : O = A' ∧ co = c' := by simpa using hv
      exact ⟨O, co, rfl, hrd, boxed hbel⟩
end Go.Proofs.YtfhgjangeicbjaaDoor
