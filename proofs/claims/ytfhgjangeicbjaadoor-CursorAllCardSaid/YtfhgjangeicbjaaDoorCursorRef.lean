/-
  The walks of the document's Page and After, and of Equal.
-/
import Derived.Test.YtfhgjangeicbjaaDoorCursorPage
import Derived.Test.YtfhgjangeicbjaaDoorRowEq
namespace Go.Proofs.YtfhgjangeicbjaaDoor
open Go Go.RowKit Go.Deep Go.ChangeShapes Go.WideShapes

set_option maxRecDepth 100000 in
set_option maxHeartbeats 1000000 in
theorem equal_any (A B : Option Addr) (ca cb : Nat) (xs ys : List Row) (w : World) (ha : Rd w 3 A xs.length (xs.flatMap rowCells)) (hb : Rd w 3 B ys.length (ys.flatMap rowCells)) (hl : xs.length ≤ 1099511627776) :
    Calls Tryd.prog 14 #[.slice A xs.length ca, .slice B ys.length cb] w fun e w' => e = .returned (.bool (rowsEq xs ys)) ∧ Below w.heap.size w w' := by
  by_cases hlen : xs.length = ys.length
  · have Hlen := Lib.hid hlen
    have ht : ((xs.length : Int) != (ys.length : Int)) = false := by simp [hlen]
    clear hlen
    go_enter Tryd.func14, Tryd.ntmps14
    go_wp2
    go_loopw [5] (fun i wr => ∃ j : Nat, i = .int .i64 j ∧ j ≤ xs.length ∧ xs.take j = ys.take j ∧ Below w.heap.size w wr) (fun i _ => xs.length - (intOf i).toNat)
    case atStart => exact ⟨0, rfl, by omega, by simp, Below.refl _ _⟩
    case round =>
      obtain ⟨j, rfl, hj, heq, hbel⟩ := hrel
      have Heq := Lib.hid heq
      clear heq
      by_cases hlt : j < xs.length
      · have hlt' : j < ys.length := by have := Hlen.out; omega
        obtain ⟨b, off, rfl, hba, e0, e1, e2⟩ := row_at (ha.below hbel) hlt
        obtain ⟨b', off', rfl, hba', f0, f1, f2⟩ := row_at (hb.below hbel) hlt'
        have hg := row_guard
        have hne := fun w => run_row_neq xs[j].T xs[j].ID xs[j].V ys[j].T ys[j].ID ys[j].V w
        rcases Bool.eq_false_or_eq_true (rowEq xs[j] ys[j]) with hE | hE
        · have hE' : rowEq ⟨xs[j].T, xs[j].ID, xs[j].V⟩ ⟨ys[j].T, ys[j].ID, ys[j].V⟩ = true := hE
          have HE := Lib.hid hE
          rw [hE'] at hne
          clear hE hE'
          go_wp2
          go_quiet (fail)
          go_wp2
          go_roundw
          case rel => exact ⟨j + 1, by go_num, by omega, by rw [take_snoc' hlt, take_snoc' hlt', Heq.out, (rowEq_iff _ _).1 HE.out], below_drewN hbel _⟩
          case measure => simp [intOf]; omega
        · have hE' : rowEq ⟨xs[j].T, xs[j].ID, xs[j].V⟩ ⟨ys[j].T, ys[j].ID, ys[j].V⟩ = false := hE
          have HE := Lib.hid hE
          rw [hE'] at hne
          clear hE hE'
          go_wp2
          go_quiet (fail)
          go_wp2
          go_ret
          refine ⟨ret_bool (rowsEq_ne fun e => ?_).symm, below_drewN hbel _⟩
          have : xs[j] = ys[j] := by simp [e]
          rw [this] at HE
          have := HE.out
          rw [(rowEq_iff _ _).2 rfl] at this
          cases this
      · go_wp2
        go_ret
        refine ⟨ret_bool ?_, hbel⟩
        have h1 := Heq.out
        rw [List.take_of_length_le (by omega), List.take_of_length_le (by have := Hlen.out; omega)] at h1
        rw [h1, rowsEq_self]
  · have Hlen := Lib.hid hlen
    have ht : ((xs.length : Int) != (ys.length : Int)) = true := by simp; omega
    clear hlen
    go_enter Tryd.func14, Tryd.ntmps14
    go_wp2
    go_ret
    exact ⟨ret_bool (rowsEq_ne fun e => Hlen.out (by rw [e])).symm, Below.refl _ _⟩

theorem pageRows_le (rows : List Row) (c : Cur) (k : Int) : (pageRows rows c k).length ≤ rows.length := by
  unfold pageRows behindOf; rw [List.length_take]; exact Nat.le_trans (Nat.min_le_right _ _) (List.length_filter_le _ _)
theorem page_add {c : Cur} {rows : List Row} {k : Int} {j : Nat} {xs : List Row} (hlt : j < rows.length) (hxs : xs = pageRows (rows.take j) c k) (ha : afterB c rows[j] = true) (h : (xs.length : Int) < k) :
    pageRows (rows.take (j + 1)) c k = xs ++ [rows[j]] ∧ pageMore (rows.take (j + 1)) c k = pageMore (rows.take j) c k := by
  have hsn := behindOf_yes hlt ha
  unfold pageRows pageMore at *
  have hl : (behindOf c (rows.take j)).length < k.toNat := by rw [hxs, List.length_take] at h; omega
  rw [hsn]
  constructor
  · rw [hxs, List.take_of_length_le (l := behindOf c (rows.take j) ++ [rows[j]]) (by simp; omega), List.take_of_length_le (l := behindOf c (rows.take j)) (by omega)]
  · simp; omega
theorem page_more {c : Cur} {rows : List Row} {k : Int} {j : Nat} {xs : List Row} (hlt : j < rows.length) (hxs : xs = pageRows (rows.take j) c k) (ha : afterB c rows[j] = true) (h : ¬(xs.length : Int) < k) :
    pageRows (rows.take (j + 1)) c k = xs ∧ pageMore (rows.take (j + 1)) c k = true := by
  have hsn := behindOf_yes hlt ha
  unfold pageRows pageMore at *
  have hl : k.toNat ≤ (behindOf c (rows.take j)).length := by rw [hxs, List.length_take] at h; omega
  rw [hsn]
  constructor
  · rw [hxs, List.take_append_of_le_length hl]
  · simp; omega
theorem page_skip {c : Cur} {rows : List Row} {k : Int} {j : Nat} (hlt : j < rows.length) (ha : afterB c rows[j] = false) :
    pageRows (rows.take (j + 1)) c k = pageRows (rows.take j) c k ∧ pageMore (rows.take (j + 1)) c k = pageMore (rows.take j) c k := by
  have hsn := behindOf_no hlt ha
  unfold pageRows pageMore
  rw [hsn]; exact ⟨rfl, rfl⟩

end Go.Proofs.YtfhgjangeicbjaaDoor
