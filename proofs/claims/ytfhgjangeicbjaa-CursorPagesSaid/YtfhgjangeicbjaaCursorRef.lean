/-
  The walks of the document's Page and After, and of Equal.
-/
import Derived.Test.YtfhgjangeicbjaaCursorPage
import Derived.Test.YtfhgjangeicbjaaRowEq
namespace Go.Proofs.Ytfhgjangeicbjaa
open Go Go.RowKit Go.Deep Go.ChangeShapes Go.WideShapes

theorem rafter_any (q : ByteArray) (t id rt rid rv : Int) (w : World) :
    Calls Try.prog 9 #[.agg #[.string q, .int .i64 t, .int .i64 id], .agg #[.int .i64 rt, .int .i64 rid, .int .i64 rv]] w fun e w' => e = .returned (.bool (afterB ⟨q, t, id⟩ ⟨rt, rid, rv⟩)) ∧ Below w.heap.size w w' := by
  go_enter Try.func9, Try.ntmps9
  go_wp2
  all_goals go_ret
  all_goals exact ⟨ret_bool (by simp [afterB, *]; try omega), below_two _ _ _⟩

set_option maxRecDepth 100000 in
set_option maxHeartbeats 1000000 in
theorem equal_any (A B : Option Addr) (ca cb : Nat) (xs ys : List Row) (w : World) (ha : Rd w 3 A xs.length (xs.flatMap rowCells)) (hb : Rd w 3 B ys.length (ys.flatMap rowCells)) (hl : xs.length ≤ 1099511627776) :
    Calls Try.prog 10 #[.slice A xs.length ca, .slice B ys.length cb] w fun e w' => e = .returned (.bool (rowsEq xs ys)) ∧ Below w.heap.size w w' := by
  by_cases hlen : xs.length = ys.length
  · have Hlen := Lib.hid hlen
    have ht : ((xs.length : Int) != (ys.length : Int)) = false := by simp [hlen]
    clear hlen
    go_enter Try.func10, Try.ntmps10
    go_wp2
    go_loopw [5] (fun i wr => ∃ j : Nat, i = .int .i64 j ∧ j ≤ xs.length ∧ xs.take j = ys.take j ∧ Below w.heap.size w wr) (fun i _ => xs.length - (intOf i).toNat)
    case atStart => exact ⟨0, rfl, by omega, by simp, Below.refl _ _⟩
    case round =>
      obtain ⟨j, rfl, hj, heq, hbel⟩ := hrel
      have Heq := Lib.hid heq
      clear heq
      by_cases hlt : j < xs.length
      · have hlt' : j < ys.length := by have := Hlen.out; omega
        obtain ⟨b, off, rfl, hba, e0, e1, e2⟩ := row_at (ha.below hbel) hlt
        obtain ⟨b', off', rfl, hba', f0, f1, f2⟩ := row_at (hb.below hbel) hlt'
        have hg := row_guard
        have hne := fun w => run_row_neq xs[j].T xs[j].ID xs[j].V ys[j].T ys[j].ID ys[j].V w
        rcases Bool.eq_false_or_eq_true (rowEq xs[j] ys[j]) with hE | hE
        · have hE' : rowEq ⟨xs[j].T, xs[j].ID, xs[j].V⟩ ⟨ys[j].T, ys[j].ID, ys[j].V⟩ = true := hE
          have HE := Lib.hid hE
          rw [hE'] at hne
          clear hE hE'
          go_wp2
          go_quiet (fail)
          go_wp2
          go_roundw
          case rel => exact ⟨j + 1, by go_num, by omega, by rw [take_snoc' hlt, take_snoc' hlt', Heq.out, (rowEq_iff _ _).1 HE.out], below_drewN hbel _⟩
          case measure => simp [intOf]; omega
        · have hE' : rowEq ⟨xs[j].T, xs[j].ID, xs[j].V⟩ ⟨ys[j].T, ys[j].ID, ys[j].V⟩ = false := hE
          have HE := Lib.hid hE
          rw [hE'] at hne
          clear hE hE'
          go_wp2
          go_quiet (fail)
          go_wp2
          go_ret
          refine ⟨ret_bool (rowsEq_ne fun e => ?_).symm, below_drewN hbel _⟩
          have : xs[j] = ys[j] := by simp [e]
          rw [this] at HE
          have := HE.out
          rw [(rowEq_iff _ _).2 rfl] at this
          cases this
      · go_wp2
        go_ret
        refine ⟨ret_bool ?_, hbel⟩
        have h1 := Heq.out
        rw [List.take_of_length_le (by omega), List.take_of_length_le (by have := Hlen.out; omega)] at h1
        rw [h1, rowsEq_self]
  · have Hlen := Lib.hid hlen
    have ht : ((xs.length : Int) != (ys.length : Int)) = true := by simp; omega
    clear hlen
    go_enter Try.func10, Try.ntmps10
    go_wp2
    go_ret
    exact ⟨ret_bool (rowsEq_ne fun e => Hlen.out (by rw [e])).symm, Below.refl _ _⟩

theorem pageRows_le (rows : List Row) (c : Cur) (k : Int) : (pageRows rows c k).length ≤ rows.length := by
  unfold pageRows behindOf; rw [List.length_take]; exact Nat.le_trans (Nat.min_le_right _ _) (List.length_filter_le _ _)
theorem page_add {c : Cur} {rows : List Row} {k : Int} {j : Nat} {xs : List Row} (hlt : j < rows.length) (hxs : xs = pageRows (rows.take j) c k) (ha : afterB c rows[j] = true) (h : (xs.length : Int) < k) :
    pageRows (rows.take (j + 1)) c k = xs ++ [rows[j]] ∧ pageMore (rows.take (j + 1)) c k = pageMore (rows.take j) c k := by
  have hsn := behindOf_yes hlt ha
  unfold pageRows pageMore at *
  have hl : (behindOf c (rows.take j)).length < k.toNat := by rw [hxs, List.length_take] at h; omega
  rw [hsn]
  constructor
  · rw [hxs, List.take_of_length_le (l := behindOf c (rows.take j) ++ [rows[j]]) (by simp; omega), List.take_of_length_le (l := behindOf c (rows.take j)) (by omega)]
  · simp; omega
theorem page_more {c : Cur} {rows : List Row} {k : Int} {j : Nat} {xs : List Row} (hlt : j < rows.length) (hxs : xs = pageRows (rows.take j) c k) (ha : afterB c rows[j] = true) (h : ¬(xs.length : Int) < k) :
    pageRows (rows.take (j + 1)) c k = xs ∧ pageMore (rows.take (j + 1)) c k = true := by
  have hsn := behindOf_yes hlt ha
  unfold pageRows pageMore at *
  have hl : k.toNat ≤ (behindOf c (rows.take j)).length := by rw [hxs, List.length_take] at h; omega
  rw [hsn]
  constructor
  · rw [hxs, List.take_append_of_le_length hl]
  · simp; omega
theorem page_skip {c : Cur} {rows : List Row} {k : Int} {j : Nat} (hlt : j < rows.length) (ha : afterB c rows[j] = false) :
    pageRows (rows.take (j + 1)) c k = pageRows (rows.take j) c k ∧ pageMore (rows.take (j + 1)) c k = pageMore (rows.take j) c k := by
  have hsn := behindOf_no hlt ha
  unfold pageRows pageMore
  rw [hsn]; exact ⟨rfl, rfl⟩

set_option maxRecDepth 100000 in
set_option maxHeartbeats 2000000 in
theorem rpage_any (A : Option Addr) (cap : Nat) (rows : List Row) (q : ByteArray) (t id k : Int) (w : World) (hr : Rd w 3 A rows.length (rows.flatMap rowCells)) (hl : rows.length ≤ 4096) :
    Calls Try.prog 8 #[.slice A rows.length cap, .agg #[.string q, .int .i64 t, .int .i64 id], .int .i64 k] w (RetRowsB (pageRows rows ⟨q, t, id⟩ k) (pageMore rows ⟨q, t, id⟩ k) w) := by
  go_enter Try.func8, Try.ntmps8
  go_wp2
  go_loopw [8, 9, 10] (fun out more i wr => ∃ (j : Nat) (xs : List Row) (O : Option Addr) (co : Nat), i = .int .i64 j ∧ j ≤ rows.length ∧ xs = pageRows (rows.take j) ⟨q, t, id⟩ k ∧ more = .bool (pageMore (rows.take j) ⟨q, t, id⟩ k) ∧ out = .slice O xs.length co ∧
      wr.ownsRow (w.heap.size + 1) 25 3 (.slice O xs.length co) xs.length (xs.flatMap rowCells) ∧ Below (w.heap.size + 1) (w.alloc (.cells #[.string q, .int .i64 t, .int .i64 id] 33)) wr) (fun _ _ i _ => rows.length - (intOf i).toNat)
  case atStart => exact ⟨0, [], _, 0, rfl, by omega, by simp [pageRows, behindOf], by simp [pageMore, behindOf], rfl, made0 _ _ _ _, made0_below _ _ _⟩
  case round =>
    obtain ⟨j, xs, O, co, rfl, hj, hxs, rfl, rfl, hown, hbel⟩ := hrel
    have Hxs := Lib.hid hxs
    have hz := box_lt hbel
    have hz' : w.heap.size + 1 ≤ wr.heap.size := hz
    by_cases hlt : j < rows.length
    · have hr' := hr.below (boxed hbel)
      obtain ⟨b, off, rfl, hb, e0, e1, e2⟩ := row_at hr' hlt
      have q0 := box_cell hbel (j := 0) rfl
      have q1 := box_cell hbel (j := 1) rfl
      have q2 := box_cell hbel (j := 2) rfl
      have Hr := Lib.hid hr
      clear hr hr' hxs
      simp only [List.getElem_toArray, List.getElem_cons_zero, List.getElem_cons_succ] at q0 q1 q2
      rcases Bool.eq_false_or_eq_true (afterB ⟨q, t, id⟩ ⟨rows[j].T, rows[j].ID, rows[j].V⟩) with hA | hA
      · have HA := Lib.hid hA
        by_cases hk : (xs.length : Int) < k
        · have Hp := Lib.hid (page_add hlt Hxs.out hA hk)
          have hxl : xs.length ≤ 4096 := by rw [Hxs.out]; exact Nat.le_trans (pageRows_le _ _ _) (by rw [List.length_take]; omega)
          clear hA
          go_wp2_with fail
          go_region_held3 (fun w' => w'.cell? ⟨b, off + j * 3, none⟩ = some (.int .i64 rows[j].T) ∧ w'.cell? ⟨b, off + j * 3 + 1, none⟩ = some (.int .i64 rows[j].ID) ∧ w'.cell? ⟨b, off + j * 3 + 2, none⟩ = some (.int .i64 rows[j].V) ∧ w'.cell? ⟨w.heap.size, 0, none⟩ = some (.string q) ∧ w'.cell? ⟨w.heap.size, 1, none⟩ = some (.int .i64 t) ∧ w'.cell? ⟨w.heap.size, 2, none⟩ = some (.int .i64 id))
            (first | go_keep | (go_split_ands; refine ⟨?_, ?_, ?_, ?_, ?_, ?_⟩ <;> (refine keepc hb1 ?_; first | assumption | go_keep)))
            (first | (go_at_call 9; refine (rafter_any _ _ _ _ _ _ _).mono ?_; rintro e w1 ⟨rfl, hb1⟩))
          rw [HA.out]
          have hbd := hb1.drewl
          have hbel1 := hbel.trans (hbd.mono (by omega))
          have hs1 : w.heap.size + 1 ≤ w1.heap.size := Nat.le_trans hz' hbd.size
          have hown1 := own_below hown hbd
          have p0 := keepc hbd e0
          have p1 := keepc hbd e1
          have p2 := keepc hbd e2
          have pz := Nat.lt_of_lt_of_le hb hbd.size
          go_wp2_with (at_builtin; go_must (refine wpList_append_elem rfl _ _ 29 rfl 25 (.agg #[.int .i64 0, .int .i64 0, .int .i64 0]) 3 24 Try.underlying29 rowInf rfl (by decide) (w.heap.size + 1) _ _ _ _ w1 #[.int .i64 rows[j].T, .int .i64 rows[j].ID, .int .i64 rows[j].V] rfl (by intro u hu; simp at hu; rcases hu with rfl | rfl | rfl <;> rfl) hown1 rfl hbel1 (by omega) rfl (by unfold maxLen; omega) (by omega) ?_); intro v' w2 hown2 hgr2 hbel2 hsz2 hlt2 hnn2)
          go_roundw
          case rel =>
            obtain ⟨O', co', rfl⟩ := own_form hown2
            exact ⟨j + 1, xs ++ [rows[j]], O', co', by go_num, by omega, Hp.out.1.symm, by rw [Hp.out.2], by simp, by simpa [List.flatMap_append, rowCells] using hown2, hbel2⟩
          case measure => simp [intOf]; omega
        · have Hp := Lib.hid (page_more hlt Hxs.out hA hk)
          clear hA
          go_wp2_with fail
          go_region_held3 (fun w' => w'.cell? ⟨b, off + j * 3, none⟩ = some (.int .i64 rows[j].T) ∧ w'.cell? ⟨b, off + j * 3 + 1, none⟩ = some (.int .i64 rows[j].ID) ∧ w'.cell? ⟨b, off + j * 3 + 2, none⟩ = some (.int .i64 rows[j].V) ∧ w'.cell? ⟨w.heap.size, 0, none⟩ = some (.string q) ∧ w'.cell? ⟨w.heap.size, 1, none⟩ = some (.int .i64 t) ∧ w'.cell? ⟨w.heap.size, 2, none⟩ = some (.int .i64 id))
            (first | go_keep | (go_split_ands; refine ⟨?_, ?_, ?_, ?_, ?_, ?_⟩ <;> (refine keepc hb1 ?_; first | assumption | go_keep)))
            (first | (go_at_call 9; refine (rafter_any _ _ _ _ _ _ _).mono ?_; rintro e w1 ⟨rfl, hb1⟩))
          rw [HA.out]
          have hbd := hb1.drewl
          have hbel1 := hbel.trans (hbd.mono (by omega))
          have hs1 : w.heap.size + 1 ≤ w1.heap.size := Nat.le_trans hz' hbd.size
          have hown1 := own_below hown hbd
          have p0 := keepc hbd e0
          have p1 := keepc hbd e1
          have p2 := keepc hbd e2
          have pz := Nat.lt_of_lt_of_le hb hbd.size
          go_wp2_with fail
          go_roundw
          case rel => exact ⟨j + 1, xs, O, co, by go_num, by omega, Hp.out.1.symm, by rw [Hp.out.2], rfl, hown1, hbel1⟩
          case measure => simp [intOf]; omega
      · have HA := Lib.hid hA
        have Hp := Lib.hid (page_skip (k := k) hlt hA)
        clear hA
        go_wp2_with fail
        go_region_held3 (fun w' => w'.cell? ⟨b, off + j * 3, none⟩ = some (.int .i64 rows[j].T) ∧ w'.cell? ⟨b, off + j * 3 + 1, none⟩ = some (.int .i64 rows[j].ID) ∧ w'.cell? ⟨b, off + j * 3 + 2, none⟩ = some (.int .i64 rows[j].V) ∧ w'.cell? ⟨w.heap.size, 0, none⟩ = some (.string q) ∧ w'.cell? ⟨w.heap.size, 1, none⟩ = some (.int .i64 t) ∧ w'.cell? ⟨w.heap.size, 2, none⟩ = some (.int .i64 id))
          (first | go_keep | (go_split_ands; refine ⟨?_, ?_, ?_, ?_, ?_, ?_⟩ <;> (refine keepc hb1 ?_; first | assumption | go_keep)))
          (first | (go_at_call 9; refine (rafter_any _ _ _ _ _ _ _).mono ?_; rintro e w1 ⟨rfl, hb1⟩))
        rw [HA.out]
        have hbd := hb1.drewl
        have hbel1 := hbel.trans (hbd.mono (by omega))
        have hs1 : w.heap.size + 1 ≤ w1.heap.size := Nat.le_trans hz' hbd.size
        have hown1 := own_below hown hbd
        have p0 := keepc hbd e0
        have p1 := keepc hbd e1
        have p2 := keepc hbd e2
        have pz := Nat.lt_of_lt_of_le hb hbd.size
        go_wp2_with fail
        go_roundw
        case rel => exact ⟨j + 1, xs, O, co, by go_num, by omega, by rw [Hp.out.1, Hxs.out], by rw [Hp.out.2], rfl, hown1, hbel1⟩
        case measure => simp [intOf]; omega
    · clear hr hxs
      go_wp2_with fail
      go_ret2
      obtain ⟨A', c', hv, hrd⟩ := Rd.of_own hown
      obtain ⟨rfl, rfl⟩ : O = A' ∧ co = c' := by simpa using hv
      have hjl : rows.take j = rows := List.take_of_length_le (by omega)
      have hx := Hxs.out
      rw [hjl] at hx
      rw [← hx, hjl]
      exact ⟨O, co, rfl, hrd, boxed hbel⟩
end Go.Proofs.Ytfhgjangeicbjaa
