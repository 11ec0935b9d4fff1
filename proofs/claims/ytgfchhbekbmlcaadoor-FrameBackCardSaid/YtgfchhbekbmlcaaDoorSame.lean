/-
  The walk of 'same' on texts; texts read from an argument.
-/
import Derived.Test.YtgfchhbekbmlcaaDoorRScan
namespace Go.Proofs.YtgfchhbekbmlcaaDoor
open Go Go.RowKit Go.Deep Go.ChangeShapes Go.WideShapes

theorem str_at {w : World} {A : Option Addr} {ts : List (List UInt8)} (h : Rd w 1 A ts.length (strCells ts)) {i : Nat} (hi : i < ts.length) :
    ∃ b off, A = some ⟨b, off, none⟩ ∧ b < w.heap.size ∧ w.cell? ⟨b, off + i, none⟩ = some (.string (S ts[i])) := by
  obtain ⟨b, off, e, hb, hc⟩ := h.2 (by omega)
  exact ⟨b, off, e, hb, hc i _ (by simp [strCells, hi])⟩

set_option maxRecDepth 100000 in
set_option maxHeartbeats 1000000 in
theorem same_any (A B : Option Addr) (ca cb : Nat) (xs ys : List (List UInt8)) (w : World) (ha : Rd w 1 A xs.length (strCells xs)) (hb : Rd w 1 B ys.length (strCells ys)) (hl : xs.length ≤ 1099511627776) :
    Calls Tryd.prog 15 #[.slice A xs.length ca, .slice B ys.length cb] w fun e w' => e = .returned (.bool (decide (xs = ys))) ∧ Below w.heap.size w w' := by
  by_cases hlen : xs.length = ys.length
  · have Hlen := Lib.hid hlen
    have ht : ((xs.length : Int) != (ys.length : Int)) = false := by simp [hlen]
    clear hlen
    go_enter Tryd.func15, Tryd.ntmps15
    go_wp2
    go_loopw [5] (fun i wr => ∃ j : Nat, i = .int .i64 j ∧ j ≤ xs.length ∧ xs.take j = ys.take j ∧ Below w.heap.size w wr) (fun i _ => xs.length - (intOf i).toNat)
    case atStart => exact ⟨0, rfl, by omega, by simp, Below.refl _ _⟩
    case round =>
      obtain ⟨j, rfl, hj, heq, hbel⟩ := hrel
      have Heq := Lib.hid heq
      clear heq
      by_cases hlt : j < xs.length
      · have hlt' : j < ys.length := by have := Hlen.out; omega
        obtain ⟨b, off, rfl, hba, e0⟩ := str_at (ha.below hbel) hlt
        obtain ⟨b', off', rfl, hba', f0⟩ := str_at (hb.below hbel) hlt'
        by_cases hE : xs[j] = ys[j]
        · have hE' : ((S xs[j]).toList == (S ys[j]).toList) = true := by rw [hE]; simp
          have HE := Lib.hid hE
          clear hE
          go_wp2
          go_quiet (fail)
          go_wp2
          go_roundw
          case rel => exact ⟨j + 1, by go_num, by omega, by rw [List.take_succ_eq_append_getElem hlt, List.take_succ_eq_append_getElem hlt', Heq.out, HE.out], below_drewN hbel _⟩
          case measure => simp [intOf]; omega
        · have hE' : ((S xs[j]).toList == (S ys[j]).toList) = false := by rw [Lib.toList_data, Lib.toList_data, S_toList, S_toList]; exact beq_eq_false_iff_ne.2 hE
          have HE := Lib.hid hE
          clear hE
          go_wp2
          go_quiet (fail)
          go_wp2
          go_ret
          refine ⟨ret_bool (decide_eq_false fun e => HE.out ?_).symm, below_drewN hbel _⟩
          simp [e]
      · go_wp2
        go_ret
        refine ⟨ret_bool (decide_eq_true ?_).symm, hbel⟩
        have h1 := Heq.out
        rw [List.take_of_length_le (by omega), List.take_of_length_le (by have := Hlen.out; omega)] at h1
        exact h1
  · have Hlen := Lib.hid hlen
    have ht : ((xs.length : Int) != (ys.length : Int)) = true := by simp; omega
    clear hlen
    go_enter Tryd.func15, Tryd.ntmps15
    go_wp2
    go_ret
    exact ⟨ret_bool (decide_eq_false fun e => Hlen.out (by rw [e])).symm, Below.refl _ _⟩

theorem frame_nil_len : (S (frame [])).size = 3 := by rw [S_size]; simp [frame, text, sumBytes, uint_small]

theorem scanned_len {l : List UInt8} {ts : List (List UInt8)} (h : Scanned l ts) : ts.length ≤ l.length := by
  obtain ⟨r, rfl, _⟩ := h
  have key : ∀ ts : List (List UInt8), ts.length ≤ (ts.flatMap frame).length := by
    intro ts
    induction ts with
    | nil => simp
    | cons t ts ih => rw [List.flatMap_cons, List.length_append, List.length_cons]; have := frame_len_pos t; omega
  have := key ts
  rw [List.length_append]; omega
end Go.Proofs.YtgfchhbekbmlcaaDoor
