/-
  The walk of the law 'CursorOrder'.
-/
import Derived.Test.YtfhgjangeicbjaaCursorA
namespace Go.Proofs.Ytfhgjangeicbjaa
open Go Go.RowKit Go.Deep Go.ChangeShapes Go.WideShapes

theorem five (w : World) (a b c d e : Obj) : Below w.heap.size w (((((w.alloc a).alloc b).alloc c).alloc d).alloc e) :=
  ((((((Below.refl _ _).alloc (Nat.le_refl _) a).alloc (by simp) b).alloc (by simp; omega) c).alloc (by simp; omega) d).alloc (by simp; omega) e)

theorem after_start (q : ByteArray) (a : Row) : afterB ⟨q, 0, -1⟩ a = true := by simp [afterB]
theorem after_self {q : ByteArray} {a : Row} (h : ¬a.ID = -1) : afterB ⟨q, a.T, a.ID⟩ a = false := by simp [afterB, h]
theorem after_at {q : ByteArray} {a b : Row} (h : ¬a.ID = -1) : afterB ⟨q, a.T, a.ID⟩ b = behindB b a := by
  simp only [afterB, behindB, Bool.beq_comm]
  grind
theorem after_trans {c : Cur} {a b : Row} (h : behindB b a = true) (h' : afterB c a = true) : afterB c b = true := by
  simp [afterB, behindB] at *
  omega

theorem _root_.Go.RowKit.Below.drewr {B : Nat} {w w' : World} (h : Below B w w') (n : Nat) : Below B w (w'.drewN n) := below_drewN h n

set_option maxRecDepth 100000 in
set_option maxHeartbeats 2000000 in
theorem cursorOrder_walk (v0 v1 v2 : Value) (g0 : ∃ x : Cur, v0 = curVal x ∧ Cur.ok x) (g1 : ∃ x : Row, v1 = rowVal x ∧ Row.ok x) (g2 : ∃ x : Row, v2 = rowVal x ∧ Row.ok x) (w : World) :
    Calls Try.prog 3 #[v0, v1, v2] w fun e w' => e = .returned (.bool true) ∧ Below w.heap.size w w' := by
  obtain ⟨c, rfl, -⟩ := g0
  obtain ⟨a, rfl, -⟩ := g1
  obtain ⟨b, rfl, -⟩ := g2
  have A0 := Lib.hid (after_start c.Q a)
  by_cases hq : 4096 < c.Q.size
  · unfold curVal rowVal
    go_enter Try.func3, Try.ntmps3
    go_wp2_with fail
    go_ret
    exact ⟨rfl, (below_two _ _ _).alloc (by simp; omega) _⟩
  by_cases hid : a.ID = -1
  · have hid1 : (a.ID == -1) = true := beq_iff_eq.2 hid
    have hid2 : (a.ID != -1) = false := by simp [hid]
    clear hid
    rcases Bool.eq_false_or_eq_true (behindB b a) with hB | hB
    · have HB := Lib.hid hB
      rcases Bool.eq_false_or_eq_true (afterB c a) with hA | hA
      · have HA := Lib.hid hA
        have HC := Lib.hid (after_trans hB hA)
        clear hA hB
        unfold curVal rowVal
        go_enter Try.func3, Try.ntmps3
        go_wp2_with fail
        with_reducible refine (after_any _ _ _ _ _ _ _).mono ?_
        rintro e w1 ⟨rfl, hb1⟩
        have hB1 := hb1
        rw [A0.out]
        obtain ⟨hc1, _⟩ := bcell hB1
        go_wp2_with fail
        with_reducible refine (rbehind_any _ _ _ _ _ _ _).mono ?_
        rintro e w2 ⟨rfl, hb2⟩
        have hB2 := hB1.then hb2
        clear hc1
        rw [HB.out]
        obtain ⟨hc2, _⟩ := bcell hB2
        go_wp2_with fail
        with_reducible refine (after_any _ _ _ _ _ _ _).mono ?_
        rintro e w3 ⟨rfl, hb3⟩
        have hB3 := hB2.then hb3
        clear hc2
        rw [HA.out]
        obtain ⟨hc3, _⟩ := bcell hB3
        go_wp2_with fail
        with_reducible refine (after_any _ _ _ _ _ _ _).mono ?_
        rintro e w4 ⟨rfl, hb4⟩
        have hB4 := hB3.then hb4
        clear hc3
        rw [HC.out]
        obtain ⟨hc4, _⟩ := bcell hB4
        go_wp2_with fail
        go_quiet (fail)
        go_wp2
        go_ret
        exact ⟨rfl, Below.then (five _ _ _ _ _ _) (hB4.drewr _)⟩
      · have HA := Lib.hid hA
        clear hA hB
        unfold curVal rowVal
        go_enter Try.func3, Try.ntmps3
        go_wp2_with fail
        with_reducible refine (after_any _ _ _ _ _ _ _).mono ?_
        rintro e w1 ⟨rfl, hb1⟩
        have hB1 := hb1
        rw [A0.out]
        obtain ⟨hc1, _⟩ := bcell hB1
        go_wp2_with fail
        with_reducible refine (rbehind_any _ _ _ _ _ _ _).mono ?_
        rintro e w2 ⟨rfl, hb2⟩
        have hB2 := hB1.then hb2
        clear hc1
        rw [HB.out]
        obtain ⟨hc2, _⟩ := bcell hB2
        go_wp2_with fail
        with_reducible refine (after_any _ _ _ _ _ _ _).mono ?_
        rintro e w3 ⟨rfl, hb3⟩
        have hB3 := hB2.then hb3
        clear hc2
        rw [HA.out]
        obtain ⟨hc3, _⟩ := bcell hB3
        go_wp2_with fail
        go_quiet (fail)
        go_wp2
        go_ret
        exact ⟨rfl, Below.then (five _ _ _ _ _ _) (hB3.drewr _)⟩
    · have HB := Lib.hid hB
      clear hB
      unfold curVal rowVal
      go_enter Try.func3, Try.ntmps3
      go_wp2_with fail
      with_reducible refine (after_any _ _ _ _ _ _ _).mono ?_
      rintro e w1 ⟨rfl, hb1⟩
      have hB1 := hb1
      rw [A0.out]
      obtain ⟨hc1, _⟩ := bcell hB1
      go_wp2_with fail
      with_reducible refine (rbehind_any _ _ _ _ _ _ _).mono ?_
      rintro e w2 ⟨rfl, hb2⟩
      have hB2 := hB1.then hb2
      clear hc1
      rw [HB.out]
      obtain ⟨hc2, _⟩ := bcell hB2
      go_wp2_with fail
      go_quiet (fail)
      go_wp2
      go_ret
      exact ⟨rfl, Below.then (five _ _ _ _ _ _) (hB2.drewr _)⟩
  · have hid1 : (a.ID == -1) = false := beq_eq_false_iff_ne.2 hid
    have hid2 : (a.ID != -1) = true := by simp [hid]
    have A1 := Lib.hid (after_self (q := c.Q) hid)
    have hA2 := after_at (q := c.Q) (b := b) hid
    clear hid
    rcases Bool.eq_false_or_eq_true (behindB b a) with hB | hB
    · have HB := Lib.hid hB
      have A2 := Lib.hid (hA2.trans hB)
      rcases Bool.eq_false_or_eq_true (afterB c a) with hA | hA
      · have HA := Lib.hid hA
        have HC := Lib.hid (after_trans hB hA)
        clear hA hB hA2
        unfold curVal rowVal
        go_enter Try.func3, Try.ntmps3
        go_wp2_with fail
        with_reducible refine (after_any _ _ _ _ _ _ _).mono ?_
        rintro e w1 ⟨rfl, hb1⟩
        have hB1 := hb1
        rw [A0.out]
        obtain ⟨hc1, _⟩ := bcell hB1
        go_wp2_with fail
        with_reducible refine (after_any _ _ _ _ _ _ _).mono ?_
        rintro e w2 ⟨rfl, hb2⟩
        have hB2 := hB1.then hb2
        clear hc1
        rw [A1.out]
        obtain ⟨hc2, _⟩ := bcell hB2
        go_wp2_with fail
        with_reducible refine (rbehind_any _ _ _ _ _ _ _).mono ?_
        rintro e w3 ⟨rfl, hb3⟩
        have hB3 := hB2.then hb3
        clear hc2
        rw [HB.out]
        obtain ⟨hc3, _⟩ := bcell hB3
        go_wp2_with fail
        with_reducible refine (after_any _ _ _ _ _ _ _).mono ?_
        rintro e w4 ⟨rfl, hb4⟩
        have hB4 := hB3.then hb4
        clear hc3
        rw [HA.out]
        obtain ⟨hc4, _⟩ := bcell hB4
        go_wp2_with fail
        with_reducible refine (after_any _ _ _ _ _ _ _).mono ?_
        rintro e w5 ⟨rfl, hb5⟩
        have hB5 := hB4.then hb5
        clear hc4
        rw [HC.out]
        obtain ⟨hc5, _⟩ := bcell hB5
        go_wp2_with fail
        have sz := hB5.size
        simp at sz
        have p0 : w5.cell? ⟨w.heap.size + 1, 0, none⟩ = some (.int .i64 a.T) := (hc5 _ _ (by simp)).trans (by simp [go_sem])
        have p1 : w5.cell? ⟨w.heap.size + 1, 1, none⟩ = some (.int .i64 a.ID) := (hc5 _ _ (by simp)).trans (by simp [go_sem])
        have p2 : w5.cell? ⟨w.heap.size + 1, 2, none⟩ = some (.int .i64 a.V) := (hc5 _ _ (by simp)).trans (by simp [go_sem])
        have p3 : w5.cell? ⟨w.heap.size + 1 + 1, 0, none⟩ = some (.int .i64 b.T) := (hc5 _ _ (by simp)).trans (by simp [go_sem])
        have p4 : w5.cell? ⟨w.heap.size + 1 + 1, 1, none⟩ = some (.int .i64 b.ID) := (hc5 _ _ (by simp)).trans (by simp [go_sem])
        have p5 : w5.cell? ⟨w.heap.size + 1 + 1, 2, none⟩ = some (.int .i64 b.V) := (hc5 _ _ (by simp)).trans (by simp [go_sem])
        have p6 : w5.cell? ⟨w.heap.size + 1 + 1 + 1 + 1, 0, none⟩ = some (.string c.Q) := (hc5 _ _ (by simp)).trans (by simp [go_sem])
        have p7 : w5.cell? ⟨w.heap.size + 1 + 1 + 1 + 1, 1, none⟩ = some (.int .i64 a.T) := (hc5 _ _ (by simp)).trans (by simp [go_sem])
        have p8 : w5.cell? ⟨w.heap.size + 1 + 1 + 1 + 1, 2, none⟩ = some (.int .i64 a.ID) := (hc5 _ _ (by simp)).trans (by simp [go_sem])
        clear hc5
        go_region_held3 (fun w' => w'.cell? ⟨w.heap.size + 1, 0, none⟩ = some (.int .i64 a.T) ∧ w'.cell? ⟨w.heap.size + 1, 1, none⟩ = some (.int .i64 a.ID) ∧ w'.cell? ⟨w.heap.size + 1, 2, none⟩ = some (.int .i64 a.V) ∧ w'.cell? ⟨w.heap.size + 1 + 1, 0, none⟩ = some (.int .i64 b.T) ∧ w'.cell? ⟨w.heap.size + 1 + 1, 1, none⟩ = some (.int .i64 b.ID) ∧ w'.cell? ⟨w.heap.size + 1 + 1, 2, none⟩ = some (.int .i64 b.V) ∧ w'.cell? ⟨w.heap.size + 1 + 1 + 1 + 1, 0, none⟩ = some (.string c.Q) ∧ w'.cell? ⟨w.heap.size + 1 + 1 + 1 + 1, 1, none⟩ = some (.int .i64 a.T) ∧ w'.cell? ⟨w.heap.size + 1 + 1 + 1 + 1, 2, none⟩ = some (.int .i64 a.ID))
          (first | go_keep | (go_split_ands; refine ⟨?_, ?_, ?_, ?_, ?_, ?_, ?_, ?_, ?_⟩ <;> (first | (refine keepc hbq ?_; first | assumption | go_keep) | (refine keepc hbp ?_; first | assumption | go_keep))))
          (first | (go_at_call 5; refine (after_any _ _ _ _ _ _ _).mono ?_; rintro e wp ⟨rfl, hbp⟩) | (go_at_call 6; refine (rbehind_any _ _ _ _ _ _ _).mono ?_; rintro e wq ⟨rfl, hbq⟩))
        go_wp2
        go_ret
        exact ⟨ret_bool (by rw [A2.out, HB.out]; rfl), Below.then (five _ _ _ _ _ _) (hB5.then (hbp.drewl.then hbq))⟩
      · have HA := Lib.hid hA
        clear hA hB hA2
        unfold curVal rowVal
        go_enter Try.func3, Try.ntmps3
        go_wp2_with fail
        with_reducible refine (after_any _ _ _ _ _ _ _).mono ?_
        rintro e w1 ⟨rfl, hb1⟩
        have hB1 := hb1
        rw [A0.out]
        obtain ⟨hc1, _⟩ := bcell hB1
        go_wp2_with fail
        with_reducible refine (after_any _ _ _ _ _ _ _).mono ?_
        rintro e w2 ⟨rfl, hb2⟩
        have hB2 := hB1.then hb2
        clear hc1
        rw [A1.out]
        obtain ⟨hc2, _⟩ := bcell hB2
        go_wp2_with fail
        with_reducible refine (rbehind_any _ _ _ _ _ _ _).mono ?_
        rintro e w3 ⟨rfl, hb3⟩
        have hB3 := hB2.then hb3
        clear hc2
        rw [HB.out]
        obtain ⟨hc3, _⟩ := bcell hB3
        go_wp2_with fail
        with_reducible refine (after_any _ _ _ _ _ _ _).mono ?_
        rintro e w4 ⟨rfl, hb4⟩
        have hB4 := hB3.then hb4
        clear hc3
        rw [HA.out]
        obtain ⟨hc4, _⟩ := bcell hB4
        go_wp2_with fail
        have sz := hB4.size
        simp at sz
        have p0 : w4.cell? ⟨w.heap.size + 1, 0, none⟩ = some (.int .i64 a.T) := (hc4 _ _ (by simp)).trans (by simp [go_sem])
        have p1 : w4.cell? ⟨w.heap.size + 1, 1, none⟩ = some (.int .i64 a.ID) := (hc4 _ _ (by simp)).trans (by simp [go_sem])
        have p2 : w4.cell? ⟨w.heap.size + 1, 2, none⟩ = some (.int .i64 a.V) := (hc4 _ _ (by simp)).trans (by simp [go_sem])
        have p3 : w4.cell? ⟨w.heap.size + 1 + 1, 0, none⟩ = some (.int .i64 b.T) := (hc4 _ _ (by simp)).trans (by simp [go_sem])
        have p4 : w4.cell? ⟨w.heap.size + 1 + 1, 1, none⟩ = some (.int .i64 b.ID) := (hc4 _ _ (by simp)).trans (by simp [go_sem])
        have p5 : w4.cell? ⟨w.heap.size + 1 + 1, 2, none⟩ = some (.int .i64 b.V) := (hc4 _ _ (by simp)).trans (by simp [go_sem])
        have p6 : w4.cell? ⟨w.heap.size + 1 + 1 + 1 + 1, 0, none⟩ = some (.string c.Q) := (hc4 _ _ (by simp)).trans (by simp [go_sem])
        have p7 : w4.cell? ⟨w.heap.size + 1 + 1 + 1 + 1, 1, none⟩ = some (.int .i64 a.T) := (hc4 _ _ (by simp)).trans (by simp [go_sem])
        have p8 : w4.cell? ⟨w.heap.size + 1 + 1 + 1 + 1, 2, none⟩ = some (.int .i64 a.ID) := (hc4 _ _ (by simp)).trans (by simp [go_sem])
        clear hc4
        go_region_held3 (fun w' => w'.cell? ⟨w.heap.size + 1, 0, none⟩ = some (.int .i64 a.T) ∧ w'.cell? ⟨w.heap.size + 1, 1, none⟩ = some (.int .i64 a.ID) ∧ w'.cell? ⟨w.heap.size + 1, 2, none⟩ = some (.int .i64 a.V) ∧ w'.cell? ⟨w.heap.size + 1 + 1, 0, none⟩ = some (.int .i64 b.T) ∧ w'.cell? ⟨w.heap.size + 1 + 1, 1, none⟩ = some (.int .i64 b.ID) ∧ w'.cell? ⟨w.heap.size + 1 + 1, 2, none⟩ = some (.int .i64 b.V) ∧ w'.cell? ⟨w.heap.size + 1 + 1 + 1 + 1, 0, none⟩ = some (.string c.Q) ∧ w'.cell? ⟨w.heap.size + 1 + 1 + 1 + 1, 1, none⟩ = some (.int .i64 a.T) ∧ w'.cell? ⟨w.heap.size + 1 + 1 + 1 + 1, 2, none⟩ = some (.int .i64 a.ID))
          (first | go_keep | (go_split_ands; refine ⟨?_, ?_, ?_, ?_, ?_, ?_, ?_, ?_, ?_⟩ <;> (first | (refine keepc hbq ?_; first | assumption | go_keep) | (refine keepc hbp ?_; first | assumption | go_keep))))
          (first | (go_at_call 5; refine (after_any _ _ _ _ _ _ _).mono ?_; rintro e wp ⟨rfl, hbp⟩) | (go_at_call 6; refine (rbehind_any _ _ _ _ _ _ _).mono ?_; rintro e wq ⟨rfl, hbq⟩))
        go_wp2
        go_ret
        exact ⟨ret_bool (by rw [A2.out, HB.out]; rfl), Below.then (five _ _ _ _ _ _) (hB4.then (hbp.drewl.then hbq))⟩
    · have HB := Lib.hid hB
      have A2 := Lib.hid (hA2.trans hB)
      clear hB hA2
      unfold curVal rowVal
      go_enter Try.func3, Try.ntmps3
      go_wp2_with fail
      with_reducible refine (after_any _ _ _ _ _ _ _).mono ?_
      rintro e w1 ⟨rfl, hb1⟩
      have hB1 := hb1
      rw [A0.out]
      obtain ⟨hc1, _⟩ := bcell hB1
      go_wp2_with fail
      with_reducible refine (after_any _ _ _ _ _ _ _).mono ?_
      rintro e w2 ⟨rfl, hb2⟩
      have hB2 := hB1.then hb2
      clear hc1
      rw [A1.out]
      obtain ⟨hc2, _⟩ := bcell hB2
      go_wp2_with fail
      with_reducible refine (rbehind_any _ _ _ _ _ _ _).mono ?_
      rintro e w3 ⟨rfl, hb3⟩
      have hB3 := hB2.then hb3
      clear hc2
      rw [HB.out]
      obtain ⟨hc3, _⟩ := bcell hB3
      go_wp2_with fail
      have sz := hB3.size
      simp at sz
      have p0 : w3.cell? ⟨w.heap.size + 1, 0, none⟩ = some (.int .i64 a.T) := (hc3 _ _ (by simp)).trans (by simp [go_sem])
      have p1 : w3.cell? ⟨w.heap.size + 1, 1, none⟩ = some (.int .i64 a.ID) := (hc3 _ _ (by simp)).trans (by simp [go_sem])
      have p2 : w3.cell? ⟨w.heap.size + 1, 2, none⟩ = some (.int .i64 a.V) := (hc3 _ _ (by simp)).trans (by simp [go_sem])
      have p3 : w3.cell? ⟨w.heap.size + 1 + 1, 0, none⟩ = some (.int .i64 b.T) := (hc3 _ _ (by simp)).trans (by simp [go_sem])
      have p4 : w3.cell? ⟨w.heap.size + 1 + 1, 1, none⟩ = some (.int .i64 b.ID) := (hc3 _ _ (by simp)).trans (by simp [go_sem])
      have p5 : w3.cell? ⟨w.heap.size + 1 + 1, 2, none⟩ = some (.int .i64 b.V) := (hc3 _ _ (by simp)).trans (by simp [go_sem])
      have p6 : w3.cell? ⟨w.heap.size + 1 + 1 + 1 + 1, 0, none⟩ = some (.string c.Q) := (hc3 _ _ (by simp)).trans (by simp [go_sem])
      have p7 : w3.cell? ⟨w.heap.size + 1 + 1 + 1 + 1, 1, none⟩ = some (.int .i64 a.T) := (hc3 _ _ (by simp)).trans (by simp [go_sem])
      have p8 : w3.cell? ⟨w.heap.size + 1 + 1 + 1 + 1, 2, none⟩ = some (.int .i64 a.ID) := (hc3 _ _ (by simp)).trans (by simp [go_sem])
      clear hc3
      go_region_held3 (fun w' => w'.cell? ⟨w.heap.size + 1, 0, none⟩ = some (.int .i64 a.T) ∧ w'.cell? ⟨w.heap.size + 1, 1, none⟩ = some (.int .i64 a.ID) ∧ w'.cell? ⟨w.heap.size + 1, 2, none⟩ = some (.int .i64 a.V) ∧ w'.cell? ⟨w.heap.size + 1 + 1, 0, none⟩ = some (.int .i64 b.T) ∧ w'.cell? ⟨w.heap.size + 1 + 1, 1, none⟩ = some (.int .i64 b.ID) ∧ w'.cell? ⟨w.heap.size + 1 + 1, 2, none⟩ = some (.int .i64 b.V) ∧ w'.cell? ⟨w.heap.size + 1 + 1 + 1 + 1, 0, none⟩ = some (.string c.Q) ∧ w'.cell? ⟨w.heap.size + 1 + 1 + 1 + 1, 1, none⟩ = some (.int .i64 a.T) ∧ w'.cell? ⟨w.heap.size + 1 + 1 + 1 + 1, 2, none⟩ = some (.int .i64 a.ID))
        (first | go_keep | (go_split_ands; refine ⟨?_, ?_, ?_, ?_, ?_, ?_, ?_, ?_, ?_⟩ <;> (first | (refine keepc hbq ?_; first | assumption | go_keep) | (refine keepc hbp ?_; first | assumption | go_keep))))
        (first | (go_at_call 5; refine (after_any _ _ _ _ _ _ _).mono ?_; rintro e wp ⟨rfl, hbp⟩) | (go_at_call 6; refine (rbehind_any _ _ _ _ _ _ _).mono ?_; rintro e wq ⟨rfl, hbq⟩))
      go_wp2
      go_ret
      exact ⟨ret_bool (by rw [A2.out, HB.out]; rfl), Below.then (five _ _ _ _ _ _) (hB3.then (hbp.drewl.then hbq))⟩
end Go.Proofs.Ytfhgjangeicbjaa
