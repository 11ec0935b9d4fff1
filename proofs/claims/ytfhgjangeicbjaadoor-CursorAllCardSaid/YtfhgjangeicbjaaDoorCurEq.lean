/-
  '==' and '!=' on cursors; what a decoder answers to a text of which all is known.
-/
import Derived.Test.YtfhgjangeicbjaaDoorCurRDec
import Derived.Laws.StructEq
namespace Go.Proofs.YtfhgjangeicbjaaDoor
open Go Go.RowKit

/-- are two cursors one? -/
def curEq (a b : Cur) : Bool := a.Q.toList == b.Q.toList && a.T == b.T && a.ID == b.ID

theorem curEq_iff (a b : Cur) : curEq a b = true ↔ a = b := by
  obtain ⟨q, t, i⟩ := a
  obtain ⟨q', t', i'⟩ := b
  simp only [curEq, Bool.and_eq_true, beq_iff_eq, Lib.toList_data, Cur.mk.injEq]
  constructor
  · rintro ⟨⟨h1, h2⟩, h3⟩
    exact ⟨by rw [← S_data q, ← S_data q', h1], h2, h3⟩
  · rintro ⟨h1, h2, h3⟩
    exact ⟨⟨by rw [h1], h2⟩, h3⟩
theorem curEq_refl (a : Cur) : curEq a a = true := (curEq_iff a a).2 rfl

theorem cur_stood : Tryd.prog.stoodInHeld 23 = false := by kernel_rfl
theorem cur_fields : Tryd.prog.underlying 23 = some (.struct (Tryd.prog.fieldsOf 23)) := by kernel_rfl
theorem cur_guard : Tryd.prog.eqGuardType Tryd.prog.depth 23 = false := by kernel_rfl

theorem run_cur_equalIn (d : Nat) (q : ByteArray) (t i : Int) (q' : ByteArray) (t' i' : Int) (w : World) :
    (Op.equalIn (d + 2) 23 (.agg #[.string q, .int .i64 t, .int .i64 i]) (.agg #[.string q', .int .i64 t', .int .i64 i'])).run Tryd.prog w = .ok (curEq ⟨q, t, i⟩ ⟨q', t', i'⟩) w := by
  rw [run_equalIn_struct w (d + 1) 23 _ _ cur_fields cur_stood]
  simp [Program.fieldsOf, Tryd.underlying23, Tryd.underlying3, Tryd.underlying9, go_sem, curEq]
  by_cases h1 : q.toList = q'.toList <;> by_cases h2 : t = t' <;> by_cases h3 : i = i' <;> simp [h1, h2, h3]

theorem run_cur_eql (q : ByteArray) (t i : Int) (q' : ByteArray) (t' i' : Int) (w : World) :
    (binOp .eql 23 (.agg #[.string q, .int .i64 t, .int .i64 i]) (.agg #[.string q', .int .i64 t', .int .i64 i'])).run Tryd.prog w = .ok (.bool (curEq ⟨q, t, i⟩ ⟨q', t', i'⟩)) w := by
  rw [run_eql_struct, run_cur_equalIn 9998]; rfl

theorem rcur_stood : Tryd.prog.stoodInHeld 28 = false := by kernel_rfl
theorem rcur_fields : Tryd.prog.underlying 28 = some (.struct (Tryd.prog.fieldsOf 28)) := by kernel_rfl
theorem rcur_guard : Tryd.prog.eqGuardType Tryd.prog.depth 28 = false := by kernel_rfl

theorem run_rcur_equalIn (d : Nat) (q : ByteArray) (t i : Int) (q' : ByteArray) (t' i' : Int) (w : World) :
    (Op.equalIn (d + 2) 28 (.agg #[.string q, .int .i64 t, .int .i64 i]) (.agg #[.string q', .int .i64 t', .int .i64 i'])).run Tryd.prog w = .ok (curEq ⟨q, t, i⟩ ⟨q', t', i'⟩) w := by
  rw [run_equalIn_struct w (d + 1) 28 _ _ rcur_fields rcur_stood]
  simp [Program.fieldsOf, Tryd.underlying28, Tryd.underlying3, Tryd.underlying9, go_sem, curEq]
  by_cases h1 : q.toList = q'.toList <;> by_cases h2 : t = t' <;> by_cases h3 : i = i' <;> simp [h1, h2, h3]

theorem run_rcur_neq (q : ByteArray) (t i : Int) (q' : ByteArray) (t' i' : Int) (w : World) :
    (binOp .neq 28 (.agg #[.string q, .int .i64 t, .int .i64 i]) (.agg #[.string q', .int .i64 t', .int .i64 i'])).run Tryd.prog w = .ok (.bool (!curEq ⟨q, t, i⟩ ⟨q', t', i'⟩)) w := by
  rw [run_neq_struct, run_rcur_equalIn 9998]; rfl

theorem decode_to (s : ByteArray) (r : Option Cur) (w : World) (ht : Tab w) (hs : s.size < 1099511627776) (hr : DecOf s.data.toList r) :
    Calls Tryd.prog 10 #[.string s] w fun e w' => e = .returned (decVal r) ∧ Below w.heap.size w w' := by
  refine (decode_any s w ht hs).mono ?_
  rintro e w' ⟨r', rfl, hr', hb⟩
  rw [decOf_fun hr' hr]
  exact ⟨rfl, hb⟩
theorem rdecode_to (s : ByteArray) (r : Option Cur) (w : World) (hs : s.size < 1099511627776) (hr : DecOf s.data.toList r) :
    Calls Tryd.prog 11 #[.string s] w fun e w' => e = .returned (decVal r) ∧ Below w.heap.size w w' := by
  refine (rdecode_any s w hs).mono ?_
  rintro e w' ⟨r', rfl, hr', hb⟩
  rw [decOf_fun hr' hr]
  exact ⟨rfl, hb⟩

theorem decOf_empty : DecOf [] none := fun c hr he => by
  have := (token_len hr).1
  rw [← he] at this
  simp at this
theorem decode_empty (w : World) (ht : Tab w) :
    Calls Tryd.prog 10 #[.string ⟨#[]⟩] w fun e w' => e = .returned (.tuple #[.agg #[.string ⟨#[]⟩, .int .i64 0, .int .i64 0], .int .i64 200]) ∧ Below w.heap.size w w' :=
  decode_to ⟨#[]⟩ none w ht (by decide) decOf_empty

/-- three cells, behind one block more -/
theorem three_later {w : World} {b : Nat} {v0 v1 v2 : Value} {t : TypeId} (hk : w.heap[b]? = some (.cells #[v0, v1, v2] t (0, 0))) :
    (∀ o, (w.alloc o).cell? ⟨b, 0, none⟩ = some v0) ∧ (∀ o, (w.alloc o).cell? ⟨b, 1, none⟩ = some v1) ∧ (∀ o, (w.alloc o).cell? ⟨b, 2, none⟩ = some v2) := by
  have h := fun o => three_cells ((Lib.alloc_old w o b (Array.getElem?_eq_some_iff.1 hk).1).trans hk)
  exact ⟨fun o => (h o).1.1, fun o => (h o).1.2.1, fun o => (h o).1.2.2⟩

/-- a right cursor's token, as a text of its own -/
theorem token_text {c : Cur} (h : rightB c = true) : ∃ K : ByteArray, K = S (token c) ∧ K.data.toList = token c ∧ (12 : Int) ≤ (K.size : Int) ∧ K.size < 1099511627776 := by
  have hl := token_len h
  exact ⟨_, rfl, S_toList _, by rw [S_size]; omega, by rw [S_size]; omega⟩
end Go.Proofs.YtfhgjangeicbjaaDoor
