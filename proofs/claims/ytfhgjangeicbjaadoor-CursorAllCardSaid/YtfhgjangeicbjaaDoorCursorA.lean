/-
  The walks of cursor.After and what is like it.
-/
import Derived.Test.YtfhgjangeicbjaaDoorRow
namespace Go.Proofs.YtfhgjangeicbjaaDoor
open Go Go.RowKit Go.Deep Go.ChangeShapes Go.WideShapes

/-- where a query stands -/
structure Cur where
  Q : ByteArray
  T : Int
  ID : Int
def Cur.ok (c : Cur) : Prop := c.Q.size ≤ maxLen ∧ I64 c.T ∧ I64 c.ID
def curVal (c : Cur) : Value := .agg #[.string c.Q, .int .i64 c.T, .int .i64 c.ID]

section
variable {H : Type} {enc : TypeId × Value → H} {w : World}
theorem read_cur {v : Value} {d : DataW H} {p : List MemPlace} {r : Reach} {b0 : Nat} (hv : Value.okWide Tryd.prog w r b0 23 v) (h : DataW.Trod enc Tryd.prog w 0 (fun _ => true) true 23 v d p) :
    ∃ x : Cur, v = curVal x ∧ Cur.ok x := by
  obtain ⟨cs, rfl, hsz⟩ := okWide_struct Tryd.underlying23 hv
  obtain ⟨fuel, hf⟩ := h
  have hl : cs.toList.length = 3 := by
    have h3 : Tryd.prog.cellsOf 23 = 3 := by kernel_rfl
    simp [hsz, h3]
  have hf' : DataW.trod enc Tryd.prog w 0 (fun _ => true) true fuel 23 cs.toList = some (d, p) := by simpa [Value.cells] using hf
  obtain ⟨_, m, hg⟩ := trod_fields Tryd.underlying23 (by kernel_rfl) hf'
  obtain ⟨v0, y0, e0, h0⟩ := hg 0 _ rfl (by omega)
  obtain ⟨v1, y1, e1, h1⟩ := hg 1 _ rfl (by omega)
  obtain ⟨v2, y2, e2, h2⟩ := hg 2 _ rfl (by omega)
  obtain ⟨a, ha, _, wa⟩ := DataW.trod_string Tryd.underlying9 h0
  obtain ⟨b, hb, _, wb⟩ := DataW.trod_int Tryd.underlying3 h1
  obtain ⟨c, hc, _, wc⟩ := DataW.trod_int Tryd.underlying3 h2
  simp at ha hb hc
  subst ha hb hc
  refine ⟨⟨a, b, c⟩, ?_, wa, bounds_i64 wb, bounds_i64 wc⟩
  obtain ⟨l⟩ := cs
  match l, hl with
  | [p, q, r], _ =>
    simp at e0 e1 e2
    subst e0 e1 e2
    rfl
end

/-- is a row behind a cursor? -/
def afterB (c : Cur) (r : Row) : Bool := (c.ID == -1 || decide (c.T < r.T)) || (c.T == r.T && decide (c.ID < r.ID))

theorem after_any (q : ByteArray) (t id rt rid rv : Int) (w : World) :
    Calls Tryd.prog 32 #[.agg #[.string q, .int .i64 t, .int .i64 id], .agg #[.int .i64 rt, .int .i64 rid, .int .i64 rv]] w fun e w' => e = .returned (.bool (afterB ⟨q, t, id⟩ ⟨rt, rid, rv⟩)) ∧ Below w.heap.size w w' := by
  go_enter Tryd.func32, Tryd.ntmps32
  go_wp2
  all_goals go_ret
  all_goals exact ⟨ret_bool (by simp [afterB, *]), below_two _ _ _⟩

/-- is a row behind another one? -/
def behindB (a b : Row) : Bool := decide (b.T < a.T) || (a.T == b.T && decide (b.ID < a.ID))

theorem rbehind_any (at' aid av bt bid bv : Int) (w : World) :
    Calls Tryd.prog 12 #[.agg #[.int .i64 at', .int .i64 aid, .int .i64 av], .agg #[.int .i64 bt, .int .i64 bid, .int .i64 bv]] w fun e w' => e = .returned (.bool (behindB ⟨at', aid, av⟩ ⟨bt, bid, bv⟩)) ∧ Below w.heap.size w w' := by
  go_enter Tryd.func12, Tryd.ntmps12
  go_wp2
  all_goals go_ret
  all_goals exact ⟨ret_bool (by simp [behindB, *]), below_two _ _ _⟩
end Go.Proofs.YtfhgjangeicbjaaDoor
