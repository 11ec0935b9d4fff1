/-
  Plain Lean: rows in their order, page by page.
-/
import Derived.Test.YtfhgjangeicbjaaDoorCursorPage
import Derived.Test.YtfhgjangeicbjaaDoorCurPlain
namespace Go.Proofs.YtfhgjangeicbjaaDoor

def rightRow (x : Row) : Prop := 0 ≤ x.T ∧ x.T < 1099511627776 ∧ 0 ≤ x.ID ∧ x.ID < 200
/-- rows that are right, each behind the one ahead -/
def Good (rows : List Row) : Prop := (∀ x ∈ rows, rightRow x) ∧ rows.Pairwise fun a b => behindB b a = true

theorem behind_trans {a b c : Row} (h : behindB b a = true) (k : behindB c b = true) : behindB c a = true := by
  simp only [behindB, Bool.or_eq_true, decide_eq_true_eq, Bool.and_eq_true, beq_iff_eq] at *
  omega
theorem behind_asymm {a b : Row} (h : behindB b a = true) : behindB a b = false := by
  rcases Bool.eq_false_or_eq_true (behindB a b) with h' | h'
  · simp only [behindB, Bool.or_eq_true, decide_eq_true_eq, Bool.and_eq_true, beq_iff_eq] at *
    omega
  · exact h'
theorem behind_self (a : Row) : behindB a a = false := by simp [behindB]

theorem good_nil : Good [] := ⟨by simp, List.Pairwise.nil⟩
theorem good_one {x : Row} (h : rightRow x) : Good [x] := ⟨by simpa using h, List.pairwise_singleton _ _⟩
theorem good_snoc {l : List Row} {x : Row} (hg : Good l) (h : rightRow x) {m : Nat} (hm : l.length = m + 1) (hb : behindB x (l[m]'(by omega)) = true) : Good (l ++ [x]) := by
  refine ⟨?_, ?_⟩
  · intro y hy
    rw [List.mem_append] at hy
    rcases hy with hy | hy
    · exact hg.1 y hy
    · simp at hy; subst hy; exact h
  · rw [List.pairwise_append]
    refine ⟨hg.2, List.pairwise_singleton _ _, ?_⟩
    intro a ha b hb'
    simp at hb'; subst hb'
    obtain ⟨i, hi, rfl⟩ := List.getElem_of_mem ha
    by_cases him : i = m
    · subst him; exact hb
    · exact behind_trans ((List.pairwise_iff_getElem.1 hg.2) i m hi (by omega) (by omega)) hb

/-- the cursor behind m rows -/
def curAt (q : ByteArray) (rows : List Row) (m : Nat) : Cur := match rows[m - 1]? with
  | some r => if m = 0 then ⟨q, 0, -1⟩ else ⟨q, r.T, r.ID⟩
  | none => ⟨q, 0, -1⟩
theorem curAt_zero (q : ByteArray) (rows : List Row) : curAt q rows 0 = ⟨q, 0, -1⟩ := by
  unfold curAt; split <;> simp
theorem curAt_some {q : ByteArray} {rows : List Row} {m : Nat} (h : m < rows.length) : curAt q rows (m + 1) = ⟨q, rows[m].T, rows[m].ID⟩ := by
  unfold curAt
  rw [Nat.add_sub_cancel, List.getElem?_eq_getElem h]
  simp

theorem curAt_right {q : ByteArray} {rows : List Row} {m : Nat} (hq : q.size ≤ 1024) (hg : Good rows) (hm : m ≤ rows.length) : rightB (curAt q rows m) = true := by
  rw [rightB_iff]
  match m with
  | 0 => rw [curAt_zero]; exact ⟨hq, .inl ⟨rfl, rfl⟩⟩
  | m + 1 =>
    rw [curAt_some (by omega)]
    have := hg.1 _ (List.getElem_mem (show m < rows.length by omega))
    unfold rightRow at this
    exact ⟨hq, .inr ⟨this.2.2.1, this.2.2.2, this.1, this.2.1⟩⟩

theorem after_row {q : ByteArray} {y r : Row} (hy : rightRow y) : afterB ⟨q, y.T, y.ID⟩ r = behindB r y := by
  have hn : (y.ID == -1) = false := by
    rw [beq_eq_false_iff_ne]; unfold rightRow at hy; omega
  simp only [afterB, behindB, hn, Bool.false_or]
  congr 2
  exact Bool.eq_iff_iff.2 (by simp only [beq_iff_eq]; exact eq_comm)

theorem behind_at {q : ByteArray} {rows : List Row} {m : Nat} (hg : Good rows) (hm : m ≤ rows.length) : behindOf (curAt q rows m) rows = rows.drop m := by
  match m with
  | 0 =>
    rw [curAt_zero, List.drop_zero, behindOf]
    exact List.filter_eq_self.2 fun r _ => by simp [afterB]
  | m + 1 =>
    have hml : m < rows.length := by omega
    have hy := hg.1 _ (List.getElem_mem hml)
    rw [curAt_some hml]
    have hs : rows = rows.take (m + 1) ++ rows.drop (m + 1) := (List.take_append_drop _ _).symm
    have h1 : behindOf ⟨q, rows[m].T, rows[m].ID⟩ (rows.take (m + 1)) = [] := by
      unfold behindOf
      rw [List.filter_eq_nil_iff]
      intro a ha
      obtain ⟨i, hi, rfl⟩ := List.getElem_of_mem ha
      rw [List.length_take] at hi
      rw [List.getElem_take, after_row hy]
      by_cases him : i = m
      · subst him; rw [behind_self]; decide
      · rw [behind_asymm ((List.pairwise_iff_getElem.1 hg.2) i m (by omega) hml (by omega))]; decide
    have h2 : behindOf ⟨q, rows[m].T, rows[m].ID⟩ (rows.drop (m + 1)) = rows.drop (m + 1) := by
      unfold behindOf
      rw [List.filter_eq_self]
      intro a ha
      obtain ⟨i, hi, rfl⟩ := List.getElem_of_mem ha
      rw [List.length_drop] at hi
      rw [List.getElem_drop, after_row hy]
      exact (List.pairwise_iff_getElem.1 hg.2) m (m + 1 + i) hml (by omega) (by omega)
    have h3 : behindOf ⟨q, rows[m].T, rows[m].ID⟩ rows = behindOf ⟨q, rows[m].T, rows[m].ID⟩ (rows.take (m + 1) ++ rows.drop (m + 1)) := by rw [List.take_append_drop]
    rw [h3]
    unfold behindOf at h1 h2 ⊢
    rw [List.filter_append, h1, h2, List.nil_append]

theorem page_at {q : ByteArray} {rows : List Row} {m k : Nat} (hg : Good rows) (hm : m ≤ rows.length) :
    pageRows rows (curAt q rows m) k = (rows.drop m).take k ∧ pageMore rows (curAt q rows m) k = decide (m + k < rows.length) := by
  unfold pageRows pageMore
  rw [behind_at hg hm]
  refine ⟨by simp, ?_⟩
  rw [List.length_drop]
  simp; omega

theorem told_next (rows : List Row) (m k : Nat) : rows.take m ++ (rows.drop m).take k = rows.take (min (m + k) rows.length) := by
  rw [← List.take_add]
  by_cases h : m + k ≤ rows.length
  · rw [Nat.min_eq_left h]
  · rw [Nat.min_eq_right (by omega), List.take_of_length_le (by omega), List.take_length]
end Go.Proofs.YtfhgjangeicbjaaDoor
