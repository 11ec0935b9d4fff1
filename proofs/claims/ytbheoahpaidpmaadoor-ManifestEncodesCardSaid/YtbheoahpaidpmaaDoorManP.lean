/-
  Plain Lean: states of parts, and what edits make of them.
-/
import Derived.Test.YtbheoahpaidpmaaDoorPackA
import Derived.Lib.ItoaNum
namespace Go.Proofs.YtbheoahpaidpmaaDoor
open Go Go.RowKit

structure PartV where
  Day : Int
  Layout : Int
  File : List UInt8
structure St where
  Parts : List PartV
  Next : Int
  Past : Int
  On : Bool
  Day : Int
  To : Int
  Done : Int
structure Ed where
  Kind : Int
  Day : Int
  Layout : Int
  At : Int
def st0 : St := ⟨[], 0, 0, false, 0, 0, 0⟩

/-- a file's name -/
def fileB (n : Int) : List UInt8 := 102 :: Lib.decDigits n.toNat
def dayOk (d : Int) : Prop := 0 ≤ d ∧ d < 17179869184
instance (d : Int) : Decidable (dayOk d) := inferInstanceAs (Decidable (_ ∧ _))
def bitOk (n : Int) : Prop := n = 0 ∨ n = 1
instance (n : Int) : Decidable (bitOk n) := inferInstanceAs (Decidable (_ ∨ _))
def findP (l : List PartV) (d : Int) : Option PartV := l.find? fun p => p.Day == d
def offS (s : St) : St := { s with On := false, Day := 0, To := 0, Done := 0 }
def dropS (s : St) (d : Int) : St :=
  if s.On = true ∧ s.Day = d then offS { s with Parts := s.Parts.filter fun p => p.Day != d } else { s with Parts := s.Parts.filter fun p => p.Day != d }
/-- a part ahead of the first one behind it -/
def insP (p : PartV) : List PartV → List PartV
  | [] => [p]
  | x :: l => if p.Day < x.Day then p :: x :: l else x :: insP p l
def putS (s : St) (d layout : Int) : Option St :=
  if dayOk d ∧ bitOk layout ∧ s.Next < 1099511627776 then some { dropS s d with Parts := insP ⟨d, layout, fileB s.Next⟩ (dropS s d).Parts, Next := s.Next + 1 } else none
def applyS (s : St) (e : Ed) : Option St :=
  if e.Kind = 0 then putS s e.Day e.Layout
  else if e.Kind = 1 then (if (findP s.Parts e.Day).isSome then some (dropS s e.Day) else none)
  else if e.Kind = 2 then (if s.Past < e.At ∧ e.At ≤ 1099511627776 then some { s with Past := e.At } else none)
  else if e.Kind = 3 then (match findP s.Parts e.Day with
    | none => none
    | some p => if s.On = false ∧ bitOk e.Layout ∧ p.Layout ≠ e.Layout then some { s with On := true, Day := e.Day, To := e.Layout } else none)
  else if e.Kind = 4 then (if s.On = true ∧ s.Done < 5000 then some { s with Done := s.Done + 1 } else none)
  else if e.Kind = 5 then (if s.On = true then putS s s.Day s.To else none)
  else if e.Kind = 6 then (if s.On = true then some (offS s) else none)
  else none
/-- the state, how many edits were looked at where one is refused, the error -/
def foldS : St → List Ed → Nat → St × Nat × Nat
  | s, [], _ => (s, 0, 0)
  | s, e :: l, k => match applyS s e with
    | none => (s, k + 1, 170)
    | some t => foldS t l (k + 1)

/-! parts by rising days -/

def asc : List PartV → Prop
  | [] => True
  | [_] => True
  | x :: y :: l => x.Day < y.Day ∧ asc (y :: l)
theorem asc_cons {x : PartV} {l : List PartV} : asc (x :: l) ↔ (∀ y ∈ l, x.Day < y.Day) ∧ asc l := by
  induction l generalizing x with
  | nil => simp [asc]
  | cons y l ih =>
    simp only [asc]
    constructor
    · rintro ⟨h1, h2⟩
      refine ⟨fun z hz => ?_, h2⟩
      rcases List.mem_cons.1 hz with rfl | hz
      · exact h1
      · have := (ih.1 h2).1 z hz; omega
    · rintro ⟨h1, h2⟩
      exact ⟨h1 y (List.mem_cons_self ..), h2⟩
theorem asc_filter {l : List PartV} (h : asc l) (q : PartV → Bool) : asc (l.filter q) := by
  induction l with
  | nil => exact h
  | cons x l ih =>
    obtain ⟨h1, h2⟩ := asc_cons.1 h
    rw [List.filter_cons]
    split
    · exact asc_cons.2 ⟨fun y hy => h1 y (List.mem_filter.1 hy).1, ih h2⟩
    · exact ih h2
theorem insP_mem {p x : PartV} : ∀ {l : List PartV}, x ∈ insP p l ↔ x = p ∨ x ∈ l
  | [] => by simp [insP]
  | y :: l => by
    unfold insP
    split
    · simp
    · simp only [List.mem_cons, insP_mem (l := l)]
      constructor
      · rintro (h | h | h); exact .inr (.inl h); exact .inl h; exact .inr (.inr h)
      · rintro (h | h | h); exact .inr (.inl h); exact .inl h; exact .inr (.inr h)
theorem asc_ins {p : PartV} : ∀ {l : List PartV}, asc l → (∀ x ∈ l, x.Day ≠ p.Day) → asc (insP p l)
  | [], _, _ => trivial
  | y :: l, h, hn => by
    obtain ⟨h1, h2⟩ := asc_cons.1 h
    unfold insP
    split
    · rename_i hlt
      refine asc_cons.2 ⟨fun x hx => ?_, h⟩
      rcases List.mem_cons.1 hx with rfl | hx
      · exact hlt
      · have := h1 x hx; omega
    · rename_i hge
      refine asc_cons.2 ⟨fun x hx => ?_, asc_ins h2 fun x hx => hn x (List.mem_cons_of_mem _ hx)⟩
      rcases insP_mem.1 hx with rfl | hx
      · have := hn y (List.mem_cons_self ..); omega
      · exact h1 x hx
/-- how many lie ahead of a day -/
def cntP (d : Int) (l : List PartV) : Nat := l.countP fun p => decide (p.Day < d)
theorem cntP_le (d : Int) (l : List PartV) : cntP d l ≤ l.length := List.countP_le_length
theorem cntP_cons (d : Int) (x : PartV) (l : List PartV) : cntP d (x :: l) = cntP d l + if x.Day < d then 1 else 0 := by
  unfold cntP
  rw [List.countP_cons]
  simp
theorem cntP_zero {d : Int} : ∀ {l : List PartV}, (∀ x ∈ l, d ≤ x.Day) → cntP d l = 0
  | [], _ => rfl
  | x :: l, h => by
    have := h x (List.mem_cons_self ..)
    rw [cntP_cons, if_neg (by omega), cntP_zero fun y hy => h y (List.mem_cons_of_mem _ hy)]
/-- what lies ahead of the place, and from it on -/
theorem cntP_at {d : Int} : ∀ {l : List PartV}, asc l → ∀ i, (h : i < l.length) → (l[i].Day < d ↔ i < cntP d l)
  | [], _, i, h => absurd h (by simp)
  | x :: l, ha, i, h => by
    obtain ⟨h1, h2⟩ := asc_cons.1 ha
    rw [cntP_cons]
    by_cases hx : x.Day < d
    · rw [if_pos hx]
      cases i with
      | zero => simp; exact hx
      | succ i =>
        simp only [List.getElem_cons_succ]
        rw [cntP_at h2 i (by simpa using h)]
        omega
    · rw [if_neg hx, cntP_zero fun y hy => by have := h1 y hy; omega]
      have : ∀ y ∈ x :: l, ¬ y.Day < d := fun y hy => by
        rcases List.mem_cons.1 hy with rfl | hy
        · exact hx
        · have := h1 y hy; omega
      have := this _ (List.getElem_mem h)
      omega
/-- a part put where its day lies already -/
theorem ins_set {p : PartV} : ∀ {l : List PartV}, asc l → (h : cntP p.Day l < l.length) → (l[cntP p.Day l]).Day = p.Day → insP p (l.filter fun x => x.Day != p.Day) = l.set (cntP p.Day l) p
  | [], _, h, _ => absurd h (by simp)
  | x :: l, ha, h, he => by
    obtain ⟨h1, h2⟩ := asc_cons.1 ha
    by_cases hx : x.Day < p.Day
    · have hc : cntP p.Day (x :: l) = cntP p.Day l + 1 := by rw [cntP_cons, if_pos hx]
      have hne : (x.Day != p.Day) = true := by simp; omega
      have hl : cntP p.Day l < l.length := by rw [hc] at h; simpa using h
      have he' : (l[cntP p.Day l]).Day = p.Day := by
        have := he
        simp only [hc, List.getElem_cons_succ] at this
        exact this
      rw [List.filter_cons, if_pos hne, hc, List.set_cons_succ]
      unfold insP
      rw [if_neg (by omega), ins_set h2 hl he']
    · have hc : cntP p.Day (x :: l) = 0 := cntP_zero fun y hy => by
        rcases List.mem_cons.1 hy with rfl | hy
        · omega
        · have := h1 y hy; omega
      have hxe : x.Day = p.Day := by
        have := he
        simp only [hc, List.getElem_cons_zero] at this
        exact this
      have hne : (x.Day != p.Day) = false := by simp [hxe]
      have hf : l.filter (fun y => y.Day != p.Day) = l := List.filter_eq_self.2 fun y hy => by have := h1 y hy; simp; omega
      rw [List.filter_cons, hne, if_neg (by simp), hf, hc, List.set_cons_zero]
      cases l with
      | nil => rfl
      | cons y l =>
        unfold insP
        rw [if_pos (by have := h1 y (List.mem_cons_self ..); omega)]
/-- a part put where its day does not lie -/
theorem ins_new {p : PartV} : ∀ {l : List PartV}, asc l → (∀ x ∈ l, x.Day ≠ p.Day) → insP p (l.filter fun x => x.Day != p.Day) = l.take (cntP p.Day l) ++ p :: l.drop (cntP p.Day l)
  | [], _, _ => rfl
  | x :: l, ha, hn => by
    obtain ⟨h1, h2⟩ := asc_cons.1 ha
    have hxn := hn x (List.mem_cons_self ..)
    have hne : (x.Day != p.Day) = true := by simp; exact hxn
    rw [List.filter_cons, if_pos hne]
    unfold insP
    by_cases hx : x.Day < p.Day
    · have hc : cntP p.Day (x :: l) = cntP p.Day l + 1 := by rw [cntP_cons, if_pos hx]
      rw [if_neg (by omega), hc, List.take_succ_cons, List.drop_succ_cons, ins_new h2 fun y hy => hn y (List.mem_cons_of_mem _ hy)]
      rfl
    · have hc : cntP p.Day (x :: l) = 0 := cntP_zero fun y hy => by
        rcases List.mem_cons.1 hy with rfl | hy
        · omega
        · have := h1 y hy; omega
      have hf : l.filter (fun y => y.Day != p.Day) = l := List.filter_eq_self.2 fun y hy => by have := hn y (List.mem_cons_of_mem _ hy); simp; exact this
      rw [if_pos (by omega), hf, hc]
      rfl
/-- whether a day lies there: at its place -/
theorem there_iff {d : Int} {l : List PartV} (h : asc l) : (∃ x ∈ l, x.Day = d) ↔ ∃ h : cntP d l < l.length, (l[cntP d l]).Day = d := by
  constructor
  · rintro ⟨x, hx, e⟩
    obtain ⟨i, hi, rfl⟩ := List.getElem_of_mem hx
    have hc : cntP d l ≤ i := by
      have := cntP_at (d := d) h i hi
      omega
    have hlt : cntP d l < l.length := by omega
    refine ⟨hlt, ?_⟩
    have h1 := cntP_at (d := d) h (cntP d l) hlt
    rcases Nat.lt_or_ge (cntP d l) i with h2 | h2
    · have key : ∀ {l : List PartV}, asc l → ∀ i j, (hi : i < l.length) → (hj : j < i) → (l[j]'(by omega)).Day < l[i].Day := by
        intro l
        induction l with
        | nil => intro _ i _ hi; exact absurd hi (by simp)
        | cons y l ih =>
          intro ha i j hi hj
          obtain ⟨g1, g2⟩ := asc_cons.1 ha
          cases i with
          | zero => omega
          | succ i =>
            cases j with
            | zero => simp only [List.getElem_cons_zero, List.getElem_cons_succ]; exact g1 _ (List.getElem_mem _)
            | succ j => simp only [List.getElem_cons_succ]; exact ih g2 i j (by simpa using hi) (by omega)
      have := key h i (cntP d l) hi h2
      omega
    · have e2 : cntP d l = i := by omega
      simp only [e2]
      exact e
  · rintro ⟨h1, h2⟩
    exact ⟨_, List.getElem_mem h1, h2⟩
end Go.Proofs.YtbheoahpaidpmaaDoor
