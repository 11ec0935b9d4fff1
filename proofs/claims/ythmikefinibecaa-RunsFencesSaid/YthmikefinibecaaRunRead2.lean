/-
  runs: read, in plain words.
-/
import Derived.Test.YthmikefinibecaaRunRead
namespace Go.Proofs.Ythmikefinibecaa
open Go Go.RowKit

/-- two numbers of a reader, and a third one -/
theorem row_num {l : List UInt8} {a t : Int} {f i v e : Nat} {a1 a2 a3 : Int} {o1 o2 : Bool} (h1 : numP l a true 1099511627776 = (f, a1, o1)) (h2 : numP l a1 o1 200 = (i, a2, o2)) (h3 : getAt l a2 = (v, a3, e)) :
    rowR l a t = if o2 = true ∧ e = 0 then some (⟨t + f, (i : Int), unfoldN v⟩, a3) else none := by
  unfold rowR
  by_cases c1 : (getAt l a).2.2 = 0 ∧ (getAt l a).1 < 1099511627776
  · rw [numP_ok c1.1 c1.2] at h1
    obtain ⟨rfl, h1'⟩ := Prod.mk.inj h1
    obtain ⟨rfl, rfl⟩ := Prod.mk.inj h1'
    by_cases c2 : (getAt l (getAt l a).2.1).2.2 = 0 ∧ (getAt l (getAt l a).2.1).1 < 200
    · rw [numP_ok c2.1 c2.2] at h2
      obtain ⟨rfl, h2'⟩ := Prod.mk.inj h2
      obtain ⟨rfl, rfl⟩ := Prod.mk.inj h2'
      rw [h3]
      by_cases c3 : e = 0
      · rw [if_pos ⟨c1.1, c2.1, c3, c1.2, c2.2⟩, if_pos ⟨rfl, c3⟩]
      · rw [if_neg (fun h => c3 h.2.2.1), if_neg (fun h => c3 h.2)]
    · rw [numP_no c2] at h2
      obtain ⟨rfl, h2'⟩ := Prod.mk.inj h2
      obtain ⟨rfl, rfl⟩ := Prod.mk.inj h2'
      rw [if_neg (fun h => c2 ⟨h.2.1, h.2.2.2.2⟩), if_neg (by simp)]
  · rw [numP_no c1] at h1
    obtain ⟨rfl, h1'⟩ := Prod.mk.inj h1
    obtain ⟨rfl, rfl⟩ := Prod.mk.inj h1'
    rw [numP_false] at h2
    obtain ⟨rfl, h2'⟩ := Prod.mk.inj h2
    obtain ⟨rfl, rfl⟩ := Prod.mk.inj h2'
    rw [if_neg (fun h => c1 ⟨h.1, h.2.2.2.1⟩), if_neg (by simp)]

/-- what is read, of the rows -/
def readEnd (f : Fen) (H : Option (List Row × Int)) : Option (List Row) := match H with
  | none => none
  | some r => if r.2 = f.b.length ∧ fineR r.1 = true ∧ (rAt r.1 0).T = f.F ∧ (rAt r.1 (f.n - 1)).T = f.T - 1 then some r.1 else none
theorem read_eq (f : Fen) : readR f = readEnd f (rowsR f.b f.n 0 f.F) := by
  unfold readR readEnd
  cases rowsR f.b f.n 0 f.F <;> rfl
theorem fineR_pre {l m : List Row} (h : fineR (l ++ m) = true) : fineR l = true := by
  induction l with
  | nil => rfl
  | cons a l ih =>
    cases l with
    | nil => rfl
    | cons b l =>
      simp only [List.cons_append, fineR, Bool.and_eq_true] at h ⊢
      exact ⟨h.1, ih h.2⟩
section
variable {l : List UInt8} {k : Nat} {a t : Int} {xs : List Row} {H : Option (List Row × Int)} {x : Row × Int}
theorem rows_stop (h : (rowsR l (k + 1) a t).map (fun r => (xs ++ r.1, r.2)) = H) (hx : rowR l a t = none) : H = none := by
  rw [← h]; simp [rowsR, hx]
theorem rows_next (h : (rowsR l (k + 1) a t).map (fun r => (xs ++ r.1, r.2)) = H) (hx : rowR l a t = some x) : (rowsR l k x.2 x.1.T).map (fun r => ((xs ++ [x.1]) ++ r.1, r.2)) = H := by
  rw [← h]
  simp only [rowsR, hx, Option.map_map]
  congr 1
  funext r
  simp
theorem rows_bad {f : Fen} (h : (rowsR l k a t).map (fun r => (xs ++ r.1, r.2)) = H) (hx : fineR xs = false) : readEnd f H = none := by
  rw [← h]
  cases h1 : rowsR l k a t with
  | none => rfl
  | some r =>
    simp only [Option.map_some, readEnd]
    rw [if_neg]
    intro h2
    have := fineR_pre h2.2.1
    rw [hx] at this
    cases this
theorem rows_done (h : (rowsR l 0 a t).map (fun r => (xs ++ r.1, r.2)) = H) : H = some (xs, a) := by rw [← h]; simp [rowsR]
theorem readEnd_none (f : Fen) : readEnd f none = none := rfl
end
theorem fineR_bad {hp : List Row} {y x : Row} (h : behR x y = false) : fineR ((hp ++ [y]) ++ [x]) = false := by
  cases e : fineR ((hp ++ [y]) ++ [x]) with
  | false => rfl
  | true =>
    have := (fineR_init e).2
    rcases this with h1 | h1
    · simp at h1
    · rw [show rAt (hp ++ [y]) ((hp ++ [y]).length - 1) = y by simp [rAt]] at h1
      rw [h] at h1; cases h1
/-- what holds of the blocks of a text -/
def FenOk (N : Nat) (f : Fen) : Prop := 0 ≤ f.F ∧ f.F < f.T ∧ f.T ≤ 1099511627776 ∧ 1 ≤ f.n ∧ f.n ≤ 16 ∧ f.b.length ≤ N
theorem heads_ok {l : List UInt8} : ∀ (k left : Nat) (a last : Int) (r : List (Int × Int × Nat × Nat) × Int), headsR l k left a last = some r → k * 16 < left + 16 → ∀ h ∈ r.1, 0 ≤ h.1 ∧ h.1 < h.2.1 ∧ h.2.1 ≤ 1099511627776 ∧ 1 ≤ h.2.2.1 ∧ h.2.2.1 ≤ 16 := by
  intro k
  induction k with
  | zero => intro left a last r h _ x hx; simp only [headsR, Option.some.injEq] at h; subst h; cases hx
  | succ k ih =>
    intro left a last r h hk x hx
    simp only [headsR] at h
    split at h
    · cases h
    · rename_i y hy
      split at h
      · cases h
      · simp only [Option.map_eq_some_iff] at h
        obtain ⟨r', hr', rfl⟩ := h
        rcases List.mem_cons.1 hx with rfl | hx
        · unfold headR at hy
          split at hy
          · rename_i hc
            cases hy
            simp only
            omega
          · cases hy
        · exact ih (left - 16) _ _ _ hr' (by omega) x hx
theorem cut_ok : ∀ (hs : List (Int × Int × Nat × Nat)) (t : List UInt8) (N : Nat), t.length ≤ N → (∀ h ∈ hs, 0 ≤ h.1 ∧ h.1 < h.2.1 ∧ h.2.1 ≤ 1099511627776 ∧ 1 ≤ h.2.2.1 ∧ h.2.2.1 ≤ 16) → ∀ f ∈ cutR hs t, FenOk N f := by
  intro hs
  induction hs with
  | nil => intro t N _ _ f hf; cases hf
  | cons h hs ih =>
    intro t N ht ho f hf
    rcases List.mem_cons.1 hf with rfl | hf
    · obtain ⟨p1, p2, p3, p4, p5⟩ := ho h (List.mem_cons_self ..)
      exact ⟨p1, p2, p3, p4, p5, by simp only [List.length_take]; omega⟩
    · exact ih _ N (by simp only [List.length_drop]; omega) (fun x hx => ho x (List.mem_cons_of_mem _ hx)) f hf
theorem fences_ok {l : List UInt8} {fs : List Fen} (h : fencesR l = some fs) : ∀ f ∈ fs, FenOk l.length f := by
  unfold fencesR at h
  split at h
  · cases h
  · split at h
    · cases h
    · rename_i r hr
      split at h
      · simp only [Option.some.injEq] at h
        subst h
        exact cut_ok _ _ _ (by simp) (heads_ok _ _ _ _ _ hr (by omega))
      · cases h
end Go.Proofs.Ythmikefinibecaa
