/-
  runs.fences: the heads of blocks.
-/
import Derived.Test.YthmikefinibecaaRunNum
namespace Go.Proofs.Ythmikefinibecaa
open Go Go.RowKit

/-- three numbers of a reader -/
theorem head_num {l : List UInt8} {a : Int} {lim : Nat} (hl : lim = l.length + 1) {f m b : Nat} {a1 a2 a3 : Int} {o1 o2 o3 : Bool} (h1 : numP l a true 1099511627776 = (f, a1, o1)) (h2 : numP l a1 o1 1099511627776 = (m, a2, o2)) (h3 : numP l a2 o2 lim = (b, a3, o3)) :
    headR l a = if o3 = true ∧ f + m < 1099511627776 then some (f, m, b, a3) else none := by
  subst hl
  unfold headR
  by_cases c1 : (getAt l a).2.2 = 0 ∧ (getAt l a).1 < 1099511627776
  · rw [numP_ok c1.1 c1.2] at h1
    obtain ⟨rfl, h1'⟩ := Prod.mk.inj h1
    obtain ⟨rfl, rfl⟩ := Prod.mk.inj h1'
    by_cases c2 : (getAt l (getAt l a).2.1).2.2 = 0 ∧ (getAt l (getAt l a).2.1).1 < 1099511627776
    · rw [numP_ok c2.1 c2.2] at h2
      obtain ⟨rfl, h2'⟩ := Prod.mk.inj h2
      obtain ⟨rfl, rfl⟩ := Prod.mk.inj h2'
      by_cases c3 : (getAt l (getAt l (getAt l a).2.1).2.1).2.2 = 0 ∧ (getAt l (getAt l (getAt l a).2.1).2.1).1 < l.length + 1
      · rw [numP_ok c3.1 c3.2] at h3
        obtain ⟨rfl, h3'⟩ := Prod.mk.inj h3
        obtain ⟨rfl, rfl⟩ := Prod.mk.inj h3'
        by_cases c4 : (getAt l a).1 + (getAt l (getAt l a).2.1).1 < 1099511627776
        · rw [if_pos ⟨c1.1, c2.1, c3.1, c1.2, c2.2, c4, by omega⟩, if_pos ⟨rfl, c4⟩]
        · rw [if_neg (fun h => c4 h.2.2.2.2.2.1), if_neg (fun h => c4 h.2)]
      · rw [numP_no c3] at h3
        obtain ⟨rfl, h3'⟩ := Prod.mk.inj h3
        obtain ⟨rfl, rfl⟩ := Prod.mk.inj h3'
        rw [if_neg (fun h => c3 ⟨h.2.2.1, by omega⟩), if_neg (by simp)]
    · rw [numP_no c2] at h2
      obtain ⟨rfl, h2'⟩ := Prod.mk.inj h2
      obtain ⟨rfl, rfl⟩ := Prod.mk.inj h2'
      rw [numP_false] at h3
      obtain ⟨rfl, h3'⟩ := Prod.mk.inj h3
      obtain ⟨rfl, rfl⟩ := Prod.mk.inj h3'
      rw [if_neg (fun h => c2 ⟨h.2.1, h.2.2.2.2.1⟩), if_neg (by simp)]
  · rw [numP_no c1] at h1
    obtain ⟨rfl, h1'⟩ := Prod.mk.inj h1
    obtain ⟨rfl, rfl⟩ := Prod.mk.inj h1'
    rw [numP_false] at h2
    obtain ⟨rfl, h2'⟩ := Prod.mk.inj h2
    obtain ⟨rfl, rfl⟩ := Prod.mk.inj h2'
    rw [numP_false] at h3
    obtain ⟨rfl, h3'⟩ := Prod.mk.inj h3
    obtain ⟨rfl, rfl⟩ := Prod.mk.inj h3'
    rw [if_neg (fun h => c1 ⟨h.1, h.2.2.2.1⟩), if_neg (by simp)]

def fenCells (f : Fen) : List Value := [.int .i64 f.F, .int .i64 f.T, .int .i64 f.n, .string (S f.b)]
theorem fenCells_length (f : Fen) : (fenCells f).length = 4 := rfl
def preCells (h : Int × Int × Nat × Nat) : List Value := [.int .i64 h.1, .int .i64 h.2.1, .int .i64 h.2.2.1, .string ⟨#[]⟩]
theorem preCells_length (h : Int × Int × Nat × Nat) : (preCells h).length = 4 := rfl
def sizCells (h : Int × Int × Nat × Nat) : List Value := [.int .i64 h.2.2.2]
theorem sizCells_length (h : Int × Int × Nat × Nat) : (sizCells h).length = 1 := rfl
theorem fenInf : (Try.prog.info? 46).map (fun i => (i.zero, i.size, i.bytes)) = some (some (.agg #[.int .i64 0, .int .i64 0, .int .i64 0, .string ⟨#[]⟩]), 4, 40) := by kernel_rfl
theorem intInf : (Try.prog.info? 3).map (fun i => (i.zero, i.size, i.bytes)) = some (some (.int .i64 0), 1, 8) := by kernel_rfl

theorem Lie.store {R : Nat → Prop} {n size c g : Nat} {e : TypeId} {w : World} {xs : List Value} (h : Lie R e size (.slice (some ⟨g, 0, none⟩) n c) n xs w) {j : Nat} (u : Value) : Lie R e size (.slice (some ⟨g, 0, none⟩) n c) n (xs.set j u) (w.setCell ⟨g, j, none⟩ u) := by
  refine ⟨⟨by rw [List.length_set]; exact h.1.1, ?_⟩, h.2⟩
  rcases h.1.2 with ⟨h1, _⟩ | ⟨g', cap, cur, hv, hb, hg, hn, hm, hs, ht⟩
  · simp at h1
  · right
    simp only [Value.slice.injEq, Option.some.injEq, Addr.mk.injEq] at hv
    obtain ⟨⟨rfl, _, _⟩, _, rfl⟩ := hv
    refine ⟨g, c, cur.setIfInBounds j u, rfl, hb, ?_, hn, hm, by simp [hs], ?_⟩
    · simp [World.setCell, Array.getElem?_modify, hg]
    · rw [← ht]; simp [List.take_set]
theorem Lie.cell {R : Nat → Prop} {n size c g : Nat} {e : TypeId} {w : World} {xs : List Value} (h : Lie R e size (.slice (some ⟨g, 0, none⟩) n c) n xs w) (j : Nat) : w.frozen? ⟨g, j, none⟩ = false := by
  rcases h.1.2 with ⟨h1, _⟩ | ⟨g', cap, cur, hv, hb, hg, hn, hm, hs, ht⟩
  · simp at h1
  · simp only [Value.slice.injEq, Option.some.injEq, Addr.mk.injEq] at hv
    obtain ⟨⟨rfl, _, _⟩, _, rfl⟩ := hv
    exact Lib.frozen_of_heap hg j
theorem Lie.own {R : Nat → Prop} {n size c : Nat} {e : TypeId} {w : World} {A : Option Addr} {xs : List Value} (h : Lie R e size (.slice A n c) n xs w) (hn : 0 < n) : ∃ g, A = some ⟨g, 0, none⟩ ∧ n ≤ c ∧ c ≤ maxLen := by
  rcases h.1.2 with ⟨h1, h2⟩ | ⟨g', cap, cur, hv, hb, hg, hn, hm, hs, ht⟩
  · omega
  · simp only [Value.slice.injEq] at hv
    obtain ⟨rfl, _, rfl⟩ := hv
    exact ⟨g', rfl, hn, hm⟩

/-- what a text's blocks are, of the first number and the heads -/
def fenEnd (l : List UInt8) (ok : Bool) (H : Option (List (Int × Int × Nat × Nat) × Int)) : Option (List Fen) :=
  if ok = true then match H with
    | none => none
    | some r => if (sumR r.1 : Int) = (l.length : Int) - r.2 then some (cutR r.1 (l.drop r.2.toNat)) else none
  else none
theorem fences_eq {l : List UInt8} {n : Nat} {a : Int} {ok : Bool} (h : numP l 0 true 5001 = (n, a, ok)) : fencesR l = fenEnd l ok (headsR l ((n + 15) / 16) n a 0) := by
  unfold fencesR fenEnd
  by_cases c : (getAt l 0).2.2 = 0 ∧ (getAt l 0).1 < 5001
  · rw [numP_ok c.1 c.2] at h
    obtain ⟨rfl, h'⟩ := Prod.mk.inj h
    obtain ⟨rfl, rfl⟩ := Prod.mk.inj h'
    rw [if_neg (by omega), if_pos rfl]
    cases headsR l (((getAt l 0).1 + 15) / 16) (getAt l 0).1 (getAt l 0).2.1 0 <;> rfl
  · rw [numP_no c] at h
    obtain ⟨rfl, h'⟩ := Prod.mk.inj h
    obtain ⟨rfl, rfl⟩ := Prod.mk.inj h'
    rw [if_pos (by omega), if_neg (by decide)]
theorem fenEnd_none (l : List UInt8) (ok : Bool) : fenEnd l ok none = none := by unfold fenEnd; split <;> rfl

section
variable {l : List UInt8} {k z : Nat} {a last : Int} {hs : List (Int × Int × Nat × Nat)} {H : Option (List (Int × Int × Nat × Nat) × Int)} {f m b : Nat} {a3 : Int}
theorem heads_stop (h : (headsR l (k + 1) z a last).map (fun r => (hs ++ r.1, r.2)) = H) (hx : headR l a = none) : H = none := by
  rw [← h]; simp [headsR, hx]
theorem heads_low (h : (headsR l (k + 1) z a last).map (fun r => (hs ++ r.1, r.2)) = H) (hx : headR l a = some (f, m, b, a3)) (hl : (f : Int) < last) : H = none := by
  rw [← h]; simp [headsR, hx, hl]
theorem heads_next (h : (headsR l (k + 1) z a last).map (fun r => (hs ++ r.1, r.2)) = H) (hx : headR l a = some (f, m, b, a3)) (hl : ¬ (f : Int) < last) :
    (headsR l k (z - 16) a3 ((f : Int) + m)).map (fun r => ((hs ++ [((f : Int), (f : Int) + m + 1, min z 16, b)]) ++ r.1, r.2)) = H := by
  rw [← h]
  simp only [headsR, hx, if_neg hl, Option.map_map]
  congr 1
  funext r
  simp
theorem heads_done (h : (headsR l 0 z a last).map (fun r => (hs ++ r.1, r.2)) = H) : H = some (hs, a) := by rw [← h]; simp [headsR]
end
theorem sum_snoc (hs : List (Int × Int × Nat × Nat)) (x : Int × Int × Nat × Nat) : sumR (hs ++ [x]) = sumR hs + x.2.2.2 := by simp [sumR]
theorem numP_in {l : List UInt8} {a a' : Int} {n b N : Nat} {ok ok' : Bool} (hN : l.length = N) (h : numP l a ok b = (n, a', ok')) (h0 : 0 ≤ a) (h1 : a ≤ N) : 0 ≤ a' ∧ a' ≤ N := by
  have := getAt_next l a
  unfold numP at h
  split at h <;> (obtain ⟨_, h'⟩ := Prod.mk.inj h; obtain ⟨rfl, _⟩ := Prod.mk.inj h') <;> omega
theorem numP_zero {l : List UInt8} {a a' : Int} {n b : Nat} {ok ok' : Bool} (h : numP l a ok b = (n, a', ok')) (h0 : ok' = false) : n = 0 := by
  unfold numP at h
  split at h <;> (obtain ⟨rfl, h'⟩ := Prod.mk.inj h; obtain ⟨_, rfl⟩ := Prod.mk.inj h')
  · cases h0
  · rfl
/-- the cells of blocks of which the first i have their bytes -/
def cutC : Nat → List (Int × Int × Nat × Nat) → List UInt8 → List Value
  | 0, hs, _ => hs.flatMap preCells
  | _ + 1, [], _ => []
  | i + 1, h :: hs, t => fenCells ⟨h.1, h.2.1, h.2.2.1, t.take h.2.2.2⟩ ++ cutC i hs (t.drop h.2.2.2)
theorem cutC_all : ∀ (hs : List (Int × Int × Nat × Nat)) (t : List UInt8), cutC hs.length hs t = (cutR hs t).flatMap fenCells := by
  intro hs
  induction hs with
  | nil => intro t; rfl
  | cons h hs ih => intro t; simp [cutC, cutR, ih]
theorem cutR_length : ∀ (hs : List (Int × Int × Nat × Nat)) (t : List UInt8), (cutR hs t).length = hs.length := by
  intro hs
  induction hs with
  | nil => intro t; rfl
  | cons h hs ih => intro t; simp [cutR, ih]
theorem cutC_get : ∀ (i : Nat) (hs : List (Int × Int × Nat × Nat)) (t : List UInt8), i < hs.length → (cutC i hs t)[i * 4 + 3]? = some (.string ⟨#[]⟩) := by
  intro i
  induction i with
  | zero =>
    intro hs t h
    cases hs with
    | nil => simp at h
    | cons x hs => simp [cutC, preCells]
  | succ i ih =>
    intro hs t h
    cases hs with
    | nil => simp at h
    | cons x hs =>
      rw [show (i + 1) * 4 + 3 = (i * 4 + 3) + 1 + 1 + 1 + 1 by omega]
      simp only [cutC, fenCells, List.cons_append, List.nil_append, List.getElem?_cons_succ]
      exact ih hs _ (by simpa using h)
theorem cutC_step : ∀ (i : Nat) (hs : List (Int × Int × Nat × Nat)) (t : List UInt8) (h : i < hs.length), (cutC i hs t).set (i * 4 + 3) (.string (S ((t.drop (sumR (hs.take i))).take hs[i].2.2.2))) = cutC (i + 1) hs t := by
  intro i
  induction i with
  | zero =>
    intro hs t h
    cases hs with
    | nil => simp at h
    | cons x hs => simp [cutC, preCells, fenCells, sumR]
  | succ i ih =>
    intro hs t h
    cases hs with
    | nil => simp at h
    | cons x hs =>
      rw [show (i + 1) * 4 + 3 = (i * 4 + 3) + 1 + 1 + 1 + 1 by omega]
      have hi : i < hs.length := by simpa using h
      have := ih hs (t.drop x.2.2.2) hi
      rw [List.drop_drop] at this
      have e1 : sumR ((x :: hs).take (i + 1)) = x.2.2.2 + sumR (hs.take i) := by simp [sumR]
      rw [e1]
      rw [show cutC (i + 1 + 1) (x :: hs) t = fenCells ⟨x.1, x.2.1, x.2.2.1, t.take x.2.2.2⟩ ++ cutC (i + 1) hs (t.drop x.2.2.2) from rfl, ← this]
      simp only [cutC, fenCells, List.cons_append, List.nil_append, List.set_cons_succ, List.getElem_cons_succ]
theorem sum_take {hs : List (Int × Int × Nat × Nat)} {i : Nat} (h : i < hs.length) : sumR (hs.take (i + 1)) = sumR (hs.take i) + hs[i].2.2.2 ∧ sumR (hs.take (i + 1)) ≤ sumR hs := by
  have e1 : hs.take (i + 1) = hs.take i ++ [hs[i]] := by rw [List.take_append_getElem]
  refine ⟨by rw [e1, sum_snoc], ?_⟩
  have : hs = hs.take (i + 1) ++ hs.drop (i + 1) := (List.take_append_drop _ _).symm
  have e2 : sumR hs = sumR (hs.take (i + 1)) + sumR (hs.drop (i + 1)) := by
    conv => lhs; rw [this]
    simp only [sumR, List.map_append, List.sum_append]
  omega
end Go.Proofs.Ythmikefinibecaa
