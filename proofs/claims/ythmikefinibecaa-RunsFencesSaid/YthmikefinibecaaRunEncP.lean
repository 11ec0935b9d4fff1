/-
  Plain Lean: rows in blocks: the bytes of rows.
-/
import Derived.Test.YthmikefinibecaaRunRead2
import Derived.Test.YthmikefinibecaaChunk
namespace Go.Proofs.Ythmikefinibecaa
open Go Go.RowKit

/-- a row's bytes, behind the time t -/
def rowB (t : Int) (x : Row) : List UInt8 := uint (x.T - t).toNat ++ uint x.ID.toNat ++ uint (foldN x.V)
def blockB : Int → List Row → List UInt8
  | _, [] => []
  | t, x :: l => rowB t x ++ blockB x.T l
/-- the last time -/
def lastOf : Int → List Row → Int
  | t, [] => t
  | _, x :: l => lastOf x.T l
theorem lastOf_snoc : ∀ (l : List Row) (t : Int) (x : Row), lastOf t (l ++ [x]) = x.T
  | [], _, _ => rfl
  | _ :: l, _, x => lastOf_snoc l _ x
theorem blockB_snoc : ∀ (l : List Row) (t : Int) (x : Row), blockB t (l ++ [x]) = blockB t l ++ rowB (lastOf t l) x
  | [], t, x => by simp [blockB, lastOf]
  | y :: l, t, x => by simp only [List.cons_append, blockB, lastOf, blockB_snoc l, List.append_assoc]
theorem lastOf_last : ∀ (l : List Row) (t : Int), l ≠ [] → lastOf t l = (rAt l (l.length - 1)).T
  | [], _, h => absurd rfl h
  | [x], _, _ => rfl
  | x :: y :: l, t, _ => by
    have := lastOf_last (y :: l) x.T (by simp)
    simpa [lastOf, rAt] using this
def firstT (rs : List Row) : Int := (rAt rs 0).T
def bodyR (rs : List Row) : List UInt8 := blockB (firstT rs) rs
def headB (rs : List Row) : List UInt8 := uint (firstT rs).toNat ++ uint (lastOf (firstT rs) rs - firstT rs).toNat ++ uint (bodyR rs).length
def chOf (rows : List Row) (i : Nat) : List Row := (rows.drop (i * 16)).take 16
def headsB (rows : List Row) (pre : List Nat) : List UInt8 := pre.flatMap fun i => headB (chOf rows i)
def bodiesB (rows : List Row) (pre : List Nat) : List UInt8 := pre.flatMap fun i => bodyR (chOf rows i)
def encR (rows : List Row) : List UInt8 := uint rows.length ++ headsB rows (List.range (chN rows.length)) ++ bodiesB rows (List.range (chN rows.length))
/-- a row may be one -/
def rngB (x : Row) : Bool := decide (0 ≤ x.T) && decide (x.T < 1099511627776) && decide (0 ≤ x.ID) && decide (x.ID < 200)
theorem rngB_iff {x : Row} : rngB x = true ↔ 0 ≤ x.T ∧ x.T < 1099511627776 ∧ 0 ≤ x.ID ∧ x.ID < 200 := by unfold rngB; simp [and_assoc]
def goodR (rows : List Row) : Bool := fineR rows && rows.all rngB
def encRV (rows : List Row) : List UInt8 × Nat := if goodR rows = true ∧ rows.length ≤ 5000 then (encR rows, 0) else ([], 30)
/-- row j may stand where it does -/
def GoodAt (l : List Row) (j : Nat) : Prop := rngB (rAt l j) = true ∧ (j = 0 ∨ behR (rAt l j) (rAt l (j - 1)) = true)
theorem fine_drop : ∀ (l m : List Row), fineR (l ++ m) = true → fineR m = true
  | [], _, h => h
  | [a], m, h => by
    cases m with
    | nil => rfl
    | cons b m =>
      simp only [List.cons_append, List.nil_append, fineR, Bool.and_eq_true] at h
      exact h.2
  | a :: b :: l, m, h => by
    simp only [List.cons_append, fineR, Bool.and_eq_true] at h
    exact fine_drop (b :: l) m h.2
theorem fine_at {l : List Row} (h : fineR l = true) {j : Nat} (hj : j + 1 < l.length) : behR (rAt l (j + 1)) (rAt l j) = true := by
  rw [← List.take_append_drop (j + 2) l] at h
  have h1 := fineR_pre h
  rw [show l.take (j + 2) = l.take (j + 1) ++ [l[j + 1]] by rw [List.take_append_getElem]] at h1
  rcases (fineR_init h1).2 with h2 | h2
  · simp only [List.length_take] at h2; omega
  · have e : rAt (l.take (j + 1)) ((l.take (j + 1)).length - 1) = rAt l j := by
      rw [rAt_get (by simp only [List.length_take]; omega), rAt_get (by omega), List.getElem_take]
      congr 1
      simp only [List.length_take]; omega
    rw [e] at h2
    rw [rAt_get hj]; exact h2
theorem good_of {l : List Row} (h : ∀ j, j < l.length → GoodAt l j) : goodR l = true := by
  unfold goodR
  rw [Bool.and_eq_true]
  constructor
  · have key : ∀ j, j ≤ l.length → fineR (l.take j) = true := by
      intro j
      induction j with
      | zero => intro _; rfl
      | succ j ih =>
        intro hj
        rw [show l.take (j + 1) = l.take j ++ [l[j]] by rw [List.take_append_getElem]]
        refine fineR_snoc (ih (by omega)) ?_
        rcases (h j (by omega)).2 with h1 | h1
        · left; subst h1; rfl
        · rcases Nat.eq_zero_or_pos j with h2 | h2
          · left; subst h2; rfl
          · right
            have e : rAt (l.take j) ((l.take j).length - 1) = rAt l (j - 1) := by
              rw [rAt_get (by simp only [List.length_take]; omega), rAt_get (by omega), List.getElem_take]
              congr 1
              simp only [List.length_take]; omega
            rw [e]
            rw [rAt_get (show j < l.length by omega)] at h1
            exact h1
    have := key l.length (Nat.le_refl _)
    rwa [List.take_length] at this
  · rw [List.all_eq_true]
    intro x hx
    obtain ⟨j, hj, rfl⟩ := List.getElem_of_mem hx
    have := (h j hj).1
    rwa [rAt_get hj] at this
theorem good_at {l : List Row} (h : goodR l = true) {j : Nat} (hj : j < l.length) : GoodAt l j := by
  unfold goodR at h
  rw [Bool.and_eq_true] at h
  refine ⟨?_, ?_⟩
  · rw [rAt_get hj]
    exact List.all_eq_true.1 h.2 _ (List.getElem_mem hj)
  · cases j with
    | zero => exact .inl rfl
    | succ j => exact .inr (fine_at h.1 hj)
theorem not_good {l : List Row} (h : ¬ goodR l = true) : ∃ m, m < l.length ∧ (∀ i, i < m → GoodAt l i) ∧ ¬ GoodAt l m := by
  have key : ∀ n, (∀ i, i < n → GoodAt l i) ∨ ∃ m, m < n ∧ (∀ i, i < m → GoodAt l i) ∧ ¬ GoodAt l m := by
    intro n
    induction n with
    | zero => exact .inl fun i hi => absurd hi (by omega)
    | succ n ih =>
      rcases ih with h1 | ⟨m, h1, h2⟩
      · by_cases hg : GoodAt l n
        · refine .inl fun i hi => ?_
          rcases Nat.lt_or_ge i n with h2 | h2
          · exact h1 i h2
          · obtain rfl : i = n := by omega
            exact hg
        · exact .inr ⟨n, by omega, h1, hg⟩
      · exact .inr ⟨m, by omega, h2⟩
  rcases key l.length with h1 | h1
  · exact absurd (good_of h1) h
  · exact h1
theorem beh_le {a b : Row} (h : behR b a = true) : a.T ≤ b.T := by
  unfold behR at h
  simp at h
  omega
/-- what stands in a block -/
theorem ch_len (rows : List Row) (i : Nat) : (chOf rows i).length = chLen rows.length i := by unfold chOf chLen; simp; omega
theorem ch_get {rows : List Row} {i r : Nat} (h : r < (chOf rows i).length) : ∃ h' : i * 16 + r < rows.length, (chOf rows i)[r] = rows[i * 16 + r] := by
  have hl : (chOf rows i).length = min 16 (rows.length - i * 16) := by simp [chOf]
  refine ⟨by omega, ?_⟩
  simp [chOf]
theorem ch_first {rows : List Row} {i : Nat} (h : 0 < (chOf rows i).length) : ∃ h' : i * 16 < rows.length, firstT (chOf rows i) = rows[i * 16].T := by
  obtain ⟨h', e⟩ := ch_get h
  exact ⟨h', by unfold firstT; rw [rAt_get h, e]; rfl⟩
/-- the time ahead of row r of a block, and the row -/
theorem ch_row {rows : List Row} (hg : goodR rows = true) {i r : Nat} (h : r < (chOf rows i).length) :
    ∃ h' : i * 16 + r < rows.length, (chOf rows i)[r] = rows[i * 16 + r] ∧ 0 ≤ lastOf (firstT (chOf rows i)) ((chOf rows i).take r) ∧ lastOf (firstT (chOf rows i)) ((chOf rows i).take r) ≤ rows[i * 16 + r].T ∧ rows[i * 16 + r].T < 1099511627776 ∧ 0 ≤ rows[i * 16 + r].ID ∧ rows[i * 16 + r].ID < 200 ∧
      firstT (chOf rows i) ≤ lastOf (firstT (chOf rows i)) ((chOf rows i).take r) := by
  obtain ⟨h', e⟩ := ch_get h
  obtain ⟨h0, e0⟩ := ch_first (show 0 < (chOf rows i).length by omega)
  have g := rngB_iff.1 ((rAt_get h' ▸ (good_at hg h').1))
  have g0 := rngB_iff.1 ((rAt_get h0 ▸ (good_at hg h0).1))
  have mono : ∀ s, s ≤ r → firstT (chOf rows i) ≤ lastOf (firstT (chOf rows i)) ((chOf rows i).take s) ∧ lastOf (firstT (chOf rows i)) ((chOf rows i).take s) ≤ (rAt rows (i * 16 + s)).T := by
    intro s
    induction s with
    | zero => intro _; refine ⟨Int.le_refl _, ?_⟩; simp only [List.take_zero, lastOf, Nat.add_zero]; rw [e0, rAt_get h0]; exact Int.le_refl _
    | succ s ih =>
      intro hs
      obtain ⟨i1, i2⟩ := ih (by omega)
      obtain ⟨hs', es⟩ := ch_get (show s < (chOf rows i).length by omega)
      rw [show (chOf rows i).take (s + 1) = (chOf rows i).take s ++ [(chOf rows i)[s]] by rw [List.take_append_getElem], lastOf_snoc, es]
      rw [rAt_get hs'] at i2
      refine ⟨by omega, ?_⟩
      rcases (good_at hg (show i * 16 + (s + 1) < rows.length by omega)).2 with h1 | h1
      · omega
      · have := beh_le h1
        rw [show i * 16 + (s + 1) - 1 = i * 16 + s by omega, rAt_get hs'] at this
        exact this
  obtain ⟨m1, m2⟩ := mono r (Nat.le_refl _)
  rw [rAt_get h'] at m2
  have m0 : 0 ≤ firstT (chOf rows i) := by rw [e0]; exact g0.1
  exact ⟨h', e, by omega, m2, g.2.1, g.2.2.1, g.2.2.2, m1⟩
theorem take_block {rs : List Row} {r : Nat} {t : Int} (h : r < rs.length) : blockB t (rs.take (r + 1)) = blockB t (rs.take r) ++ rowB (lastOf t (rs.take r)) rs[r] ∧ lastOf t (rs.take (r + 1)) = rs[r].T := by
  rw [show rs.take (r + 1) = rs.take r ++ [rs[r]] by rw [List.take_append_getElem]]
  exact ⟨blockB_snoc _ _ _, lastOf_snoc _ _ _⟩

theorem rowB_len {t : Int} {x : Row} (h0 : 0 ≤ t) (h1 : x.T < 1099511627776) (h3 : x.ID < 200) (hv : I64 x.V) : (rowB t x).length ≤ 30 := by
  unfold rowB
  have a := uint_len_ten (n := (x.T - t).toNat) (by omega)
  have b := uint_len_ten (n := x.ID.toNat) (by omega)
  have c := uint_len_ten (n := foldN x.V) (foldN_lt hv.1 hv.2)
  simp only [List.length_append]
  omega
theorem block_len {rows : List Row} (hg : goodR rows = true) (hok : ∀ x ∈ rows, Row.ok x) (i : Nat) : ∀ r, r ≤ (chOf rows i).length → (blockB (firstT (chOf rows i)) ((chOf rows i).take r)).length ≤ 30 * r := by
  intro r
  induction r with
  | zero => intro _; simp [blockB]
  | succ r ih =>
    intro hr
    obtain ⟨h', e, h1, h2, h3, h4, h5, h6⟩ := ch_row hg (show r < (chOf rows i).length by omega)
    rw [(take_block (show r < (chOf rows i).length by omega)).1, List.length_append, e]
    have := ih (by omega)
    have := rowB_len (x := rows[i * 16 + r]) h1 h3 h5 (hok _ (List.getElem_mem h')).2.2
    omega
theorem body_len {rows : List Row} (hg : goodR rows = true) (hok : ∀ x ∈ rows, Row.ok x) (i : Nat) : (bodyR (chOf rows i)).length ≤ 480 := by
  have h1 := block_len hg hok i _ (Nat.le_refl _)
  rw [List.take_length] at h1
  have h2 : (chOf rows i).length ≤ 16 := by rw [ch_len]; unfold chLen; omega
  unfold bodyR
  omega
theorem last_rng {rows : List Row} (hg : goodR rows = true) {i : Nat} (hi : i < chN rows.length) : 0 ≤ firstT (chOf rows i) ∧ firstT (chOf rows i) ≤ lastOf (firstT (chOf rows i)) (chOf rows i) ∧ lastOf (firstT (chOf rows i)) (chOf rows i) < 1099511627776 := by
  have hlen : 0 < (chOf rows i).length := by rw [ch_len]; unfold chLen; unfold chN at hi; omega
  obtain ⟨h', e, h1, h2, h3, h4, h5, h6⟩ := ch_row hg (show (chOf rows i).length - 1 < (chOf rows i).length by omega)
  obtain ⟨h0, e0, f1, f2, f3, f4, f5, f6⟩ := ch_row hg (show 0 < (chOf rows i).length from hlen)
  have hl := take_block (rs := chOf rows i) (t := firstT (chOf rows i)) (show (chOf rows i).length - 1 < (chOf rows i).length by omega)
  rw [show (chOf rows i).length - 1 + 1 = (chOf rows i).length by omega, List.take_length] at hl
  rw [hl.2, e]
  simp only [List.take_zero, lastOf] at f1 f2
  exact ⟨f1, by omega, h3⟩
theorem head_len {rows : List Row} (hg : goodR rows = true) (hok : ∀ x ∈ rows, Row.ok x) {i : Nat} (hi : i < chN rows.length) : (headB (chOf rows i)).length ≤ 30 := by
  obtain ⟨h1, h2, h3⟩ := last_rng hg hi
  have hb := body_len hg hok i
  unfold headB
  have a := uint_len_ten (n := (firstT (chOf rows i)).toNat) (by omega)
  have b := uint_len_ten (n := (lastOf (firstT (chOf rows i)) (chOf rows i) - firstT (chOf rows i)).toNat) (by omega)
  have c := uint_len_ten (n := (bodyR (chOf rows i)).length) (by omega)
  simp only [List.length_append]
  omega
theorem heads_len {rows : List Row} (hg : goodR rows = true) (hok : ∀ x ∈ rows, Row.ok x) : ∀ pre : List Nat, (∀ i ∈ pre, i < chN rows.length) → (headsB rows pre).length ≤ 30 * pre.length ∧ (bodiesB rows pre).length ≤ 480 * pre.length
  | [], _ => by simp [headsB, bodiesB]
  | i :: pre, h => by
    have h1 := heads_len hg hok pre fun j hj => h j (List.mem_cons_of_mem _ hj)
    have h2 := head_len hg hok (h i (List.mem_cons_self ..))
    have h3 := body_len hg hok i
    simp only [headsB, bodiesB, List.flatMap_cons, List.length_append, List.length_cons] at h1 ⊢
    omega
end Go.Proofs.Ythmikefinibecaa
