/-
  Plain Lean: the bytes of rows are their blocks, and these are the rows.
-/
import Derived.Test.YthmikefinibecaaRunEncP
import Derived.Test.YthmikefinibecaaRunBet
namespace Go.Proofs.Ythmikefinibecaa
open Go Go.RowKit

theorem getAt_uint {l r : List UInt8} {n k : Nat} (hn : n < 18446744073709551616) (hk : k ≤ l.length) (h : l.drop k = uint n ++ r) : getAt l k = (n, ((k + (uint n).length : Nat) : Int), 0) := by
  have := getAt_of (l := l) (k := k) (a := n) (b := (uint n).length) (by rw [h]; exact get0_uint hn r) hk
  simpa using this
theorem drop_past {l x r : List UInt8} {k : Nat} (h : l.drop k = x ++ r) (hk : k ≤ l.length) : l.drop (k + x.length) = r ∧ k + x.length ≤ l.length := by
  refine ⟨by rw [← List.drop_drop, h, List.drop_left], ?_⟩
  have := congrArg List.length h
  simp only [List.length_drop, List.length_append] at this
  omega

/-- the head of a block, of its rows -/
def hdOf (rows : List Row) (j : Nat) : Int × Int × Nat × Nat := (firstT (chOf rows j), lastOf (firstT (chOf rows j)) (chOf rows j) + 1, chLen rows.length j, (bodyR (chOf rows j)).length)
def fenOf (rows : List Row) (j : Nat) : Fen := ⟨firstT (chOf rows j), lastOf (firstT (chOf rows j)) (chOf rows j) + 1, chLen rows.length j, bodyR (chOf rows j)⟩

theorem last_first {rows : List Row} (hg : goodR rows = true) {i : Nat} (hi : i + 1 < chN rows.length) : lastOf (firstT (chOf rows i)) (chOf rows i) ≤ firstT (chOf rows (i + 1)) := by
  have hn : (i + 1) * 16 < rows.length := by unfold chN at hi; omega
  have hl : (chOf rows i).length = 16 := by rw [ch_len]; unfold chLen; omega
  obtain ⟨h', e⟩ := ch_get (show 15 < (chOf rows i).length by omega)
  obtain ⟨h0, e0⟩ := ch_first (rows := rows) (i := i + 1) (by rw [ch_len]; unfold chLen; omega)
  rw [lastOf_last _ _ (by intro h; rw [h] at hl; simp at hl), show (chOf rows i).length - 1 = 15 by omega, rAt_get (show 15 < (chOf rows i).length by omega), e, e0]
  rcases (good_at hg hn).2 with h1 | h1
  · omega
  · have := beh_le h1
    rw [rAt_get hn, show (i + 1) * 16 - 1 = i * 16 + 15 by omega, rAt_get h'] at this
    exact this
theorem head_back {rows : List Row} (hg : goodR rows = true) (hok : ∀ x ∈ rows, Row.ok x) {i a : Nat} (hi : i < chN rows.length) {l r : List UInt8} (ha : a ≤ l.length) (h : l.drop a = headB (chOf rows i) ++ r) (hb : (bodyR (chOf rows i)).length ≤ l.length) :
    headR l a = some ((firstT (chOf rows i)).toNat, (lastOf (firstT (chOf rows i)) (chOf rows i) - firstT (chOf rows i)).toNat, (bodyR (chOf rows i)).length, ((a + (headB (chOf rows i)).length : Nat) : Int)) := by
  obtain ⟨h1, h2, h3⟩ := last_rng hg hi
  have hbl := body_len hg hok i
  have hlen : (headB (chOf rows i)).length = (uint (firstT (chOf rows i)).toNat).length + (uint (lastOf (firstT (chOf rows i)) (chOf rows i) - firstT (chOf rows i)).toNat).length + (uint (bodyR (chOf rows i)).length).length := by
    unfold headB; simp only [List.length_append]
  unfold headB at h
  rw [List.append_assoc, List.append_assoc] at h
  rw [hlen]
  generalize bodyR (chOf rows i) = N at *
  generalize lastOf (firstT (chOf rows i)) (chOf rows i) = t9 at *
  generalize firstT (chOf rows i) = t0 at *
  have g1 := getAt_uint (by omega) ha h
  obtain ⟨d1, k1⟩ := drop_past h ha
  have g2 := getAt_uint (by omega) k1 d1
  obtain ⟨d2, k2⟩ := drop_past d1 k1
  have g3 := getAt_uint (by omega) k2 d2
  unfold headR
  simp only [g1, g2, g3]
  rw [if_pos ⟨trivial, trivial, trivial, by omega, by omega, by omega, hb⟩]
  simp only [Option.some.injEq, Prod.mk.injEq, true_and]
  omega
theorem heads_back {rows : List Row} (hg : goodR rows = true) (hok : ∀ x ∈ rows, Row.ok x) {l : List UInt8} (hb : ∀ j, (bodyR (chOf rows j)).length ≤ l.length) :
    ∀ (k i a : Nat) (last : Int) (r : List UInt8), i + k = chN rows.length → a ≤ l.length → l.drop a = headsB rows (List.range' i k) ++ r → (0 < k → last ≤ firstT (chOf rows i)) →
      headsR l k (rows.length - 16 * i) a last = some ((List.range' i k).map (hdOf rows), ((a + (headsB rows (List.range' i k)).length : Nat) : Int)) := by
  intro k
  induction k with
  | zero => intro i a last r _ _ _ _; simp [headsR, headsB]
  | succ k ih =>
    intro i a last r hik ha h hl
    have hi : i < chN rows.length := by omega
    have hs : headsB rows (List.range' i (k + 1)) = headB (chOf rows i) ++ headsB rows (List.range' (i + 1) k) := by rw [List.range'_succ]; simp [headsB]
    rw [hs, List.append_assoc] at h
    have hh := head_back hg hok hi ha h (hb i)
    obtain ⟨d1, k1⟩ := drop_past h ha
    obtain ⟨h1, h2, h3⟩ := last_rng hg hi
    simp only [headsR, hh]
    rw [if_neg (by have := hl (by omega); omega)]
    have e1 : (((firstT (chOf rows i)).toNat : Nat) : Int) = firstT (chOf rows i) := by omega
    have e2 : (((lastOf (firstT (chOf rows i)) (chOf rows i) - firstT (chOf rows i)).toNat : Nat) : Int) = lastOf (firstT (chOf rows i)) (chOf rows i) - firstT (chOf rows i) := by omega
    rw [e1, e2]
    have hn := ih (i + 1) _ (lastOf (firstT (chOf rows i)) (chOf rows i)) r (by omega) k1 d1 (fun hk => last_first hg (by omega))
    rw [show rows.length - 16 * i - 16 = rows.length - 16 * (i + 1) by omega, show firstT (chOf rows i) + (lastOf (firstT (chOf rows i)) (chOf rows i) - firstT (chOf rows i)) = lastOf (firstT (chOf rows i)) (chOf rows i) by omega, hn]
    simp only [Option.map_some, Option.some.injEq, Prod.mk.injEq]
    refine ⟨?_, by rw [hs, List.length_append]; omega⟩
    rw [List.range'_succ, List.map_cons]
    congr 1
    unfold hdOf chLen
    simp only [Prod.mk.injEq, true_and, and_true]
    omega
theorem cut_back {rows : List Row} : ∀ (pre : List Nat), cutR (pre.map (hdOf rows)) (bodiesB rows pre) = pre.map (fenOf rows) ∧ sumR (pre.map (hdOf rows)) = (bodiesB rows pre).length
  | [] => ⟨rfl, rfl⟩
  | j :: pre => by
    obtain ⟨h1, h2⟩ := cut_back (rows := rows) pre
    have hs : bodiesB rows (j :: pre) = bodyR (chOf rows j) ++ bodiesB rows pre := by simp [bodiesB]
    rw [hs]
    refine ⟨?_, ?_⟩
    · simp only [List.map_cons, cutR]
      rw [show (hdOf rows j).2.2.2 = (bodyR (chOf rows j)).length from rfl, List.drop_left, List.take_left, h1]
      rfl
    · simp only [List.map_cons, sumR, List.map_map, List.sum_cons, List.length_append] at h2 ⊢
      rw [show (hdOf rows j).2.2.2 = (bodyR (chOf rows j)).length from rfl]
      omega
theorem body_le {rows : List Row} (j : Nat) : (bodyR (chOf rows j)).length ≤ (encR rows).length := by
  by_cases hj : j < chN rows.length
  · have : (bodyR (chOf rows j)).length ≤ (bodiesB rows (List.range (chN rows.length))).length := by
      have hm : j ∈ List.range (chN rows.length) := List.mem_range.2 hj
      unfold bodiesB
      obtain ⟨s, t, e⟩ := List.append_of_mem hm
      rw [e]
      simp only [List.flatMap_append, List.flatMap_cons, List.length_append]
      omega
    unfold encR
    simp only [List.length_append]
    omega
  · have : chOf rows j = [] := List.eq_nil_of_length_eq_zero (by rw [ch_len]; unfold chLen; unfold chN at hj; omega)
    rw [this]
    simp [bodyR, blockB]
theorem fences_back {rows : List Row} (hg : goodR rows = true) (hok : ∀ x ∈ rows, Row.ok x) (hl : rows.length ≤ 5000) : fencesR (encR rows) = some ((List.range (chN rows.length)).map (fenOf rows)) := by
  have hE : (encR rows).drop 0 = uint rows.length ++ (headsB rows (List.range (chN rows.length)) ++ bodiesB rows (List.range (chN rows.length))) := by rw [List.drop_zero]; unfold encR; rw [List.append_assoc]
  have g1 := getAt_uint (by omega) (Nat.zero_le _) hE
  obtain ⟨d1, k1⟩ := drop_past hE (Nat.zero_le _)
  have hr : List.range (chN rows.length) = List.range' 0 (chN rows.length) := List.range_eq_range'
  rw [hr] at d1
  have hh := heads_back hg hok (l := encR rows) (fun j => body_le j) (chN rows.length) 0 (0 + (uint rows.length).length) 0 _ (by omega) k1 d1 (fun hk => (last_rng hg hk).1)
  obtain ⟨d2, k2⟩ := drop_past d1 k1
  unfold fencesR
  rw [show ((0 : Int)) = ((0 : Nat) : Int) from rfl, g1]
  rw [if_neg (by simp only; omega)]
  simp only
  rw [show (rows.length + 15) / 16 = chN rows.length from rfl]
  rw [show rows.length - 16 * 0 = rows.length by omega] at hh
  rw [show ((0 : Nat) : Int) = 0 from rfl, hh]
  simp only
  obtain ⟨c1, c2⟩ := cut_back (rows := rows) (List.range' 0 (chN rows.length))
  rw [c2, Int.toNat_natCast, d2, c1, hr]
  rw [if_pos]
  have := congrArg List.length d2
  simp only [List.length_drop] at this
  omega

theorem block_split : ∀ (r : Nat) (t : Int) (rs : List Row), blockB t rs = blockB t (rs.take r) ++ blockB (lastOf t (rs.take r)) (rs.drop r)
  | 0, t, rs => by simp [blockB, lastOf]
  | r + 1, t, [] => by simp [blockB]
  | r + 1, t, x :: rs => by simp only [List.take_succ_cons, List.drop_succ_cons, blockB, lastOf, List.append_assoc]; rw [← block_split r]
theorem rows_back {rows : List Row} (hg : goodR rows = true) (hok : ∀ x ∈ rows, Row.ok x) (i : Nat) : ∀ (k r : Nat), r + k = (chOf rows i).length →
    rowsR (bodyR (chOf rows i)) k (((blockB (firstT (chOf rows i)) ((chOf rows i).take r)).length : Nat) : Int) (lastOf (firstT (chOf rows i)) ((chOf rows i).take r)) = some ((chOf rows i).drop r, (((bodyR (chOf rows i)).length : Nat) : Int)) := by
  intro k
  induction k with
  | zero =>
    intro r hr
    simp only [rowsR]
    rw [List.take_of_length_le (by omega), List.drop_eq_nil_of_le (by omega)]
    rfl
  | succ k ih =>
    intro r hr
    have hlt : r < (chOf rows i).length := by omega
    obtain ⟨h', e, g1, g2, g3, g4, g5, -⟩ := ch_row hg hlt
    have hv := (hok _ (List.getElem_mem h')).2.2
    obtain ⟨hT1, hT2⟩ := take_block (t := firstT (chOf rows i)) hlt
    have hn := ih (r + 1) (by omega)
    have hsp := block_split r (firstT (chOf rows i)) (chOf rows i)
    have hdr : (chOf rows i).drop r = rows[i * 16 + r] :: (chOf rows i).drop (r + 1) := by rw [List.drop_eq_getElem_cons hlt, e]
    rw [e] at hT1 hT2
    rw [hT1, hT2] at hn
    have hd : (bodyR (chOf rows i)).drop (blockB (firstT (chOf rows i)) ((chOf rows i).take r)).length = rowB (lastOf (firstT (chOf rows i)) ((chOf rows i).take r)) rows[i * 16 + r] ++ blockB rows[i * 16 + r].T ((chOf rows i).drop (r + 1)) := by
      unfold bodyR
      rw [hsp, List.drop_left, hdr]
      rfl
    have hle : (blockB (firstT (chOf rows i)) ((chOf rows i).take r)).length ≤ (bodyR (chOf rows i)).length := by
      unfold bodyR
      rw [hsp, List.length_append]
      omega
    rw [hdr]
    generalize rows[i * 16 + r] = x at *
    generalize lastOf (firstT (chOf rows i)) ((chOf rows i).take r) = tp at *
    generalize blockB (firstT (chOf rows i)) ((chOf rows i).take r) = blk at *
    have hlen : (rowB tp x).length = (uint (x.T - tp).toNat).length + (uint x.ID.toNat).length + (uint (foldN x.V)).length := by unfold rowB; simp only [List.length_append]
    unfold rowB at hd
    rw [List.append_assoc, List.append_assoc] at hd
    have a1 := getAt_uint (by omega) hle hd
    obtain ⟨d1, k1⟩ := drop_past hd hle
    have a2 := getAt_uint (by omega) k1 d1
    obtain ⟨d2, k2⟩ := drop_past d1 k1
    have a3 := getAt_uint (foldN_lt hv.1 hv.2) k2 d2
    have hrow : rowR (bodyR (chOf rows i)) ((blk.length : Nat) : Int) tp = some (x, ((blk.length + (rowB tp x).length : Nat) : Int)) := by
      unfold rowR
      simp only [a1, a2, a3]
      rw [if_pos ⟨trivial, trivial, trivial, by omega, by omega⟩]
      simp only [Option.some.injEq, Prod.mk.injEq]
      refine ⟨?_, by rw [hlen]; omega⟩
      obtain ⟨T, I, V⟩ := x
      simp only at g2 g3 g4 g5 ⊢
      rw [unfold_fold]
      congr 1 <;> omega
    simp only [rowsR, hrow]
    rw [List.length_append] at hn
    rw [hn]
    rfl
theorem ch_fine {rows : List Row} (hg : goodR rows = true) (i : Nat) : fineR (chOf rows i) = true := by
  unfold goodR at hg
  rw [Bool.and_eq_true] at hg
  have h1 : fineR (rows.drop (i * 16)) = true := fine_drop (rows.take (i * 16)) _ (by rw [List.take_append_drop]; exact hg.1)
  exact fineR_pre (l := chOf rows i) (m := (rows.drop (i * 16)).drop 16) (by unfold chOf; rw [List.take_append_drop]; exact h1)
theorem read_back {rows : List Row} (hg : goodR rows = true) (hok : ∀ x ∈ rows, Row.ok x) {i : Nat} (hi : i < chN rows.length) : readR (fenOf rows i) = some (chOf rows i) := by
  have hl := ch_len rows i
  have h0 : 0 < (chOf rows i).length := by rw [hl]; unfold chLen; unfold chN at hi; omega
  have hr := rows_back hg hok i (chOf rows i).length 0 (by omega)
  simp only [List.take_zero, blockB, List.length_nil, lastOf, List.drop_zero] at hr
  unfold readR fenOf
  simp only
  rw [← hl]
  rw [show (((0 : Nat) : Int)) = 0 from rfl] at hr
  rw [hr]
  simp only
  rw [if_pos]
  refine ⟨trivial, ch_fine hg i, rfl, ?_⟩
  rw [lastOf_last _ _ (by intro h; rw [h] at h0; simp at h0)]
  omega
theorem bet_back {rows : List Row} (hg : goodR rows = true) (hok : ∀ x ∈ rows, Row.ok x) (x y : Int) : ∀ (k i : Nat), i + k = chN rows.length → betR x y ((List.range' i k).map (fenOf rows)) = some ((rows.drop (i * 16)).filter (inR x y)) := by
  intro k
  induction k with
  | zero =>
    intro i hi
    rw [List.drop_eq_nil_of_le (by unfold chN at hi; omega)]
    rfl
  | succ k ih =>
    intro i hi
    have hn := ih (i + 1) (by omega)
    have hsp : rows.drop (i * 16) = chOf rows i ++ rows.drop ((i + 1) * 16) := by
      unfold chOf
      rw [show (i + 1) * 16 = i * 16 + 16 by omega, ← List.drop_drop, List.take_append_drop]
    rw [List.range'_succ, List.map_cons, hsp, List.filter_append]
    simp only [betR]
    split
    · rw [read_back hg hok (by omega), hn]
      rfl
    · rename_i hc
      rw [hn]
      have : (chOf rows i).filter (inR x y) = [] := List.filter_eq_nil_iff.2 fun r hr => by
        obtain ⟨j, hj, rfl⟩ := List.getElem_of_mem hr
        obtain ⟨h', e, g1, g2, g3, g4, g5, g6⟩ := ch_row hg hj
        have hlast : (chOf rows i)[j].T ≤ lastOf (firstT (chOf rows i)) (chOf rows i) := by
          rcases Nat.lt_or_ge (j + 1) (chOf rows i).length with h1 | h1
          · have hm : ∀ m, j + 1 ≤ m → m < (chOf rows i).length → (chOf rows i)[j].T ≤ lastOf (firstT (chOf rows i)) ((chOf rows i).take m) := by
              intro m
              induction m with
              | zero => intro h; omega
              | succ m ihm =>
                intro h2 h3
                obtain ⟨-, hT⟩ := take_block (t := firstT (chOf rows i)) (show m < (chOf rows i).length by omega)
                rw [hT]
                rcases Nat.lt_or_ge j m with h4 | h4
                · obtain ⟨h'', e', -, q2, -⟩ := ch_row hg (show m < (chOf rows i).length by omega)
                  have := ihm (by omega) (by omega)
                  rw [e']
                  omega
                · obtain rfl : j = m := by omega
                  exact Int.le_refl _
            obtain ⟨h'', e', -, q2, -⟩ := ch_row hg (show (chOf rows i).length - 1 < (chOf rows i).length by omega)
            obtain ⟨-, hT⟩ := take_block (t := firstT (chOf rows i)) (show (chOf rows i).length - 1 < (chOf rows i).length by omega)
            rw [show (chOf rows i).length - 1 + 1 = (chOf rows i).length by omega, List.take_length] at hT
            have := hm ((chOf rows i).length - 1) (by omega) (by omega)
            rw [hT, e']
            omega
          · obtain ⟨-, hT⟩ := take_block (t := firstT (chOf rows i)) hj
            rw [List.take_of_length_le h1] at hT
            rw [hT]
            exact Int.le_refl _
        rw [e] at hlast ⊢
        unfold fenOf at hc
        simp only at hc
        unfold inR
        simp only [Bool.and_eq_true, decide_eq_true_eq]
        omega
      rw [this]
      rfl
/-- the rows of the bytes of rows, in a range -/
theorem betS_back {rows : List Row} (hg : goodR rows = true) (hok : ∀ x ∈ rows, Row.ok x) (hl : rows.length ≤ 5000) (x y : Int) : betS (encR rows) x y = some (rows.filter (inR x y)) := by
  unfold betS
  rw [fences_back hg hok hl]
  have := bet_back hg hok x y (chN rows.length) 0 (by omega)
  rw [← List.range_eq_range'] at this
  simpa using this
end Go.Proofs.Ythmikefinibecaa
