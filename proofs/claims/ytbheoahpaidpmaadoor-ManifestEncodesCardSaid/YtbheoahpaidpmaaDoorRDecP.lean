/-
  Plain Lean: what the document's Decode reads of a string, and that it is the state that the string is of.
-/
import Derived.Test.YtbheoahpaidpmaaDoorManDecP
namespace Go.Proofs.YtbheoahpaidpmaaDoor
open Go Go.RowKit

theorem gt_good {l : List UInt8} {p : Nat} (h0 : (getAt l p).2.2 = 0) (h1 : (getAt l p).1 ≤ 1099511627776) : gt l p true = ((getAt l p).1, (getAt l p).2.1.toNat, true) := by
  unfold gt
  rw [if_pos ⟨rfl, h0, h1⟩]
/-- a string that is no number anywhere is of no right state -/
theorem no_read {l : List UInt8} {ns : List Nat} {p : Nat} (h : Tr l ns p true) (hp : p < l.length) (he : ¬ ((getAt l p).2.2 = 0 ∧ (getAt l p).1 ≤ 1099511627776)) : ∀ y, OkSt y → y.Parts.length ≤ 1000000 → encB y ≠ l := by
  intro y hy hyl hye
  have hs := encL_small hy hyl
  obtain ⟨f1, -⟩ := Tr.follow (L := encL y) hye.symm hs h
  have hm := h.more
  have hg : gt l p true = (0, p, false) := by unfold gt; rw [if_neg fun h => he h.2]
  rw [hg] at hm
  obtain ⟨-, f2⟩ := Tr.follow (L := encL y) hye.symm hs hm
  by_cases hc : ns.length < (encL y).length
  · have := f2 (by simp; omega)
    cases this
  · rw [List.take_of_length_le (Nat.le_of_not_lt hc)] at f1
    obtain ⟨s1, s2⟩ := h.sound rfl
    have h1 : (ns.flatMap uint).length = ((ns.take (encL y).length).flatMap uint).length + ((ns.drop (encL y).length).flatMap uint).length := by
      rw [← List.length_append, ← List.flatMap_append, List.take_append_drop]
    rw [f1] at h1
    have h2 : ((encL y).flatMap uint).length = l.length := by rw [← hye]; rfl
    omega
theorem all_read {l : List UInt8} {ns : List Nat} {p : Nat} (h : Tr l ns p true) (hp : p = l.length) : ns.flatMap uint = l := by
  obtain ⟨s1, -⟩ := h.sound rfl
  rw [hp, List.drop_length, List.append_nil] at s1
  exact s1.symm
theorem only_read {l : List UInt8} {ns : List Nat} (hs : ∀ n ∈ ns, n ≤ 1099511627776) (hl : ns.flatMap uint = l) {y : St} (hy : OkSt y) (hyl : y.Parts.length ≤ 1000000) (hye : encB y = l) : encL y = ns :=
  flat_inj (fun x hx => by have := encL_small hy hyl x hx; omega) (fun x hx => by have := hs x hx; omega) (hye.trans hl.symm)
theorem encL_len (y : St) : (encL y).length = 1 + 3 * y.Parts.length + 2 + (endN y).length ∧ ((endN y).length = 4 ∨ (endN y).length = 1) := by
  have hpl : (y.Parts.flatMap partN).length = 3 * y.Parts.length := by
    induction y.Parts with
    | nil => rfl
    | cons a ts ih => rw [List.flatMap_cons, List.length_append, ih]; simp [partN]; omega
  refine ⟨?_, by unfold endN; split <;> simp⟩
  unfold encL
  simp only [List.length_cons, List.length_append, hpl, List.length_nil]
  omega
/-- too few numbers -/
theorem few_read {ns : List Nat} {y : St} (h : encL y = ns) : 4 ≤ ns.length ∧ ∃ m r, ns = m :: r ∧ m ≤ ns.length ∧ 4 + 3 * m ≤ ns.length := by
  obtain ⟨h1, h2⟩ := encL_len y
  subst h
  refine ⟨by rcases h2 with h | h <;> omega, y.Parts.length, _, rfl, by rcases h2 with h | h <;> omega, by rcases h2 with h | h <;> omega⟩
theorem parts_len (y : St) : (y.Parts.flatMap partN).length = 3 * y.Parts.length := by
  induction y.Parts with
  | nil => rfl
  | cons a ts ih => rw [List.flatMap_cons, List.length_append, ih]; simp [partN]; omega
theorem rdec_split {ns R : List Nat} {m nx pa : Nat} {ts : List Tri3} {y : St} (hns : ns = m :: (ts.flatMap triN ++ (nx :: pa :: R))) (hm : ts.length = m) (h : encL y = ns) : R = endN y := by
  rw [hns] at h
  unfold encL at h
  obtain ⟨h1, h2⟩ := List.cons.inj h
  have h3 := List.append_inj h2 (by rw [parts_len, triN_len, h1, hm])
  have h4 := h3.2
  simp only [List.cons_append, List.nil_append, List.cons.injEq] at h4
  exact h4.2.2.symm
theorem rdec_off {ns R : List Nat} {m nx pa : Nat} {ts : List Tri3} {y : St} (hs : ∀ n ∈ ns, n ≤ 1099511627776) (hns : ns = m :: (ts.flatMap triN ++ (nx :: pa :: R))) (hm : ts.length = m) (h : encL y = ns) (hy : OkSt y) (hR : R.length ≠ 4) : y = mkS ts nx pa 0 0 0 0 := by
  have hE := rdec_split hns hm h
  have hq : ∀ q ∈ ts, q.2.2 ≤ 1099511627776 := fun q hq => hs _ (by rw [hns]; exact List.mem_cons_of_mem _ (List.mem_append_left _ (List.mem_flatMap.2 ⟨q, hq, by simp [triN]⟩)))
  have h0 : R = [0] := by
    unfold endN at hE
    split at hE
    · rw [hE] at hR; exact absurd rfl hR
    · exact hE
  refine encL_inj hy.nums (mkS_num hq fun _ => ⟨rfl, rfl, rfl⟩) ?_
  rw [mkL_enc hq hm (by omega), h, hns, h0]
  rfl
theorem rdec_on {ns : List Nat} {m nx pa o d t dn : Nat} {ts : List Tri3} {y : St} (hs : ∀ n ∈ ns, n ≤ 1099511627776) (hns : ns = m :: (ts.flatMap triN ++ (nx :: pa :: [o, d, t, dn]))) (hm : ts.length = m) (h : encL y = ns) (hy : OkSt y) : y = mkS ts nx pa 1 d t dn := by
  have hE := rdec_split hns hm h
  have hq : ∀ q ∈ ts, q.2.2 ≤ 1099511627776 := fun q hq => hs _ (by rw [hns]; exact List.mem_cons_of_mem _ (List.mem_append_left _ (List.mem_flatMap.2 ⟨q, hq, by simp [triN]⟩)))
  have h0 : o = 1 := by
    unfold endN at hE
    split at hE
    · exact (List.cons.inj hE).1
    · exact absurd (congrArg List.length hE) (by simp)
  refine encL_inj hy.nums (mkS_num hq fun h => absurd rfl h) ?_
  rw [mkL_enc hq hm (by omega), h, hns, h0]
  rfl
/-- the numbers of a row, three by three -/
theorem tri_more {L : List Nat} {ts : List Tri3} {i : Nat} {a b c : Nat} (h : ts.flatMap triN = (L.drop 1).take (3 * i)) (ha : L[1 + 3 * i]? = some a) (hb : L[2 + 3 * i]? = some b) (hc : L[3 + 3 * i]? = some c) :
    (ts ++ [(a, b, c)]).flatMap triN = (L.drop 1).take (3 * (i + 1)) := by
  rw [List.flatMap_append, h]
  have e : ∀ k, (L.drop 1)[k]? = L[1 + k]? := fun k => by rw [List.getElem?_drop]
  rw [show 3 * (i + 1) = 3 * i + 1 + 1 + 1 by omega, List.take_add_one, List.take_add_one, List.take_add_one, e, e, e, ha, show 1 + (3 * i + 1) = 2 + 3 * i by omega, hb, show 1 + (3 * i + 1 + 1) = 3 + 3 * i by omega, hc]
  simp [triN]
theorem rest_of {L : List Nat} {ts : List Tri3} {m : Nat} (h0 : L[0]? = some m) (h : ts.flatMap triN = (L.drop 1).take (3 * m)) (hl : 4 + 3 * m ≤ L.length) : ∃ nx pa R, L = m :: (ts.flatMap triN ++ (nx :: pa :: R)) ∧ R.length + 3 + 3 * m = L.length ∧ L[1 + 3 * m]? = some nx ∧ L[2 + 3 * m]? = some pa ∧ ∀ k, R[k]? = L[3 + 3 * m + k]? := by
  obtain ⟨a, r, rfl⟩ : ∃ a r, L = a :: r := by
    cases L with
    | nil => simp at hl
    | cons a r => exact ⟨a, r, rfl⟩
  obtain rfl : a = m := by simpa using h0
  simp only [List.drop_succ_cons, List.drop_zero] at h
  simp only [List.length_cons] at hl
  obtain ⟨nx, q, hq⟩ : ∃ nx q, r.drop (3 * a) = nx :: q := by
    cases hd : r.drop (3 * a) with
    | nil => have := congrArg List.length hd; simp at this; omega
    | cons x y => exact ⟨x, y, rfl⟩
  obtain ⟨pa, R, hR⟩ : ∃ pa R, q = pa :: R := by
    cases q with
    | nil => have := congrArg List.length hq; simp at this; omega
    | cons x y => exact ⟨x, y, rfl⟩
  subst hR
  have hr : r = ts.flatMap triN ++ (nx :: pa :: R) := by rw [h, ← hq, List.take_append_drop]
  have hlen : (ts.flatMap triN).length = 3 * a := by rw [h, List.length_take]; omega
  have at_ : ∀ k, r[3 * a + k]? = (nx :: pa :: R)[k]? := fun k => by rw [← hq, List.getElem?_drop]
  refine ⟨nx, pa, R, by rw [← hr], ?_, ?_, ?_, fun k => ?_⟩
  · rw [List.length_cons, hr, List.length_append, hlen]; simp only [List.length_cons]; omega
  · rw [show 1 + 3 * a = 3 * a + 0 + 1 by omega, List.getElem?_cons_succ]; exact at_ 0
  · rw [show 2 + 3 * a = 3 * a + 1 + 1 by omega, List.getElem?_cons_succ, at_]; rfl
  · rw [show 3 + 3 * a + k = 3 * a + (k + 1 + 1) + 1 by omega, List.getElem?_cons_succ, at_, List.getElem?_cons_succ, List.getElem?_cons_succ]

/-- numbers, as cells -/
abbrev nums (l : List Nat) : List Value := l.map fun n : Nat => .int .i64 (n : Int)
theorem nums_at {l : List Nat} {j n : Nat} (h : l[j]? = some n) : (nums l)[j]? = some (.int .i64 (n : Int)) := by rw [List.getElem?_map, h]; rfl
end Go.Proofs.YtbheoahpaidpmaaDoor
