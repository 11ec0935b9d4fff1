/-
  Plain Lean: what Decode reads of a string, and that it is the state that the string is of.
-/
import Derived.Test.YtbheoahpaidpmaaDoorManGet
namespace Go.Proofs.YtbheoahpaidpmaaDoor
open Go Go.RowKit

theorem getNat {l r : List UInt8} {n k : Nat} (hn : n < 18446744073709551616) (hk : k ≤ l.length) (h : l.drop k = uint n ++ r) : getAt l k = (n, ((k + (uint n).length : Nat) : Int), 0) := by
  have := getAt_of (l := l) (k := k) (a := n) (b := (uint n).length) (by rw [h]; exact get0_uint hn r) hk
  rw [this]
  rfl
/-- the numbers that gets have given, one behind the other -/
inductive Tr (l : List UInt8) : List Nat → Nat → Bool → Prop
  | nil : Tr l [] 0 true
  | more {ns : List Nat} {p : Nat} {o : Bool} : Tr l ns p o → Tr l (ns ++ [(gt l p o).1]) (gt l p o).2.1 (gt l p o).2.2
theorem Tr.small {l : List UInt8} {ns : List Nat} {p : Nat} {o : Bool} (h : Tr l ns p o) : ∀ n ∈ ns, n ≤ 1099511627776 := by
  induction h with
  | nil => simp
  | more _ ih =>
    intro n hn
    rw [List.mem_append, List.mem_singleton] at hn
    rcases hn with hn | rfl
    · exact ih n hn
    · exact gt_small ..
theorem Tr.place {l : List UInt8} {ns : List Nat} {p : Nat} {o : Bool} (h : Tr l ns p o) : p ≤ l.length := by
  induction h with
  | nil => exact Nat.zero_le _
  | more _ ih => exact gt_in _ ih
/-- while all is well, the numbers are those that the string begins with -/
theorem Tr.sound {l : List UInt8} {ns : List Nat} {p : Nat} {o : Bool} (h : Tr l ns p o) (ho : o = true) : l = ns.flatMap uint ++ l.drop p ∧ p = (ns.flatMap uint).length := by
  induction h with
  | nil => simp
  | @more ns p o h ih =>
    have hp := h.place
    unfold gt at ho ⊢
    by_cases hc : o = true ∧ (getAt l p).2.2 = 0 ∧ (getAt l p).1 ≤ 1099511627776
    · rw [if_pos hc]
      obtain ⟨i1, i2⟩ := ih hc.1
      have hg := getAt_in hp
      have h0 : (get0 (l.drop p)).2.2 = 0 := by
        by_cases h0 : (get0 (l.drop p)).2.2 = 0
        · exact h0
        · rw [if_neg h0] at hg
          have := hc.2.1
          rw [hg] at this
          exact absurd this h0
      rw [if_pos h0] at hg
      obtain ⟨r, hr, hk, -⟩ := get0_sound (l := l.drop p) (m := (get0 (l.drop p)).1) (k := (get0 (l.drop p)).2.1) (by rw [← h0])
      rw [hg]
      simp only
      have e1 : ((p : Int) + ((get0 (l.drop p)).2.1 : Nat)).toNat = p + (uint (get0 (l.drop p)).1).length := by rw [hk]; omega
      rw [e1]
      have e2 : l.drop (p + (uint (get0 (l.drop p)).1).length) = r := by
        rw [← List.drop_drop]
        generalize uint (get0 (l.drop p)).1 = U at hr ⊢
        rw [hr, List.drop_append_of_le_length (Nat.le_refl _), List.drop_length, List.nil_append]
      refine ⟨?_, ?_⟩
      · rw [e2, List.flatMap_append, List.append_assoc]
        conv => lhs; rw [i1]
        rw [List.flatMap_cons, List.flatMap_nil, List.append_nil, ← hr]
      · rw [List.flatMap_append, List.length_append, ← i2]; simp
    · rw [if_neg hc] at ho
      cases ho
theorem Tr.len {l : List UInt8} {ns : List Nat} {p : Nat} (h : Tr l ns p true) : ns.length ≤ l.length := by
  obtain ⟨h1, h2⟩ := h.sound rfl
  have h3 : ∀ L : List Nat, L.length ≤ (L.flatMap uint).length := fun L => by
    induction L with
    | nil => simp
    | cons x L ih => have := uint_pos x; rw [List.flatMap_cons, List.length_append, List.length_cons]; omega
  have := h3 ns
  have := congrArg List.length h1
  rw [List.length_append] at this
  omega
/-- if the string is numbers, these are read -/
theorem Tr.follow {l : List UInt8} {L ns : List Nat} {p : Nat} {o : Bool} (hl : l = L.flatMap uint) (hs : ∀ x ∈ L, x ≤ 1099511627776) (h : Tr l ns p o) :
    ns.take L.length = L.take ns.length ∧ (ns.length ≤ L.length → o = true) := by
  induction h with
  | nil => simp
  | @more ns p o h ih =>
    obtain ⟨i1, i2⟩ := ih
    by_cases hc : ns.length < L.length
    · have ho := i2 (by omega)
      subst ho
      obtain ⟨s1, s2⟩ := h.sound rfl
      have hp := h.place
      have e1 : ns = L.take ns.length := by rw [← i1, List.take_of_length_le (by omega)]
      have e2 : l.drop p = (L.drop ns.length).flatMap uint := by
        have a1 : l = ns.flatMap uint ++ (L.drop ns.length).flatMap uint := by
          rw [hl, ← List.flatMap_append]
          conv => rhs; arg 2; arg 1; rw [e1]
          rw [List.take_append_drop]
        rw [a1, s2, List.drop_append_of_le_length (Nat.le_refl _), List.drop_length, List.nil_append]
      have e3 : L.drop ns.length = L[ns.length] :: L.drop (ns.length + 1) := List.drop_eq_getElem_cons hc
      rw [e3, List.flatMap_cons] at e2
      have hsm := hs L[ns.length] (List.getElem_mem hc)
      have hg := getNat (n := L[ns.length]) (by omega) hp e2
      have hgt : gt l p true = (L[ns.length], p + (uint L[ns.length]).length, true) := by
        unfold gt
        rw [hg, if_pos ⟨rfl, rfl, hsm⟩]
        rfl
      rw [hgt]
      refine ⟨?_, fun _ => rfl⟩
      rw [List.length_append, List.length_singleton, List.take_of_length_le (by rw [List.length_append, List.length_singleton]; omega)]
      rw [show L.take (ns.length + 1) = L.take ns.length ++ [L[ns.length]] by rw [List.take_append_getElem], ← e1]
    · refine ⟨?_, fun h2 => ?_⟩
      · rw [List.take_append_of_le_length (by omega), i1, List.take_of_length_le (by omega), List.take_of_length_le (by rw [List.length_append]; omega)]
      · rw [List.length_append, List.length_singleton] at h2; omega

structure NumSt (s : St) : Prop where
  part : ∀ p ∈ s.Parts, 0 ≤ p.Day ∧ 0 ≤ p.Layout ∧ 0 ≤ numF p.File ∧ p.File = fileB (numF p.File)
  n : 0 ≤ s.Next
  q : 0 ≤ s.Past
  d : 0 ≤ s.Day
  t : 0 ≤ s.To
  x : 0 ≤ s.Done
  off : s.On = false → s.Day = 0 ∧ s.To = 0 ∧ s.Done = 0
theorem OkSt.nums {s : St} (h : OkSt s) : NumSt s := by
  have hf : ∀ p ∈ s.Parts, 0 ≤ p.Day ∧ 0 ≤ p.Layout ∧ 0 ≤ numF p.File ∧ p.File = fileB (numF p.File) := fun p hp => by
    obtain ⟨g1, -, g3, -, g5, -, g7⟩ := okst_num h hp
    exact ⟨g1, g3, g5, g7⟩
  cases ho : s.On with
  | false =>
    obtain ⟨a1, a2, a3⟩ := h.offs ho
    exact ⟨hf, h.n0, h.p0, by omega, by omega, by omega, fun _ => ⟨a1, a2, a3⟩⟩
  | true =>
    obtain ⟨p, hp, hb, -, h4, h5⟩ := h.conv ho
    obtain ⟨hm, hd⟩ := findP_mem hp
    have g1 := (okst_num h hm).1
    exact ⟨hf, h.n0, h.p0, by omega, by rcases hb with hb | hb <;> omega, h4, fun e => by rw [ho] at e; cases e⟩
theorem encL_inj {s t : St} (hs : NumSt s) (ht : NumSt t) (hL : encL s = encL t) : s = t := by
  unfold encL at hL
  obtain ⟨h1, h2⟩ := List.cons.inj hL
  obtain ⟨h3, h4⟩ := parts_inj h1 hs.part ht.part h2
  simp only [List.cons_append, List.nil_append, List.cons.injEq] at h4
  obtain ⟨e1, e2, e3⟩ := h4
  obtain ⟨-, s1, s2, s3, s4, s5, s6⟩ := hs
  obtain ⟨-, t1, t2, t3, t4, t5, t6⟩ := ht
  obtain ⟨P, N, Q, O, D, T, X⟩ := s
  obtain ⟨P', N', Q', O', D', T', X'⟩ := t
  simp only at *
  subst h3
  have e4 : N = N' := by omega
  have e5 : Q = Q' := by omega
  subst e4 e5
  unfold endN at e3
  cases O <;> cases O'
  · obtain ⟨a1, a2, a3⟩ := s6 rfl
    obtain ⟨b1, b2, b3⟩ := t6 rfl
    rw [a1, a2, a3, b1, b2, b3]
  · simp at e3
  · simp at e3
  · simp only [if_pos, List.cons.injEq, true_and, and_true] at e3
    obtain ⟨g1, g2, g3⟩ := e3
    have f1 : D = D' := by omega
    have f2 : T = T' := by omega
    have f3 : X = X' := by omega
    rw [f1, f2, f3]

abbrev Tri3 := Nat × Nat × Nat
def triP (q : Tri3) : PartV := ⟨(q.1 : Int), (q.2.1 : Int), fileB (q.2.2 : Nat)⟩
def triN (q : Tri3) : List Nat := [q.1, q.2.1, q.2.2]
def mkS (ts : List Tri3) (nx pa on d t dn : Nat) : St := ⟨ts.map triP, (nx : Int), (pa : Int), decide (on = 1), (d : Int), (t : Int), (dn : Int)⟩
def mkL (many : Nat) (ts : List Tri3) (nx pa on d t dn : Nat) : List Nat := many :: (ts.flatMap triN ++ ([nx, pa] ++ if on = 1 then [on, d, t, dn] else [on]))
theorem triN_len (ts : List Tri3) : (ts.flatMap triN).length = 3 * ts.length := by
  induction ts with
  | nil => rfl
  | cons a ts ih => rw [List.flatMap_cons, List.length_append, ih]; simp [triN]; omega
theorem mkL_enc {many : Nat} {ts : List Tri3} {nx pa on d t dn : Nat} (hq : ∀ q ∈ ts, q.2.2 ≤ 1099511627776) (hm : ts.length = many) (hon : on ≤ 1) : encL (mkS ts nx pa on d t dn) = mkL many ts nx pa on d t dn := by
  unfold encL mkS mkL endN
  simp only [List.length_map, hm, Int.toNat_natCast]
  congr 1
  have h1 : (ts.map triP).flatMap partN = ts.flatMap triN := by
    clear hm
    induction ts with
    | nil => rfl
    | cons a ts ih =>
      rw [List.map_cons, List.flatMap_cons, List.flatMap_cons, ih fun q h => hq q (List.mem_cons_of_mem _ h)]
      have := hq a (List.mem_cons_self ..)
      simp only [partN, triP, triN, Int.toNat_natCast]
      rw [numF_file (by omega)]
      rfl
  rw [h1]
  congr 2
  by_cases h : on = 1
  · simp [h]
  · have : on = 0 := by omega
    simp [this]
theorem mkS_num {ts : List Tri3} {nx pa on d t dn : Nat} (hq : ∀ q ∈ ts, q.2.2 ≤ 1099511627776) (hz : on ≠ 1 → d = 0 ∧ t = 0 ∧ dn = 0) : NumSt (mkS ts nx pa on d t dn) := by
  refine ⟨fun p hp => ?_, ?_, ?_, ?_, ?_, ?_, fun ho => ?_⟩
  · obtain ⟨q, hm, rfl⟩ := List.mem_map.1 hp
    have := hq q hm
    simp only [triP]
    rw [numF_file (by omega)]
    exact ⟨by omega, by omega, by omega, rfl⟩
  all_goals simp only [mkS] at *
  all_goals try omega
  obtain ⟨a, b, c⟩ := hz (by simpa using ho)
  omega
theorem tri_small {l : List UInt8} {many : Nat} {ts : List Tri3} {r : List Nat} {p : Nat} {o : Bool} (h : Tr l (many :: (ts.flatMap triN ++ r)) p o) : ∀ q ∈ ts, q.2.2 ≤ 1099511627776 := fun q hq =>
  h.small _ (List.mem_cons_of_mem _ (List.mem_append_left _ (List.mem_flatMap.2 ⟨q, hq, by simp [triN]⟩)))

/-- Decode's answer is the state that the string is of -/
theorem dec_law {l : List UInt8} {many : Nat} {ts : List Tri3} {nx pa on d t dn p : Nat} {o : Bool} (hT : Tr l (mkL many ts nx pa on d t dn) p o) (hz : on ≠ 1 → d = 0 ∧ t = 0 ∧ dn = 0) (hi : ts.length ≤ many) (hm : o = true → ts.length = many) :
    (o = true → on ≤ 1 → p = l.length → encB (mkS ts nx pa on d t dn) = l) ∧
    (∀ y, OkSt y → y.Parts.length ≤ 1000000 → encB y = l → o = true ∧ on ≤ 1 ∧ p = l.length ∧ mkS ts nx pa on d t dn = y) := by
  have hq := tri_small (r := [nx, pa] ++ if on = 1 then [on, d, t, dn] else [on]) hT
  refine ⟨fun ho hon hp => ?_, fun y hy hyl hye => ?_⟩
  · unfold encB
    rw [mkL_enc hq (hm ho) hon]
    obtain ⟨s1, -⟩ := hT.sound ho
    rw [hp, List.drop_length, List.append_nil] at s1
    exact s1.symm
  · have hF := Tr.follow (L := encL y) hye.symm (encL_small hy hyl) hT
    obtain ⟨f1, f2⟩ := hF
    have hpl : (y.Parts.flatMap partN).length = 3 * y.Parts.length := by
      clear hye hyl hy f1 f2
      induction y.Parts with
      | nil => rfl
      | cons a ts ih => rw [List.flatMap_cons, List.length_append, ih]; simp [partN]; omega
    have hel : (encL y).length = 1 + 3 * y.Parts.length + 2 + (endN y).length := by
      unfold encL
      simp only [List.length_cons, List.length_append, hpl, List.length_nil]
      omega
    have hen : (endN y).length = 4 ∨ (endN y).length = 1 := by unfold endN; split <;> simp
    have hml : (mkL many ts nx pa on d t dn).length = 1 + 3 * ts.length + 2 + (if on = 1 then 4 else 1) := by
      unfold mkL
      simp only [List.length_cons, List.length_append, triN_len, List.length_nil]
      split <;> simp <;> omega
    have hmany : many = y.Parts.length := by
      have h0 := congrArg (fun z : List Nat => z[0]?) f1
      have p1 : 0 < (encL y).length := by omega
      have p2 : 0 < (mkL many ts nx pa on d t dn).length := by omega
      simp only [List.getElem?_take, if_pos p1, if_pos p2] at h0
      simpa [mkL, encL] using h0
    have ho : o = true := by
      by_cases hlt : ts.length < many
      · exact f2 (by rw [hml, hel]; split <;> omega)
      · by_cases hon : on = 1
        · have hi2 : ts.length = many := by omega
          rcases hen with h4 | h1
          · exact f2 (by rw [hml, hel, if_pos hon]; omega)
          · exfalso
            have h0 := congrArg (fun z : List Nat => z[1 + 3 * many + 2]?) f1
            have p1 : 1 + 3 * many + 2 < (encL y).length := by omega
            have p2 : 1 + 3 * many + 2 < (mkL many ts nx pa on d t dn).length := by rw [hml]; split <;> omega
            simp only [List.getElem?_take, if_pos p1, if_pos p2] at h0
            have a1 : (mkL many ts nx pa on d t dn)[1 + 3 * many + 2]? = some on := by
              unfold mkL
              rw [show 1 + 3 * many + 2 = (3 * many + 2) + 1 by omega, List.getElem?_cons_succ, List.getElem?_append_right (by rw [triN_len]; omega), triN_len, hi2, show 3 * many + 2 - 3 * many = 2 by omega, if_pos hon]
              rfl
            have a2 : (encL y)[1 + 3 * many + 2]? = some 0 := by
              unfold encL
              rw [show 1 + 3 * many + 2 = (3 * many + 2) + 1 by omega, List.getElem?_cons_succ, List.getElem?_append_right (by rw [hpl]; omega), hpl, hmany, show 3 * y.Parts.length + 2 - 3 * y.Parts.length = 2 by omega]
              unfold endN at h1 ⊢
              split at h1
              · simp at h1
              · rename_i hh
                rw [if_neg hh]
                rfl
            rw [a1, a2] at h0
            have := Option.some.inj h0
            omega
        · exact f2 (by rw [hml, hel, if_neg hon]; rcases hen with h | h <;> omega)
    have him := hm ho
    have hon : (mkL many ts nx pa on d t dn).length = (encL y).length := by
      have h0 := congrArg (fun z : List Nat => z[1 + 3 * many + 2]?) f1
      have p1 : 1 + 3 * many + 2 < (encL y).length := by rcases hen with h | h <;> omega
      have p2 : 1 + 3 * many + 2 < (mkL many ts nx pa on d t dn).length := by rw [hml]; split <;> omega
      simp only [List.getElem?_take, if_pos p1, if_pos p2] at h0
      have a1 : (mkL many ts nx pa on d t dn)[1 + 3 * many + 2]? = some on := by
        unfold mkL
        rw [show 1 + 3 * many + 2 = (3 * many + 2) + 1 by omega, List.getElem?_cons_succ, List.getElem?_append_right (by rw [triN_len]; omega), triN_len, him, show 3 * many + 2 - 3 * many = 2 by omega]
        split <;> rfl
      have a2 : (encL y)[1 + 3 * many + 2]? = some (if y.On = true then 1 else 0) := by
        unfold encL
        rw [show 1 + 3 * many + 2 = (3 * many + 2) + 1 by omega, List.getElem?_cons_succ, List.getElem?_append_right (by rw [hpl]; omega), hpl, hmany, show 3 * y.Parts.length + 2 - 3 * y.Parts.length = 2 by omega]
        unfold endN
        split <;> rfl
      rw [a1, a2] at h0
      have hv := Option.some.inj h0
      rw [hml, hel, him, hmany]
      unfold endN
      split at hv <;> rename_i hh
      · rw [if_pos hv, if_pos hh]; rfl
      · rw [if_neg (by omega), if_neg hh]; rfl
    have hEq : mkL many ts nx pa on d t dn = encL y := by
      rw [← hon, List.take_of_length_le (Nat.le_refl _), hon, List.take_of_length_le (Nat.le_refl _)] at f1
      exact f1
    have hon1 : on ≤ 1 := by
      rw [hml, hel, him, hmany] at hon
      by_cases h1 : on = 1
      · omega
      · have h0 := congrArg (fun z : List Nat => z[1 + 3 * many + 2]?) hEq
        have a1 : (mkL many ts nx pa on d t dn)[1 + 3 * many + 2]? = some on := by
          unfold mkL
          rw [show 1 + 3 * many + 2 = (3 * many + 2) + 1 by omega, List.getElem?_cons_succ, List.getElem?_append_right (by rw [triN_len]; omega), triN_len, him, show 3 * many + 2 - 3 * many = 2 by omega]
          split <;> rfl
        have a2 : (encL y)[1 + 3 * many + 2]? = some (if y.On = true then 1 else 0) := by
          unfold encL
          rw [show 1 + 3 * many + 2 = (3 * many + 2) + 1 by omega, List.getElem?_cons_succ, List.getElem?_append_right (by rw [hpl]; omega), hpl, hmany, show 3 * y.Parts.length + 2 - 3 * y.Parts.length = 2 by omega]
          unfold endN
          split <;> rfl
        rw [a1, a2] at h0
        have := Option.some.inj h0
        split at this <;> omega
    refine ⟨ho, hon1, ?_, ?_⟩
    · obtain ⟨s1, s2⟩ := hT.sound ho
      rw [s2, hEq]
      rw [← hye]
      rfl
    · refine encL_inj (mkS_num hq hz) hy.nums ?_
      rw [mkL_enc hq him hon1, hEq]

/-- Decode's answer: the right state that the string is of, or an error if it is of none -/
def DecPost (x : List UInt8) (B : Nat) (w : World) (e : Ending) (w' : World) : Prop :=
  ((∃ s A n c, OkSt s ∧ encB s = x ∧ s.Parts.length = n ∧ n ≤ 100000 ∧ e = .returned (.tuple #[stVal A n c s, .int .i64 0]) ∧ Rd w' 3 A n (s.Parts.flatMap partCells)) ∨
    ((∀ y, OkSt y → y.Parts.length ≤ 1000000 → encB y ≠ x) ∧ e = .returned (.tuple #[stVal none 0 0 st0, .int .i64 11]))) ∧ Below B w w'
end Go.Proofs.YtbheoahpaidpmaaDoor
