/-
  Plain Lean: samples that are encoded are read back.
-/
import Derived.Test.YtmafdbdmmfpeeaaDeltaRead
namespace Go.Proofs.Ytmafdbdmmfpeeaa
open Go Go.RowKit

theorem riceZ_nat {l : List Bool} {k : Nat} (h : k ≤ 40) : riceZ l (k : Int) = riceR l k := by unfold riceZ; rw [if_pos (by omega)]; rfl
theorem wrap_back {x y : Int} (hx : In64 x) : wrapV (y + wrapV (x - y)) = x := by
  unfold wrapV
  unfold In64 at hx
  rw [IntKind.wrap_i64, IntKind.wrap_i64]
  omega
theorem bits2_split (ps : List (Nat × Nat)) (a b : Nat) {i : Nat} (h : i < ps.length) : bits2 ps a b = bits2 (ps.take i) a b ++ (codeL ps[i].1 a ++ (codeL ps[i].2 b ++ bits2 (ps.drop (i + 1)) a b)) := by
  have e : ps = ps.take i ++ ps[i] :: ps.drop (i + 1) := by simp
  have h1 : bits2 ps a b = bits2 (ps.take i ++ ps[i] :: ps.drop (i + 1)) a b := congrArg (fun q => bits2 q a b) e
  rw [h1]
  simp only [bits2, List.flatMap_append, List.flatMap_cons, List.append_assoc]
theorem bits2_take_len (ps : List (Nat × Nat)) (a b : Nat) {i : Nat} (h : i < ps.length) : (bits2 (ps.take (i + 1)) a b).length = (bits2 (ps.take i) a b).length + costOne ps[i].1 a + costOne ps[i].2 b := by
  rw [List.take_succ_eq_append_getElem h]
  simp only [bits2, List.flatMap_append, List.flatMap_cons, List.flatMap_nil, List.append_nil, List.length_append, codeL_length]
  omega

theorem step_back {l : List Sample} (hf : Fine l) (hok : ∀ x ∈ l, Sample.ok x) {a b : Nat} (ha : a ≤ 40) (hb : b ≤ 40) (p : List Bool) {i : Nat} (h : i + 1 < l.length) :
    stepD (bits2 (nums l) a b ++ p) a b (bits2 ((nums l).take i) a b).length (ahead l i) (sAt l i).T (sAt l i).V = some ((bits2 ((nums l).take (i + 1)) a b).length, ahead l (i + 1), (sAt l (i + 1)).T, (sAt l (i + 1)).V) := by
  have hi : i < (nums l).length := by rw [nums_length]; omega
  have hn := nums_get hi
  have hlt := num_lt hf h
  have e1 : (bits2 (nums l) a b ++ p).drop (bits2 ((nums l).take i) a b).length = codeL (numAt l i).1 a ++ (codeL (numAt l i).2 b ++ (bits2 ((nums l).drop (i + 1)) a b ++ p)) := by
    rw [bits2_split _ _ _ hi, hn, List.append_assoc, List.drop_left' rfl]
    simp only [List.append_assoc]
  have e2 : (bits2 (nums l) a b ++ p).drop ((bits2 ((nums l).take i) a b).length + costOne (numAt l i).1 a) = codeL (numAt l i).2 b ++ (bits2 ((nums l).drop (i + 1)) a b ++ p) := by
    rw [← List.drop_drop, e1, List.drop_left' (codeL_length _ _)]
  have r1 : riceZ ((bits2 (nums l) a b ++ p).drop (bits2 ((nums l).take i) a b).length) (a : Int) = ((numAt l i).1, costOne (numAt l i).1 a, 0) := by rw [e1, riceZ_nat ha, rice_back hlt.1]
  have r2 : riceZ ((bits2 (nums l) a b ++ p).drop ((bits2 ((nums l).take i) a b).length + costOne (numAt l i).1 a)) (b : Int) = ((numAt l i).2, costOne (numAt l i).2 b, 0) := by rw [e2, riceZ_nat hb, rice_back hlt.2]
  have hd := dist_lt hf h
  have hah := ahead_lt hf (show i < l.length by omega)
  have u1 : unfoldN (numAt l i).1 = dist l i - ahead l i := unfold_fold _
  have u2 : unfoldN (numAt l i).2 = wrapV ((sAt l (i + 1)).V - (sAt l i).V) := unfold_fold _
  have hT : (sAt l i).T + dist l i = (sAt l (i + 1)).T := by unfold dist; omega
  have hg := (fine_good hf h).2
  have hV : wrapV ((sAt l i).V + wrapV ((sAt l (i + 1)).V - (sAt l i).V)) = (sAt l (i + 1)).V := wrap_back (by rw [sAt_get h]; exact (hok _ (List.getElem_mem h)).2)
  have hs : ahead l i + (dist l i - ahead l i) = dist l i := by omega
  have hah2 : ahead l (i + 1) = dist l i := rfl
  unfold stepD
  rw [r1]
  simp only
  rw [r2]
  simp only
  rw [u1, u2, hs, hT, hV, hah2, bits2_take_len _ _ _ hi, hn]
  rw [if_pos (by refine ⟨trivial, trivial, ?_, ?_, ?_, ?_, hg⟩ <;> omega)]

theorem rest_back {l : List Sample} (hf : Fine l) (hok : ∀ x ∈ l, Sample.ok x) {a b : Nat} (ha : a ≤ 40) (hb : b ≤ 40) (p : List Bool) : ∀ (m i : Nat), i + 1 + m = l.length →
    restD (bits2 (nums l) a b ++ p) a b m (bits2 ((nums l).take i) a b).length (ahead l i) (sAt l i).T (sAt l i).V = some (l.drop (i + 1), (bits2 (nums l) a b).length) := by
  intro m
  induction m with
  | zero =>
    intro i h
    have e : (nums l).take i = nums l := List.take_of_length_le (by rw [nums_length]; omega)
    simp only [restD, e]
    rw [List.drop_eq_nil_of_le (by omega)]
  | succ m ih =>
    intro i h
    simp only [restD]
    rw [step_back hf hok ha hb p (by omega)]
    simp only
    rw [ih (i + 1) (by omega)]
    simp only [Option.map_some]
    rw [List.drop_eq_getElem_cons (show i + 1 < l.length by omega), ← sAt_get]

theorem getAt_uint {l r : List UInt8} {n k : Nat} (hn : n < 18446744073709551616) (hk : k ≤ l.length) (h : l.drop k = uint n ++ r) : getAt l k = (n, ((k + (uint n).length : Nat) : Int), 0) := by
  have := getAt_of (l := l) (k := k) (a := n) (b := (uint n).length) (by rw [h]; exact get0_uint hn r) hk
  rw [this]
  rfl
theorem cons_drop {l : List Sample} (h : 0 < l.length) : (sAt l 0) :: l.drop 1 = l := by
  rw [sAt_get h]
  cases l with
  | nil => simp at h
  | cons x l => rfl
theorem byte_nat {k : Nat} (h : k < 256) : (UInt8.ofNat k).toNat = k := by rw [UInt8.toNat_ofNat']; omega

theorem read_back {l : List Sample} (hf : Fine l) (hok : ∀ x ∈ l, Sample.ok x) (hl : l.length ≤ 5000) : readP (encB l) = some (l, true) := by
  by_cases h0 : l.length = 0
  · have hnil : l = [] := List.eq_nil_of_length_eq_zero h0
    subst hnil
    have e0 : encB [] = [byt 0] := by
      unfold encB
      rw [show ([] : List Sample).length = 0 from rfl, uint_small (by omega)]
      rfl
    have g1 : getAt [byt 0] 0 = (0, 1, 0) := by decide
    unfold readP
    rw [e0, g1]
    rfl
  · have hpos : 0 < l.length := by omega
    have hT := hf.1 _ (List.getElem_mem hpos)
    have hV := (hok _ (List.getElem_mem hpos)).2
    rw [← sAt_get hpos] at hT hV
    obtain ⟨B, hB⟩ : ∃ B, (if l.length < 2 then [] else bodyB l) = B := ⟨_, rfl⟩
    have hE : encB l = uint l.length ++ (uint (sAt l 0).T.toNat ++ (uint (foldN (sAt l 0).V) ++ B)) := by
      unfold encB firstB
      rw [if_neg h0, hB]
      simp only [List.append_assoc]
    obtain ⟨p1, hp1⟩ : ∃ p, p = (uint l.length).length := ⟨_, rfl⟩
    obtain ⟨p2, hp2⟩ : ∃ p, p = p1 + (uint (sAt l 0).T.toNat).length := ⟨_, rfl⟩
    obtain ⟨p3, hp3⟩ : ∃ p, p = p2 + (uint (foldN (sAt l 0).V)).length := ⟨_, rfl⟩
    have hlen : (encB l).length = p3 + B.length := by rw [hE]; simp only [List.length_append]; omega
    have d1 : (encB l).drop p1 = uint (sAt l 0).T.toNat ++ (uint (foldN (sAt l 0).V) ++ B) := by rw [hE, hp1, List.drop_left' rfl]
    have d2 : (encB l).drop p2 = uint (foldN (sAt l 0).V) ++ B := by rw [hp2, ← List.drop_drop, d1, List.drop_left' rfl]
    have d3 : (encB l).drop p3 = B := by rw [hp3, ← List.drop_drop, d2, List.drop_left' rfl]
    have g1 : getAt (encB l) 0 = (l.length, (p1 : Int), 0) := by
      have := getAt_uint (l := encB l) (k := 0) (n := l.length) (by omega) (by omega) (by rw [List.drop_zero]; exact hE)
      rw [show ((0 : Nat) : Int) = 0 from rfl] at this
      rw [this, hp1]
      simp
    have g2 : getAt (encB l) (p1 : Int) = ((sAt l 0).T.toNat, (p2 : Int), 0) := by rw [getAt_uint (by omega) (by omega) d1, hp2]
    have g3 : getAt (encB l) (p2 : Int) = (foldN (sAt l 0).V, (p3 : Int), 0) := by rw [getAt_uint (foldN_lt hV.1 hV.2) (by omega) d2, hp3]
    have hTn : (((sAt l 0).T.toNat : Nat) : Int) = (sAt l 0).T := by omega
    have hs : (⟨(sAt l 0).T, (sAt l 0).V⟩ : Sample) = sAt l 0 := rfl
    unfold readP
    rw [g1]
    simp only
    rw [g2]
    simp only
    rw [g3]
    simp only
    rw [if_neg (by omega), if_neg h0, if_neg (by omega), if_neg (by simp), unfold_fold, hTn]
    by_cases h1 : l.length = 1
    · rw [if_pos h1]
      rw [if_pos (by omega)] at hB
      have hBn : B.length = 0 := by rw [← hB]; rfl
      have hl1 : l = [sAt l 0] := by
        have := cons_drop hpos
        rw [List.drop_eq_nil_of_le (by omega)] at this
        exact this.symm
      rw [show decide ((p3 : Int) = ((encB l).length : Int)) = true from decide_eq_true (by omega), hs, ← hl1]
    · rw [if_neg (by omega)] at hB
      have hbody : B = UInt8.ofNat (bestT l) :: UInt8.ofNat (bestV l) :: (wrN (nums l) (bestT l) (bestV l)).out := by rw [← hB]; rfl
      have h2 : 2 ≤ B.length := by rw [hbody]; simp
      have e1 : nth (encB l) p3 = bestT l := by
        unfold nth
        have := bestT_le l
        rw [List.getD_eq_getElem?_getD, ← Nat.add_zero p3, ← List.getElem?_drop, d3, hbody]
        exact byte_nat (by omega)
      have e2 : nth (encB l) (p3 + 1) = bestV l := by
        unfold nth
        have := bestV_le l
        rw [List.getD_eq_getElem?_getD, ← List.getElem?_drop, d3, hbody]
        exact byte_nat (by omega)
      have hwo := wrN_ok (bestT_le l) (bestV_le l) (nums l)
      have e3 : bitsOf ((encB l).drop (p3 + 2)) = bits2 (nums l) (bestT l) (bestV l) ++ List.replicate (pad (wrN (nums l) (bestT l) (bestV l)).m) false := by
        rw [← List.drop_drop, d3, hbody, ← wrN_bits, ← out_bits hwo.1.1]
        rfl
      rw [if_neg h1, show ((p3 : Int)).toNat = p3 from rfl, if_neg (by omega), e1, e2, e3]
      have hr := rest_back hf hok (bestT_le l) (bestV_le l) (List.replicate (pad (wrN (nums l) (bestT l) (bestV l)).m) false) (l.length - 1) 0 (by omega)
      have hz : (bits2 ((nums l).take 0) (bestT l) (bestV l)).length = 0 := rfl
      have ha0 : ahead l 0 = 0 := rfl
      rw [hz, ha0] at hr
      rw [hr]
      simp only
      rw [hs, Nat.zero_add, cons_drop hpos, List.drop_left' rfl, end_pad _ hwo.1.1]
      rfl

/-- what bytes are decoded to -/
def decP (l : List UInt8) : Option (List Sample) := match readP l with
  | none => none
  | some r => if encB r.1 = l then some r.1 else none
theorem dec_back {l : List Sample} (hf : Fine l) (hok : ∀ x ∈ l, Sample.ok x) (hl : l.length ≤ 5000) : decP (encB l) = some l := by
  unfold decP
  rw [read_back hf hok hl]
  simp
/-- bytes that are decoded are whole -/
theorem dec_whole {l : List UInt8} {r : List Sample × Bool} (h : readP l = some r) (he : encB r.1 = l) : r.2 = true := by
  obtain ⟨⟨h1, h2⟩, h3⟩ := read_ok h
  have h4 := read_back h1 h2 h3
  rw [he, h] at h4
  have := Option.some.inj h4
  rw [this]
theorem dec_ok {l : List UInt8} {r : List Sample} (h : decP l = some r) : Fine r ∧ (∀ x ∈ r, Sample.ok x) ∧ r.length ≤ 5000 ∧ encB r = l := by
  unfold decP at h
  split at h
  · cases h
  · rename_i x hx
    obtain ⟨⟨h1, h2⟩, h3⟩ := read_ok hx
    split at h
    · rename_i he
      obtain rfl := Option.some.inj h
      exact ⟨h1, h2, h3, he⟩
    · cases h
end Go.Proofs.Ytmafdbdmmfpeeaa
