/-
  Plain Lean: series in bytes.
-/
import Derived.Test.YtmafdbdmmfpeeaaRDDec
namespace Go.Proofs.Ytmafdbdmmfpeeaa
open Go Go.RowKit

structure Ser where
  ID : Int
  L : List Sample

/-- an entry of the table: its number, how many bytes; where the next one stands -/
def entR (l : List UInt8) (a last : Int) : Option (Nat × Nat × Int) :=
  if (getAt l a).2.2 = 0 ∧ (getAt l (getAt l a).2.1).2.2 = 0 ∧ (getAt l a).1 < 200 ∧ last < (getAt l a).1 ∧ (getAt l (getAt l a).2.1).1 ≤ l.length then
    some ((getAt l a).1, (getAt l (getAt l a).2.1).1, (getAt l (getAt l a).2.1).2.1)
  else none
def entsR (l : List UInt8) : Nat → Int → Int → Option (List (Nat × Nat) × Int)
  | 0, a, _ => some ([], a)
  | k + 1, a, last => match entR l a last with
    | none => none
    | some x => (entsR l k x.2.2 x.1).map fun r => ((x.1, x.2.1) :: r.1, r.2)
def sumE (es : List (Nat × Nat)) : Nat := (es.map fun e => e.2).sum
/-- the parts, with their bytes -/
def cutE : List (Nat × Nat) → List UInt8 → List (Nat × List UInt8)
  | [], _ => []
  | e :: es, t => (e.1, t.take e.2) :: cutE es (t.drop e.2)
def tableR (l : List UInt8) : Option (List (Nat × List UInt8)) :=
  if (getAt l 0).2.2 ≠ 0 ∨ 200 < (getAt l 0).1 then none
  else match entsR l (getAt l 0).1 (getAt l 0).2.1 (-1) with
    | none => none
    | some r => if (sumE r.1 : Int) = (l.length : Int) - r.2 then some (cutE r.1 (l.drop r.2.toNat)) else none
/-- the samples of a part; none: an error -/
def partR (c : List UInt8) : Option (List Sample) := if decE c = 0 ∧ decL c ≠ [] then some (decL c) else none
/-- whose samples are found, or the error -/
def findT : List (Nat × List UInt8) → Int → Option (List Sample) × Nat
  | [], _ => (none, 3)
  | p :: ps, id => if (p.1 : Int) = id then (match partR p.2 with | none => (none, 11) | some s => (some s, 0)) else findT ps id
def serT : List (Nat × List UInt8) → Option (List Ser)
  | [] => some []
  | p :: ps => match partR p.2 with
    | none => none
    | some s => (serT ps).map fun r => ⟨(p.1 : Int), s⟩ :: r

/-- a series may stand behind 'last' -/
def goodS (last : Int) : List Ser → Prop
  | [] => True
  | x :: l => Fine x.L ∧ x.L ≠ [] ∧ last < x.ID ∧ x.ID < 200 ∧ goodS x.ID l
def headS (l : List Ser) : List UInt8 := l.flatMap fun x => uint x.ID.toNat ++ uint (encB x.L).length
def bodyS (l : List Ser) : List UInt8 := l.flatMap fun x => encB x.L
def encS (l : List Ser) : List UInt8 := uint l.length ++ headS l ++ bodyS l
def entsOf (l : List Ser) : List (Nat × Nat) := l.map fun x => (x.ID.toNat, (encB x.L).length)
def partsOf (l : List Ser) : List (Nat × List UInt8) := l.map fun x => (x.ID.toNat, encB x.L)

theorem drop_past {l x r : List UInt8} {k : Nat} (h : l.drop k = x ++ r) (hk : k ≤ l.length) : l.drop (k + x.length) = r ∧ k + x.length ≤ l.length := by
  refine ⟨by rw [← List.drop_drop, h, List.drop_left], ?_⟩
  have := congrArg List.length h
  simp only [List.length_drop, List.length_append] at this
  omega
theorem goodS_lt : ∀ {l : List Ser} {last : Int}, goodS last l → ∀ x ∈ l, last < x.ID ∧ x.ID < 200 ∧ Fine x.L ∧ x.L ≠ []
  | [], _, _, x, hx => by cases hx
  | y :: l, last, h, x, hx => by
    obtain ⟨h1, h2, h3, h4, h5⟩ := h
    rcases List.mem_cons.1 hx with rfl | hx
    · exact ⟨h3, h4, h1, h2⟩
    · obtain ⟨g1, g2⟩ := goodS_lt h5 x hx
      exact ⟨by omega, g2⟩
theorem goodS_len : ∀ {l : List Ser} {last : Int}, goodS last l → (l.length : Int) + last < 200 ∨ l = []
  | [], _, _ => .inr rfl
  | y :: l, last, h => by
    obtain ⟨h1, h2, h3, h4, h5⟩ := h
    rcases goodS_len h5 with g | rfl
    · left; simp only [List.length_cons]; omega
    · left; simp; omega
/-- entries are read back -/
theorem ents_back {l : List UInt8} : ∀ (s : List Ser) (a : Nat) (last : Int) (r : List UInt8), goodS last s → -1 ≤ last → (∀ x ∈ s, (encB x.L).length ≤ l.length) → l.length < 18446744073709551616 → a ≤ l.length → l.drop a = headS s ++ r →
    entsR l s.length a last = some (entsOf s, ((a + (headS s).length : Nat) : Int))
  | [], a, last, r, _, _, _, _, _, _ => by simp [entsR, entsOf, headS]
  | x :: s, a, last, r, hg, hl, hb, hll, ha, h => by
    obtain ⟨h1, h2, h3, h4, h5⟩ := hg
    have hs : headS (x :: s) = uint x.ID.toNat ++ (uint (encB x.L).length ++ headS s) := by simp [headS]
    have hbx := hb x (List.mem_cons_self ..)
    rw [hs, List.append_assoc, List.append_assoc] at h
    have g1 := getAt_uint (by omega) ha h
    obtain ⟨d1, k1⟩ := drop_past h ha
    have g2 := getAt_uint (by omega) k1 d1
    obtain ⟨d2, k2⟩ := drop_past d1 k1
    have hn := ents_back s (a + (uint x.ID.toNat).length + (uint (encB x.L).length).length) x.ID r h5 (by omega) (fun y hy => hb y (List.mem_cons_of_mem _ hy)) hll k2 d2
    have hx : entR l a last = some (x.ID.toNat, (encB x.L).length, ((a + (uint x.ID.toNat).length + (uint (encB x.L).length).length : Nat) : Int)) := by
      unfold entR
      simp only [g1, g2]
      rw [if_pos ⟨trivial, trivial, by omega, by omega, hbx⟩]
    simp only [List.length_cons, entsR, hx]
    rw [show ((x.ID.toNat : Nat) : Int) = x.ID by omega, hn]
    simp only [Option.map_some, Option.some.injEq, Prod.mk.injEq]
    refine ⟨by simp [entsOf], by rw [hs]; simp only [List.length_append]; omega⟩
theorem cut_back : ∀ (s : List Ser), cutE (entsOf s) (bodyS s) = partsOf s ∧ sumE (entsOf s) = (bodyS s).length
  | [] => ⟨rfl, rfl⟩
  | x :: s => by
    obtain ⟨h1, h2⟩ := cut_back s
    have hs : bodyS (x :: s) = encB x.L ++ bodyS s := by simp [bodyS]
    rw [hs]
    unfold sumE at h2 ⊢
    refine ⟨?_, ?_⟩
    · simp only [entsOf, List.map_cons, cutE]
      rw [List.drop_left, List.take_left]
      rw [show (s.map fun x => (x.ID.toNat, (encB x.L).length)) = entsOf s from rfl, h1]
      rfl
    · simp only [entsOf, List.map_cons, List.sum_cons, List.length_append]
      rw [show (s.map fun x => (x.ID.toNat, (encB x.L).length)) = entsOf s from rfl, h2]
theorem table_back {s : List Ser} (hg : goodS (-1) s) (hll : (encS s).length < 18446744073709551616) : tableR (encS s) = some (partsOf s) := by
  have hlen : s.length ≤ 200 := by
    rcases goodS_len hg with h | rfl
    · omega
    · simp
  have hE : (encS s).drop 0 = uint s.length ++ (headS s ++ bodyS s) := by rw [List.drop_zero]; unfold encS; rw [List.append_assoc]
  have g1 := getAt_uint (by omega) (Nat.zero_le _) hE
  obtain ⟨d1, k1⟩ := drop_past hE (Nat.zero_le _)
  have hb : ∀ x ∈ s, (encB x.L).length ≤ (encS s).length := fun x hx => by
    obtain ⟨p, q, e⟩ := List.append_of_mem hx
    unfold encS bodyS
    rw [e]
    simp only [List.flatMap_append, List.flatMap_cons, List.length_append]
    omega
  have hh := ents_back s (0 + (uint s.length).length) (-1) _ hg (by omega) hb hll k1 d1
  obtain ⟨d2, k2⟩ := drop_past d1 k1
  unfold tableR
  rw [show ((0 : Int)) = ((0 : Nat) : Int) from rfl, g1]
  rw [if_neg (by simp only; omega)]
  simp only
  rw [hh]
  simp only
  obtain ⟨c1, c2⟩ := cut_back s
  rw [c2, Int.toNat_natCast, d2, c1]
  rw [if_pos]
  have := congrArg List.length d2
  simp only [List.length_drop] at this
  omega

/-! what is read is just what was written -/

def headE (es : List (Nat × Nat)) : List UInt8 := es.flatMap fun e => uint e.1 ++ uint e.2
def goodE (last : Int) : List (Nat × Nat) → Prop
  | [] => True
  | e :: es => last < e.1 ∧ e.1 < 200 ∧ goodE e.1 es
theorem ents_sound {l : List UInt8} : ∀ (k : Nat) (a : Nat) (last : Int) (es : List (Nat × Nat)) (a' : Int), entsR l k a last = some (es, a') → a ≤ l.length →
    goodE last es ∧ es.length = k ∧ a' = ((a + (headE es).length : Nat) : Int) ∧ a + (headE es).length ≤ l.length ∧ l.drop a = headE es ++ l.drop (a + (headE es).length) := by
  intro k
  induction k with
  | zero =>
    intro a last es a' h ha
    simp only [entsR, Option.some.injEq, Prod.mk.injEq] at h
    obtain ⟨rfl, rfl⟩ := h
    exact ⟨trivial, rfl, by simp [headE], by simp [headE]; exact ha, by simp [headE]⟩
  | succ k ih =>
    intro a last es a' h ha
    simp only [entsR] at h
    split at h
    · cases h
    · rename_i x hx
      simp only [Option.map_eq_some_iff] at h
      obtain ⟨r', hr', e⟩ := h
      obtain ⟨rfl, rfl⟩ := Prod.mk.inj e
      unfold entR at hx
      split at hx
      · rename_i hc
        obtain ⟨c1, c2, c3, c4, c5⟩ := hc
        rcases getAt_cases l a with ⟨e, h1, he⟩ | ⟨k1, m1, r1, e1, q1, q2, q3, q4, q5⟩
        · rw [h1] at c1; simp only at c1; omega
        · obtain rfl : a = k1 := by omega
          simp only [q4] at c2 c3 c4 c5 hx
          rcases getAt_cases l ((a + (uint m1).length : Nat) : Int) with ⟨e, h1, he⟩ | ⟨k2, m2, r2, e2, p1, p2, p3, p4, p5⟩
          · rw [h1] at c2; simp only at c2; omega
          · obtain rfl : a + (uint m1).length = k2 := by omega
            simp only [p4] at c5 hx
            cases hx
            obtain ⟨g1, g2, g3, g4, g5⟩ := ih _ _ _ _ hr' p5
            obtain ⟨d1, -⟩ := drop_past q3 q1
            obtain ⟨d2, -⟩ := drop_past p3 p1
            have hs : headE ((m1, m2) :: r'.1) = uint m1 ++ (uint m2 ++ headE r'.1) := by simp [headE]
            simp only
            rw [hs]
            simp only [List.length_append]
            refine ⟨⟨c4, c3, g1⟩, by simp [g2], by rw [g3]; omega, by omega, ?_⟩
            rw [q3, ← d1, p3, ← d2, g5]
            simp only [List.append_assoc]
            congr 3
            congr 1
            omega
      · cases hx
theorem cut_sound : ∀ (es : List (Nat × Nat)) (t : List UInt8), sumE es = t.length → (cutE es t).flatMap (fun p => p.2) = t ∧ (cutE es t).map (fun p => (p.1, p.2.length)) = es
  | [], t, h => by
    have : t = [] := List.eq_nil_of_length_eq_zero (by simpa [sumE] using h.symm)
    subst this
    exact ⟨rfl, rfl⟩
  | e :: es, t, h => by
    have hs : sumE (e :: es) = e.2 + sumE es := by simp [sumE]
    rw [hs] at h
    obtain ⟨h1, h2⟩ := cut_sound es (t.drop e.2) (by rw [List.length_drop]; omega)
    refine ⟨?_, ?_⟩
    · simp only [cutE, List.flatMap_cons]
      rw [h1, List.take_append_drop]
    · simp only [cutE, List.map_cons, h2, List.length_take]
      rw [Nat.min_eq_left (by omega)]
theorem ser_sound : ∀ (ps : List (Nat × List UInt8)) (s : List Ser), serT ps = some s → partsOf s = ps ∧ ∀ x ∈ s, 0 ≤ x.ID ∧ Fine x.L ∧ x.L ≠ [] ∧ (∀ y ∈ x.L, Sample.ok y) ∧ x.L.length ≤ 5000
  | [], s, h => by
    simp only [serT, Option.some.injEq] at h
    subst h
    exact ⟨rfl, fun x hx => by cases hx⟩
  | p :: ps, s, h => by
    simp only [serT] at h
    split at h
    · cases h
    · rename_i L hL
      simp only [Option.map_eq_some_iff] at h
      obtain ⟨r, hr, rfl⟩ := h
      obtain ⟨h1, h2⟩ := ser_sound ps r hr
      unfold partR at hL
      split at hL
      · rename_i hc
        cases hL
        obtain ⟨g1, g2, g3, g4, -⟩ := decL_ok p.2
        refine ⟨?_, fun x hx => ?_⟩
        · unfold partsOf at h1 ⊢
          rw [List.map_cons, h1, g4 hc.1]
          simp
        · rcases List.mem_cons.1 hx with rfl | hx
          · exact ⟨by simp, g1, hc.2, g2, g3⟩
          · exact h2 x hx
      · cases hL
theorem goodE_S : ∀ (s : List Ser) (last : Int), (∀ x ∈ s, 0 ≤ x.ID ∧ Fine x.L ∧ x.L ≠ []) → goodE last (entsOf s) → goodS last s
  | [], _, _, _ => trivial
  | x :: s, last, h, hg => by
    obtain ⟨h0, h1, h2⟩ := h x (List.mem_cons_self ..)
    obtain ⟨g1, g2, g3⟩ := hg
    simp only at g1 g2 g3
    have e : ((x.ID.toNat : Nat) : Int) = x.ID := by omega
    rw [e] at g1 g3
    exact ⟨h1, h2, g1, by omega, goodE_S s _ (fun y hy => h y (List.mem_cons_of_mem _ hy)) g3⟩
/-- bytes that are series are just their bytes -/
theorem dec_sound {l : List UInt8} {ps : List (Nat × List UInt8)} {s : List Ser} (ht : tableR l = some ps) (hs : serT ps = some s) : encS s = l ∧ goodS (-1) s ∧ (∀ x ∈ s, (∀ y ∈ x.L, Sample.ok y) ∧ x.L.length ≤ 5000) := by
  obtain ⟨h1, h2⟩ := ser_sound ps s hs
  unfold tableR at ht
  split at ht
  · cases ht
  · rename_i hn
    split at ht
    · cases ht
    · rename_i r hr
      split at ht
      · rename_i hsum
        simp only [Option.some.injEq] at ht
        rcases getAt_cases l 0 with ⟨e, h3, he⟩ | ⟨k, m, r0, e1, q1, q2, q3, q4, q5⟩
        · rw [h3] at hn; simp only at hn; omega
        · obtain rfl : k = 0 := by omega
          rw [q4] at hn hr
          simp only at hn hr
          obtain ⟨es, a'⟩ := r
          obtain ⟨g1, g2, g3, g4, g5⟩ := ents_sound _ _ _ _ _ hr (by omega)
          simp only at hsum ht
          rw [g3, Int.toNat_natCast] at ht
          have hsum2 : sumE es = (l.drop (0 + (uint m).length + (headE es).length)).length := by
            rw [g3] at hsum
            rw [List.length_drop]
            omega
          obtain ⟨f1, f2⟩ := cut_sound es _ hsum2
          rw [ht] at f1 f2
          rw [← h1] at f1 f2
          have hes : entsOf s = es := by
            rw [← f2]
            unfold partsOf entsOf
            simp
          have hbs : bodyS s = l.drop (0 + (uint m).length + (headE es).length) := by
            rw [← f1]
            unfold partsOf bodyS
            rw [List.flatMap_map]
          have hhs : headS s = headE es := by
            rw [← hes]
            unfold headS headE entsOf
            rw [List.flatMap_map]
          have hlen : s.length = m := by rw [← g2, ← hes]; simp [entsOf]
          obtain ⟨d1, -⟩ := drop_past q3 q1
          refine ⟨?_, goodE_S s _ (fun x hx => ⟨(h2 x hx).1, (h2 x hx).2.1, (h2 x hx).2.2.1⟩) (by rw [hes]; exact g1), fun x hx => (h2 x hx).2.2.2⟩
          unfold encS
          rw [hlen, hhs, hbs, List.append_assoc, ← g5, d1]
          rw [List.drop_zero] at q3
          exact q3.symm
      · cases ht
/-- series that are encoded are decoded -/
theorem ser_back : ∀ (s : List Ser) (last : Int), goodS last s → -1 ≤ last → (∀ x ∈ s, (∀ y ∈ x.L, Sample.ok y) ∧ x.L.length ≤ 5000) → serT (partsOf s) = some s
  | [], _, _, _, _ => rfl
  | x :: s, last, h, hl, ho => by
    obtain ⟨h1, h2, h3, h4, h5⟩ := h
    obtain ⟨o1, o2⟩ := ho x (List.mem_cons_self ..)
    obtain ⟨d1, d2⟩ := dec_enc h1 o1 o2
    have hn := ser_back s x.ID h5 (by omega) fun y hy => ho y (List.mem_cons_of_mem _ hy)
    have hp : partR (encB x.L) = some x.L := by
      unfold partR
      rw [d1, d2, if_pos ⟨rfl, h2⟩]
    simp only [partsOf, List.map_cons, serT, hp]
    rw [show (s.map fun x => (x.ID.toNat, encB x.L)) = partsOf s from rfl, hn]
    simp only [Option.map_some, Option.some.injEq, List.cons.injEq, and_true]
    obtain ⟨I, L⟩ := x
    simp only at h3 ⊢
    congr 1
    omega
end Go.Proofs.Ytmafdbdmmfpeeaa
