/-
  Plain Lean: what a token is read as.
-/
import Derived.Test.YtfhgjangeicbjaaDoorCurPlain
namespace Go.Proofs.YtfhgjangeicbjaaDoor

/-- what a decoder answers -/
def decVal : Option Cur → Value
  | some c => .tuple #[curVal c, .int .i64 0]
  | none => .tuple #[.agg #[.string ⟨#[]⟩, .int .i64 0, .int .i64 0], .int .i64 200]

/-- the answer is right -/
def DecOf (l : List UInt8) : Option Cur → Prop
  | some c => rightB c = true ∧ l = token c
  | none => ∀ c, rightB c = true → l ≠ token c

theorem decOf_fun {l : List UInt8} {a b : Option Cur} (ha : DecOf l a) (hb : DecOf l b) : a = b := by
  cases a with
  | none => cases b with
    | none => rfl
    | some d => exact absurd hb.2 (ha d hb.1)
  | some c => cases b with
    | none => exact absurd ha.2 (hb c ha.1)
    | some d => rw [token_inj ha.1 hb.1 (ha.2.symm.trans hb.2)]

theorem decOf_token {c : Cur} (h : rightB c = true) : DecOf (token c) (some c) := ⟨h, rfl⟩
theorem decOf_is {l : List UInt8} {r : Option Cur} {c : Cur} (h : rightB c = true) (hl : l = token c) (hr : DecOf l r) : r = some c := by
  subst hl; exact decOf_fun hr (decOf_token h)

/-- of digits that are none there is no token -/
theorem dec_nodigits {l : List UInt8} (h : ∀ m, hex m ≠ l) : DecOf l none := fun _ _ e => h _ e.symm

theorem scanned_body {l : List UInt8} {ts : List (List UInt8)} {c : Cur} (hl : l.length < 18446744073709551616) (hs : Scanned l ts) (he : hex l = token c) : ts = [body c] ∧ l = frame (body c) := by
  have e := hex_inj' he
  refine ⟨scanned_inj _ _ _ hl hs ⟨[], by simpa using e, ?_⟩, e⟩
  intro t r h
  have := congrArg List.length h
  have h2 := frame_len_pos t
  simp only [List.length_nil, List.length_append] at this
  omega

theorem dec_frames {l : List UInt8} {ts : List (List UInt8)} (hl : l.length < 18446744073709551616) (hs : Scanned l ts) (hn : ts.length ≠ 1) : DecOf (hex l) none := fun c _ he => by
  have := (scanned_body hl hs he).1
  subst this
  exact hn rfl
theorem dec_rest {l : List UInt8} {ts : List (List UInt8)} (hl : l.length < 18446744073709551616) (hs : Scanned l ts) (hn : (ts.flatMap frame).length ≠ l.length) : DecOf (hex l) none := fun c _ he => by
  obtain ⟨e, e2⟩ := scanned_body hl hs he
  subst e
  rw [e2] at hn
  exact hn (by simp)
theorem frame_one {l t : List UInt8} (hs : Scanned l [t]) (hn : ([t].flatMap frame).length = l.length) : l = frame t := by
  obtain ⟨r, e, _⟩ := hs
  have e2 := congrArg List.length e
  rw [List.length_append, hn] at e2
  have : r = [] := List.eq_nil_of_length_eq_zero (by omega)
  rw [e, this]; simp

/-- a token's parts are read -/
theorem body_reads {c : Cur} (h : rightB c = true) : ∃ a1 a2 : Int, getTextAt (body c) 0 = (c.Q.data.toList, a1, 0) ∧ getAt (body c) a1 = (c.T.toNat, a2, 0) ∧ getAt (body c) a2 = ((c.ID + 1).toNat, ((body c).length : Int), 0) := by
  have hb := rightB_bounds h
  have h4 := Lib.size_eq c.Q
  have e1 := getTextAt_text (p := []) (t := c.Q.data.toList) (r := uint c.T.toNat ++ uint (c.ID + 1).toNat) (by omega)
  have e2 := getAt_uint (p := text c.Q.data.toList) (n := c.T.toNat) (r := uint (c.ID + 1).toNat) (by omega)
  have e3 := getAt_uint (p := text c.Q.data.toList ++ uint c.T.toNat) (n := (c.ID + 1).toNat) (r := []) (by omega)
  have b1 : body c = [] ++ (text c.Q.data.toList ++ (uint c.T.toNat ++ uint (c.ID + 1).toNat)) := by simp [body]
  have b2 : body c = text c.Q.data.toList ++ (uint c.T.toNat ++ uint (c.ID + 1).toNat) := by simp [body]
  have b3 : body c = text c.Q.data.toList ++ uint c.T.toNat ++ (uint (c.ID + 1).toNat ++ []) := by simp [body]
  rw [← b1] at e1
  rw [← b2] at e2
  rw [← b3] at e3
  have l3 : (body c).length = (text c.Q.data.toList ++ uint c.T.toNat).length + (uint (c.ID + 1).toNat).length := by rw [b3]; simp; omega
  rw [← l3] at e3
  rw [← List.length_append] at e2
  exact ⟨_, _, by simpa using e1, e2, e3⟩

/-- what is no token's body -/
def NoBody (t : List UInt8) : Prop := ∀ c, rightB c = true → t ≠ body c
theorem dec_nobody {t : List UInt8} (hl : t.length < 18446744073709551616) (h : NoBody t) : DecOf (hex (frame t)) none := fun c hr he => by
  have hb := body_length hr
  exact h c hr (frame_append_inj (a := t) (b := body c) (x := []) (y := []) hl (by omega) (by simpa using hex_inj' he)).1

theorem nobody_text {t q : List UInt8} {a : Int} {e : Nat} (h : getTextAt t 0 = (q, a, e)) (he : e ≠ 0) : NoBody t := fun c hr hb => by
  subst hb
  obtain ⟨a1, a2, e1, _⟩ := body_reads hr
  rw [e1] at h
  simp only [Prod.mk.injEq] at h
  exact he h.2.2.symm
theorem nobody_uint {t q : List UInt8} {a a' : Int} {v e : Nat} (h : getTextAt t 0 = (q, a, 0)) (h1 : getAt t a = (v, a', e)) (he : e ≠ 0 ∨ 1099511627776 ≤ v) : NoBody t := fun c hr hb => by
  subst hb
  obtain ⟨a1, a2, e1, e2, _⟩ := body_reads hr
  have hB := rightB_bounds hr
  rw [e1] at h
  simp only [Prod.mk.injEq, and_true] at h
  rw [← h.2, e2] at h1
  simp only [Prod.mk.injEq] at h1
  omega
theorem nobody_last {t q : List UInt8} {a a' a'' : Int} {v u e : Nat} (h : getTextAt t 0 = (q, a, 0)) (h1 : getAt t a = (v, a', 0)) (h2 : getAt t a' = (u, a'', e)) (he : e ≠ 0 ∨ a'' ≠ (t.length : Int) ∨ 200 < u ∨ rightB ⟨S q, v, (u : Int) - 1⟩ = false) : NoBody t := fun c hr hb => by
  subst hb
  obtain ⟨a1, a2, e1, e2, e3⟩ := body_reads hr
  have hB := rightB_bounds hr
  rw [e1] at h
  simp only [Prod.mk.injEq, and_true] at h
  rw [← h.2, e2] at h1
  simp only [Prod.mk.injEq, and_true] at h1
  rw [← h1.2, e3] at h2
  simp only [Prod.mk.injEq] at h2
  rcases he with he | he | he | he
  · exact he h2.2.2.symm
  · exact he h2.2.1.symm
  · omega
  · rw [← h.1, S_data, ← h1.1, ← h2.1] at he
    have e4 : ((c.T.toNat : Nat) : Int) = c.T := by omega
    have e5 : (((c.ID + 1).toNat : Nat) : Int) - 1 = c.ID := by omega
    rw [e4, e5] at he
    exact absurd hr (by rw [show c = ⟨c.Q, c.T, c.ID⟩ from rfl, he]; decide)

theorem body_is {t q : List UInt8} {a a' : Int} {v u : Nat} (hl : t.length < 18446744073709551616) (h : getTextAt t 0 = (q, a, 0)) (h1 : getAt t a = (v, a', 0)) (h2 : getAt t a' = (u, (t.length : Int), 0)) : t = body ⟨S q, v, (u : Int) - 1⟩ := by
  rcases getTextAt_cases (l := t) (k := 0) (by omega) hl with ⟨e, h', he, _⟩ | ⟨q', r, h', hd⟩
  · rw [show ((0 : Nat) : Int) = 0 from rfl, h] at h'
    simp only [Prod.mk.injEq] at h'
    omega
  · rw [show ((0 : Nat) : Int) = 0 from rfl, h] at h'
    simp only [Prod.mk.injEq, and_true, List.drop_zero, Nat.zero_add] at h' hd
    obtain ⟨rfl, rfl⟩ := h'
    rcases getAt_cases t ((text q).length : Nat) with ⟨e, h', he⟩ | ⟨k, m, r', hk, hkl, hm, hd', h', hkm⟩
    · rw [h1] at h'
      simp only [Prod.mk.injEq] at h'
      omega
    · rw [h1] at h'
      simp only [Prod.mk.injEq, and_true] at h'
      obtain ⟨rfl, rfl⟩ := h'
      obtain rfl : (text q).length = k := by omega
      rcases getAt_cases t (((text q).length + (uint v).length : Nat) : Int) with ⟨e, h', he⟩ | ⟨k', m', r'', hk', hkl', hm', hd'', h', hkm'⟩
      · rw [h2] at h'
        simp only [Prod.mk.injEq] at h'
        omega
      · rw [h2] at h'
        simp only [Prod.mk.injEq, and_true] at h'
        obtain ⟨rfl, he⟩ := h'
        obtain rfl : (text q).length + (uint v).length = k' := by omega
        have hr : r = uint v ++ r' := by rw [← hd', hd, List.drop_left]
        have hr' : r' = uint u ++ r'' := by
          rw [← hd'', ← List.drop_drop, hd', List.drop_left]
        have hr'' : r'' = [] := by
          apply List.eq_nil_of_length_eq_zero
          have := congrArg List.length hd
          rw [hr, hr', List.length_append, List.length_append, List.length_append] at this
          omega
        rw [hd, hr, hr', hr'']
        simp [body, S_toList]
end Go.Proofs.YtfhgjangeicbjaaDoor
