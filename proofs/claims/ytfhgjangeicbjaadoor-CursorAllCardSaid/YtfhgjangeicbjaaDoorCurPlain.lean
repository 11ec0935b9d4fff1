/-
  Plain Lean: a cursor's token.
-/
import Derived.Test.YtfhgjangeicbjaaDoorHexPlain
import Derived.Test.YtfhgjangeicbjaaDoorScanPlain
import Derived.Test.YtfhgjangeicbjaaDoorCursorA
namespace Go.Proofs.YtfhgjangeicbjaaDoor

/-- may a cursor be? -/
def rightB (c : Cur) : Bool := decide (c.Q.size ≤ 1024) && ((c.ID == -1 && c.T == 0) || (decide (0 ≤ c.ID) && decide (c.ID < 200) && decide (0 ≤ c.T) && decide (c.T < 1099511627776)))

theorem rightB_iff (c : Cur) : rightB c = true ↔ c.Q.size ≤ 1024 ∧ ((c.ID = -1 ∧ c.T = 0) ∨ (0 ≤ c.ID ∧ c.ID < 200 ∧ 0 ≤ c.T ∧ c.T < 1099511627776)) := by
  simp [rightB, and_assoc]

theorem rightB_bounds {c : Cur} (h : rightB c = true) : c.Q.size ≤ 1024 ∧ -1 ≤ c.ID ∧ c.ID < 200 ∧ 0 ≤ c.T ∧ c.T < 1099511627776 := by
  have := (rightB_iff c).1 h
  omega

/-- what a token has in its frame -/
def body (c : Cur) : List UInt8 := text c.Q.data.toList ++ uint c.T.toNat ++ uint (c.ID + 1).toNat
/-- a cursor's token -/
def token (c : Cur) : List UInt8 := hex (frame (body c))

theorem body_length {c : Cur} (h : rightB c = true) : (body c).length ≤ 1054 := by
  have hb := rightB_bounds h
  have h1 := uint_len_ten (n := c.T.toNat) (by omega)
  have h2 := uint_len_ten (n := (c.ID + 1).toNat) (by omega)
  have h3 := uint_len_ten (n := c.Q.data.toList.length) (by rw [← Lib.size_eq]; omega)
  have h4 := Lib.size_eq c.Q
  simp only [body, text, List.length_append]
  omega

theorem body_inj {a b : Cur} (ha : rightB a = true) (hb : rightB b = true) (h : body a = body b) : a = b := by
  have h1 := rightB_bounds ha
  have h2 := rightB_bounds hb
  unfold body at h
  rw [List.append_assoc, List.append_assoc] at h
  obtain ⟨e1, h⟩ := text_append_inj (by rw [← Lib.size_eq]; omega) (by rw [← Lib.size_eq]; omega) h
  obtain ⟨e2, h⟩ := uint_append_inj (by omega) (by omega) h
  obtain ⟨e3, _⟩ := uint_append_inj (a := (a.ID + 1).toNat) (b := (b.ID + 1).toNat) (x := []) (y := []) (by omega) (by omega) (by simpa using h)
  have e1' : a.Q = b.Q := by rw [← S_data a.Q, ← S_data b.Q, e1]
  obtain ⟨q, t, i⟩ := a
  obtain ⟨q', t', i'⟩ := b
  simp only at *
  simp only [Cur.mk.injEq]
  exact ⟨e1', by omega, by omega⟩

theorem token_inj {a b : Cur} (ha : rightB a = true) (hb : rightB b = true) (h : token a = token b) : a = b := by
  have h1 := body_length ha
  have h2 := body_length hb
  have := (frame_append_inj (a := body a) (b := body b) (x := []) (y := []) (by omega) (by omega) (by simpa using hex_inj' h)).1
  exact body_inj ha hb this

theorem token_len {c : Cur} (h : rightB c = true) : 12 ≤ (token c).length ∧ (token c).length ≤ 2132 := by
  have h1 := body_length h
  have h2 := uint_len_ten (n := (body c).length) (by omega)
  have h3 := uint_pos (body c).length
  have h4 := uint_pos c.Q.data.toList.length
  have h5 := uint_pos c.T.toNat
  have h6 := uint_pos (c.ID + 1).toNat
  have h7 : 3 ≤ (body c).length := by simp only [body, text, List.length_append]; omega
  simp only [token, hex_length, frame, text, sumBytes, List.length_append, List.length_cons, List.length_nil]
  omega
end Go.Proofs.YtfhgjangeicbjaaDoor
