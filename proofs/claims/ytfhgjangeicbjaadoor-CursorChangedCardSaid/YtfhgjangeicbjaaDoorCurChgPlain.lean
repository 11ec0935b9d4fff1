/-
  Plain Lean: a token of which one digit is another one.
-/
import Derived.Test.YtfhgjangeicbjaaDoorLawFrameC
import Derived.Test.YtfhgjangeicbjaaDoorCurEq
namespace Go.Proofs.YtfhgjangeicbjaaDoor

theorem hex_take : ∀ (l : List UInt8) (j : Nat), hex (l.take j) = (hex l).take (2 * j) := by
  intro l
  induction l with
  | nil => intro j; simp [hex]
  | cons x l ih =>
    intro j
    cases j with
    | zero => simp [hex]
    | succ j => rw [show 2 * (j + 1) = 2 * j + 1 + 1 by omega]; simp [hex, ih]
theorem hex_drop : ∀ (l : List UInt8) (j : Nat), hex (l.drop j) = (hex l).drop (2 * j) := by
  intro l
  induction l with
  | nil => intro j; simp [hex]
  | cons x l ih =>
    intro j
    cases j with
    | zero => simp
    | succ j => rw [show 2 * (j + 1) = 2 * j + 1 + 1 by omega]; simp [hex, ih]

theorem body_small {c : Cur} (h : rightB c = true) (hq : c.Q.size ≤ 100) : (body c).length ≤ 121 := by
  have hb := rightB_bounds h
  have h1 := uint_len_ten (n := c.T.toNat) (by omega)
  have h2 := uint_len_ten (n := (c.ID + 1).toNat) (by omega)
  have h4 := Lib.size_eq c.Q
  have h3 : (uint c.Q.data.toList.length).length = 1 := by rw [uint_small (by omega)]; rfl
  simp only [body, text, List.length_append]
  omega

theorem token_changed {c : Cur} (hr : rightB c = true) (hq : c.Q.size ≤ 100) {k E : Nat} (hk6 : 6 ≤ k) (hk : k < (token c).length) (hE : hexd E ≠ (token c)[k]) :
    DecOf ((token c).take k ++ hexd E :: (token c).drop (k + 1)) none := fun c' hr' he => by
  have hbl := body_small hr hq
  have hl := hex_length (frame (body c))
  have hl' := hex_length (frame (body c'))
  have hlen := congrArg List.length he
  unfold token at he hk hE hlen
  rw [List.length_append, List.length_cons, List.length_take, List.length_drop] at hlen
  have hff : (frame (body c')).length = (frame (body c)).length := by omega
  obtain ⟨j, hj⟩ : ∃ j, j = k / 2 := ⟨_, rfl⟩
  have hjf : j < (frame (body c)).length := by omega
  have t1 : (frame (body c')).take j = (frame (body c)).take j := by
    apply hex_inj'
    rw [hex_take, hex_take, ← he, List.take_append_of_le_length (by rw [List.length_take]; omega), List.take_take, Nat.min_eq_left (by omega)]
  have t2 : (frame (body c')).drop (j + 1) = (frame (body c)).drop (j + 1) := by
    apply hex_inj'
    rw [hex_drop, hex_drop, ← he]
    have e : (hex (frame (body c))).take k ++ hexd E :: (hex (frame (body c))).drop (k + 1) = ((hex (frame (body c))).take k ++ [hexd E]) ++ (hex (frame (body c))).drop (k + 1) := by simp
    have e2 : ((hex (frame (body c))).take k ++ [hexd E]).length = k + 1 := by rw [List.length_append, List.length_take]; simp; omega
    obtain ⟨m, hm⟩ : ∃ m, 2 * (j + 1) = (k + 1) + m := ⟨2 * (j + 1) - (k + 1), by omega⟩
    have d : ∀ x : List UInt8, x.drop (k + 1 + m) = (x.drop (k + 1)).drop m := fun x => by rw [List.drop_drop]
    rw [e, hm, d, d, List.drop_left' e2]
  have hjf' : j < (frame (body c')).length := by omega
  have t3 : frame (body c') = (frame (body c)).take j ++ (frame (body c'))[j] :: (frame (body c)).drop (j + 1) := by
    rw [← t1, ← t2]
    exact (changed_back hjf').symm
  have hne : (frame (body c'))[j] ≠ (frame (body c))[j] := by
    intro e
    rw [e, changed_back hjf] at t3
    rw [t3] at he
    have := congrArg (fun l => l[k]?) he
    rw [List.getElem?_append_right (by rw [List.length_take]; omega), List.length_take, Nat.min_eq_left (by omega), Nat.sub_self, List.getElem?_cons_zero, List.getElem?_eq_getElem hk] at this
    exact hE (Option.some.inj this)
  have hu : (uint (body c).length).length = 1 := by rw [uint_small (by omega)]; rfl
  have hfl : (frame (body c)).length = 1 + (body c).length + 2 := by simp [frame, text, sumBytes, hu]; omega
  have hno := changed_frame (s := body c) (M := j - 1) (c := (frame (body c'))[j]) (k := j) (by omega) (by omega) (by omega) hjf hne
  rw [← t3] at hno
  exact hno (body c') [] (by simp)

/-- a digit's place among the digits, as far as one has looked -/
def wasAt (D i : Nat) : Nat := if D < i then D else 0
theorem wasAt_next {D i : Nat} (h : i ≠ D) : wasAt D (i + 1) = wasAt D i := by
  unfold wasAt; split <;> split <;> omega
theorem wasAt_found (D : Nat) : wasAt D (D + 1) = D := by unfold wasAt; rw [if_pos (by omega)]
theorem hexd_inj {a b : Nat} (ha : a < 16) (hb : b < 16) (h : hexd a = hexd b) : a = b := by
  rw [← dig_hexd ha, h, dig_hexd hb]
end Go.Proofs.YtfhgjangeicbjaaDoor
