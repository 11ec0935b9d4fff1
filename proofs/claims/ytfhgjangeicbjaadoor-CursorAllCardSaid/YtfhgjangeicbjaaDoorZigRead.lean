/-
  The walks of what reads integers and texts, of the program and of the document.
-/
import Derived.Test.YtfhgjangeicbjaaDoorZigRGet
namespace Go.Proofs.YtfhgjangeicbjaaDoor
open Go Go.RowKit

theorem getUint_any (s : ByteArray) (a : Int) (w : World) (hs : s.size < 1099511627776) :
    Calls Tryd.prog 27 #[.string s, .int .i64 a] w fun e w' => e = .returned (.tuple #[.int .u64 (getAt s.data.toList a).1, .int .i64 (getAt s.data.toList a).2.1, .int .i64 (getAt s.data.toList a).2.2]) ∧ w = w' := by
  by_cases h0 : a < 0
  · have Hr := Lib.hid (getAt_out (l := s.data.toList) (.inl h0))
    go_enter Tryd.func27, Tryd.ntmps27
    go_wp2_with fail
    go_ret3
    exact ⟨by rw [Hr.out]; rfl, rfl⟩
  · by_cases h1 : (s.size : Int) < a
    · have Hr := Lib.hid (getAt_out (l := s.data.toList) (.inr (by rw [← Lib.size_eq]; exact h1)))
      go_enter Tryd.func27, Tryd.ntmps27
      go_wp2_with fail
      go_ret3
      exact ⟨by rw [Hr.out]; rfl, rfl⟩
    · obtain ⟨k, rfl⟩ := Int.eq_ofNat_of_zero_le (by omega : 0 ≤ a)
      exact getUint_in s k w hs (by omega)

theorem rgetUint_any (s : ByteArray) (a : Int) (w : World) (hs : s.size < 1099511627776) :
    Calls Tryd.prog 31 #[.string s, .int .i64 a] w fun e w' => e = .returned (.tuple #[.int .u64 (getAt s.data.toList a).1, .int .i64 (getAt s.data.toList a).2.1, .int .i64 (getAt s.data.toList a).2.2]) ∧ Below w.heap.size w w' := by
  by_cases h0 : a < 0
  · have Hr := Lib.hid (getAt_out (l := s.data.toList) (.inl h0))
    go_enter Tryd.func31, Tryd.ntmps31
    go_wp2_with fail
    go_ret3
    exact ⟨by rw [Hr.out]; rfl, Below.refl _ _⟩
  · by_cases h1 : (s.size : Int) < a
    · have Hr := Lib.hid (getAt_out (l := s.data.toList) (.inr (by rw [← Lib.size_eq]; exact h1)))
      go_enter Tryd.func31, Tryd.ntmps31
      go_wp2_with fail
      go_ret3
      exact ⟨by rw [Hr.out]; rfl, Below.refl _ _⟩
    · obtain ⟨k, rfl⟩ := Int.eq_ofNat_of_zero_le (by omega : 0 ≤ a)
      exact rgetUint_in s k w hs (by omega)

/-- what an error leaves; what a number that is read is -/
theorem getAt_cases (l : List UInt8) (a : Int) : (∃ e, getAt l a = (0, 0, e) ∧ (e = 1 ∨ e = 10 ∨ e = 11)) ∨
    ∃ (k m : Nat) (r : List UInt8), a = k ∧ k ≤ l.length ∧ m < 18446744073709551616 ∧ l.drop k = uint m ++ r ∧ getAt l a = (m, ((k + (uint m).length : Nat) : Int), 0) ∧ k + (uint m).length ≤ l.length := by
  by_cases h : a < 0 ∨ (l.length : Int) < a
  · exact .inl ⟨1, getAt_out h, .inl rfl⟩
  · obtain ⟨k, rfl⟩ := Int.eq_ofNat_of_zero_le (by omega : 0 ≤ a)
    have hk : k ≤ l.length := by omega
    rcases get0_cases (l.drop k) with ⟨m, n, h'⟩ | h' | h'
    · obtain ⟨r, e1, e2, e3⟩ := get0_sound h'
      refine .inr ⟨k, m, r, rfl, hk, e3, e1, by rw [getAt_of h' hk, e2]; simp, ?_⟩
      have := congrArg List.length e1
      simp only [List.length_drop, List.length_append] at this
      have := uint_pos m
      omega
    · exact .inl ⟨10, getAt_of_err h' (by decide) hk, .inr (.inl rfl)⟩
    · exact .inl ⟨11, getAt_of_err h' (by decide) hk, .inr (.inr rfl)⟩

theorem getAt_lt (l : List UInt8) (a : Int) : (getAt l a).1 < 18446744073709551616 := by
  rcases getAt_cases l a with ⟨e, h, _⟩ | ⟨k, m, r, _, _, hm, _, h, _⟩
  · rw [h]; exact (by decide : (0 : Nat) < 18446744073709551616)
  · rw [h]; exact hm
theorem getAt_next (l : List UInt8) (a : Int) : 0 ≤ (getAt l a).2.1 ∧ (getAt l a).2.1 ≤ l.length := by
  rcases getAt_cases l a with ⟨e, h, _⟩ | ⟨k, m, r, _, _, hm, _, h, _⟩
  · rw [h]; simp
  · rw [h]; simp; omega
theorem getAt_err (l : List UInt8) (a : Int) : (getAt l a).2.2 = 0 ∨ ((getAt l a).1 = 0 ∧ (getAt l a).2.1 = 0 ∧ ((getAt l a).2.2 = 1 ∨ (getAt l a).2.2 = 10 ∨ (getAt l a).2.2 = 11)) := by
  rcases getAt_cases l a with ⟨e, h, he⟩ | ⟨k, m, r, _, _, hm, _, h, _⟩
  · rw [h]; exact .inr ⟨rfl, rfl, he⟩
  · rw [h]; exact .inl rfl

/-- the integer at a place of bytes -/
def getIntAt (l : List UInt8) (a : Int) : Int × Int × Nat := (unfoldN (getAt l a).1, (getAt l a).2.1, (getAt l a).2.2)

/-- the text at a place of bytes -/
def getTextAt (l : List UInt8) (a : Int) : List UInt8 × Int × Nat :=
  if (getAt l a).2.2 ≠ 0 then ([], 0, (getAt l a).2.2)
  else if (l.length : Int) - (getAt l a).2.1 < (getAt l a).1 then ([], 0, 10)
  else ((l.drop (getAt l a).2.1.toNat).take (getAt l a).1, (getAt l a).2.1 + (getAt l a).1, 0)

theorem ret_text {a b : ByteArray} {x y e f : Int} (h1 : a = b) (h2 : x = y) (h3 : e = f) :
    Ending.returned (.tuple #[.string a, .int .i64 x, .int .i64 e]) = .returned (.tuple #[.string b, .int .i64 y, .int .i64 f]) := by rw [h1, h2, h3]

theorem getText_err {l : List UInt8} {a : Int} {e : Nat} (h : getAt l a = (0, 0, e)) (he : e ≠ 0) : getTextAt l a = ([], 0, e) := by unfold getTextAt; rw [h]; simp [he]
theorem getText_short {l : List UInt8} {a : Int} {m x : Nat} (h : getAt l a = (m, (x : Int), 0)) (hl : (l.length : Int) - x < m) : getTextAt l a = ([], 0, 10) := by unfold getTextAt; rw [h]; simp [hl]
theorem getText_ok {l : List UInt8} {a : Int} {m x : Nat} (h : getAt l a = (m, (x : Int), 0)) (hl : ¬(l.length : Int) - x < m) : getTextAt l a = ((l.drop x).take m, ((x + m : Nat) : Int), 0) := by unfold getTextAt; rw [h]; simp [hl]

set_option maxRecDepth 100000 in
theorem getText_any (s : ByteArray) (a : Int) (w : World) (hs : s.size < 1099511627776) :
    Calls Tryd.prog 26 #[.string s, .int .i64 a] w fun e w' => e = .returned (.tuple #[.string (S (getTextAt s.data.toList a).1), .int .i64 (getTextAt s.data.toList a).2.1, .int .i64 (getTextAt s.data.toList a).2.2]) ∧ w = w' := by
  have hc := getUint_any s a w hs
  rcases getAt_cases s.data.toList a with ⟨e, h, he⟩ | ⟨k, m, r, ea, _, hm, ed, h, hlen⟩
  · rw [getText_err h (by omega)]
    rw [h] at hc
    dsimp only at hc
    have hne : ((e : Int) == 0) = false := beq_eq_false_iff_ne.2 (by omega)
    clear h he
    have Hc := Lib.hid hc
    clear hc
    go_enter Tryd.func26, Tryd.ntmps26
    go_wp2_with fail
    refine Hc.out.mono ?_
    rintro e w' ⟨rfl, rfl⟩
    go_wp2_with fail
    go_ret3
    exact ⟨rfl, rfl⟩
  · clear ea ed
    rw [h] at hc
    dsimp only at hc
    rw [← Lib.size_eq] at hlen
    generalize hx : k + (uint m).length = x at *
    clear hx
    have Hc := Lib.hid hc
    clear hc
    by_cases hlt : s.size < x + m
    · rw [getText_short h (by rw [← Lib.size_eq]; omega)]
      clear h
      have hd : decide ((s.size : Int) - (x : Int) < (m : Int)) = true := by simp; omega
      go_enter Tryd.func26, Tryd.ntmps26
      go_wp2_with fail
      refine Hc.out.mono ?_
      rintro e w' ⟨rfl, rfl⟩
      go_wp2_with fail
      go_ret3
      exact ⟨rfl, rfl⟩
    · rw [getText_ok h (by rw [← Lib.size_eq]; omega)]
      clear h
      have hd : decide ((s.size : Int) - (x : Int) < (m : Int)) = false := by simp; omega
      have He := Lib.hid (Lib.extract_eq s x (x + m))
      go_enter Tryd.func26, Tryd.ntmps26
      go_wp2_with fail
      refine Hc.out.mono ?_
      rintro e w' ⟨rfl, rfl⟩
      go_wp2_with fail
      go_ret3
      exact ⟨ret_text (by rw [He.out, show x + m - x = m by omega]; rfl) (by simp) rfl, rfl⟩

set_option maxRecDepth 100000 in
theorem rgetText_any (s : ByteArray) (a : Int) (w : World) (hs : s.size < 1099511627776) :
    Calls Tryd.prog 30 #[.string s, .int .i64 a] w fun e w' => e = .returned (.tuple #[.string (S (getTextAt s.data.toList a).1), .int .i64 (getTextAt s.data.toList a).2.1, .int .i64 (getTextAt s.data.toList a).2.2]) ∧ Below w.heap.size w w' := by
  have hc := rgetUint_any s a w hs
  rcases getAt_cases s.data.toList a with ⟨e, h, he⟩ | ⟨k, m, r, ea, _, hm, ed, h, hlen⟩
  · rw [getText_err h (by omega)]
    rw [h] at hc
    dsimp only at hc
    have hne : ((e : Int) == 0) = false := beq_eq_false_iff_ne.2 (by omega)
    clear h he
    have Hc := Lib.hid hc
    clear hc
    go_enter Tryd.func30, Tryd.ntmps30
    go_wp2_with fail
    refine Hc.out.mono ?_
    rintro e w' ⟨rfl, hb⟩
    go_wp2_with fail
    go_ret3
    exact ⟨rfl, hb⟩
  · clear ea ed
    rw [h] at hc
    dsimp only at hc
    rw [← Lib.size_eq] at hlen
    generalize hx : k + (uint m).length = x at *
    clear hx
    have Hc := Lib.hid hc
    clear hc
    by_cases hlt : s.size < x + m
    · rw [getText_short h (by rw [← Lib.size_eq]; omega)]
      clear h
      have hd : decide ((s.size : Int) - (x : Int) < (m : Int)) = true := by simp; omega
      go_enter Tryd.func30, Tryd.ntmps30
      go_wp2_with fail
      refine Hc.out.mono ?_
      rintro e w' ⟨rfl, hb⟩
      go_wp2_with fail
      go_ret3
      exact ⟨rfl, hb⟩
    · rw [getText_ok h (by rw [← Lib.size_eq]; omega)]
      clear h
      have hd : decide ((s.size : Int) - (x : Int) < (m : Int)) = false := by simp; omega
      have He := Lib.hid (Lib.extract_eq s x (x + m))
      go_enter Tryd.func30, Tryd.ntmps30
      go_wp2_with fail
      refine Hc.out.mono ?_
      rintro e w' ⟨rfl, hb⟩
      go_wp2_with fail
      go_ret3
      exact ⟨ret_text (by rw [He.out, show x + m - x = m by omega]; rfl) (by simp) rfl, hb⟩
end Go.Proofs.YtfhgjangeicbjaaDoor
