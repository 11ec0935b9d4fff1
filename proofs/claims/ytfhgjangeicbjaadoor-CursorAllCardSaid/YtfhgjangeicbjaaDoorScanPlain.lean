/-
  Plain laws on frames in a row: what is scanned of bytes is one way only.
-/
import Derived.Test.YtfhgjangeicbjaaDoorFrame
import Derived.Test.YtfhgjangeicbjaaDoorSlice
namespace Go.Proofs.YtfhgjangeicbjaaDoor
open Go Go.RowKit

theorem text_append_inj {a b x y : List UInt8} (ha : a.length < 18446744073709551616) (hb : b.length < 18446744073709551616) (h : text a ++ x = text b ++ y) : a = b ∧ x = y := by
  unfold text at h
  rw [List.append_assoc, List.append_assoc] at h
  obtain ⟨h1, h2⟩ := uint_append_inj ha hb h
  have e1 := congrArg (List.take a.length) h2
  have e2 := congrArg (List.drop a.length) h2
  rw [List.take_left] at e1
  rw [List.drop_left] at e2
  rw [h1, List.take_left] at e1
  rw [h1, List.drop_left] at e2
  exact ⟨e1, e2⟩

theorem getAt_uint {p r : List UInt8} {n : Nat} (hn : n < 18446744073709551616) : getAt (p ++ (uint n ++ r)) (p.length : Nat) = (n, ((p.length + (uint n).length : Nat) : Int), 0) := by
  have := getAt_of (l := p ++ (uint n ++ r)) (k := p.length) (a := n) (b := (uint n).length) (by rw [List.drop_left]; exact get0_uint hn r) (by simp)
  rw [this]; simp

theorem getTextAt_text {p t r : List UInt8} (hn : t.length < 18446744073709551616) : getTextAt (p ++ (text t ++ r)) (p.length : Nat) = (t, ((p.length + (text t).length : Nat) : Int), 0) := by
  have h : getAt (p ++ (text t ++ r)) (p.length : Nat) = (t.length, ((p.length + (uint t.length).length : Nat) : Int), 0) := by
    have := getAt_uint (p := p) (r := t ++ r) hn
    rw [text, List.append_assoc]; exact this
  have hl : (p ++ (text t ++ r)).length = p.length + (uint t.length).length + t.length + r.length := by simp [text]; omega
  rw [getText_ok h (by rw [hl]; omega)]
  have hd : (p ++ (text t ++ r)).drop (p.length + (uint t.length).length) = t ++ r := by
    rw [text, List.append_assoc, ← List.append_assoc, ← List.length_append, List.drop_left]
  rw [hd, List.take_left]
  simp [text]; omega

/-- a text stands at a place, or none does -/
theorem getTextAt_cases {l : List UInt8} {k : Nat} (hk : k ≤ l.length) (hl : l.length < 18446744073709551616) :
    (∃ e : Nat, getTextAt l k = ([], 0, e) ∧ (e = 10 ∨ e = 11) ∧ ∀ t r, l.drop k ≠ text t ++ r) ∨ ∃ t r, getTextAt l k = (t, ((k + (text t).length : Nat) : Int), 0) ∧ l.drop k = text t ++ r := by
  have hsplit : l = l.take k ++ l.drop k := (List.take_append_drop k l).symm
  have hkl : (l.take k).length = k := by rw [List.length_take]; omega
  have key : ∀ t r, l.drop k = text t ++ r → getTextAt l k = (t, ((k + (text t).length : Nat) : Int), 0) := by
    intro t r h
    have hlt : t.length < 18446744073709551616 := by
      have := congrArg List.length h
      rw [List.length_drop, text, List.length_append, List.length_append] at this
      omega
    have := getTextAt_text (p := l.take k) (t := t) (r := r) hlt
    rwa [← h, ← hsplit, hkl] at this
  rcases getAt_cases l k with ⟨e, h, he⟩ | ⟨k', m, r, ea, _, hm, ed, h, hlen⟩
  · left
    have he1 : e ≠ 1 := by
      rintro rfl
      have := getAt_in hk
      rw [h] at this
      split at this
      · simp at this
      · rename_i hne
        have h2 := (scan_err (l.drop k) 0 0 (by simpa [get0] using hne)).2.2
        simp only [Prod.mk.injEq, true_and] at this
        rw [get0] at this
        omega
    refine ⟨e, getText_err h (by omega), by omega, fun t r hr => ?_⟩
    have := key t r hr
    rw [getText_err h (by omega)] at this
    simp at this
    omega
  · obtain rfl : k' = k := by omega
    by_cases hlt : (l.length : Int) - ((k' + (uint m).length : Nat) : Int) < m
    · left
      refine ⟨10, getText_short h hlt, .inl rfl, fun t r hr => ?_⟩
      have := key t r hr
      rw [getText_short h hlt] at this
      simp at this
    · right
      have hrl : m ≤ r.length := by
        have := congrArg List.length ed
        rw [List.length_drop, List.length_append] at this
        omega
      have htx : text (r.take m) ++ r.drop m = l.drop k' := by
        rw [text, List.length_take, Nat.min_eq_left hrl, List.append_assoc, List.take_append_drop, ed]
      exact ⟨r.take m, r.drop m, key _ _ htx.symm, htx.symm⟩

/-- what is scanned of bytes: frames in a row, behind which no frame stands -/
def NoFrame (r : List UInt8) : Prop := ∀ t r', r ≠ frame t ++ r'
def Scanned (l : List UInt8) (ts : List (List UInt8)) : Prop := ∃ r, l = ts.flatMap frame ++ r ∧ NoFrame r

theorem frame_append_inj {a b x y : List UInt8} (ha : a.length < 18446744073709551616) (hb : b.length < 18446744073709551616) (h : frame a ++ x = frame b ++ y) : a = b ∧ x = y := by
  unfold frame at h
  rw [List.append_assoc, List.append_assoc] at h
  obtain ⟨rfl, h2⟩ := text_append_inj ha hb h
  exact ⟨rfl, List.append_cancel_left h2⟩

theorem frame_len_pos (t : List UInt8) : t.length < (frame t).length := by simp [frame, text, sumBytes]; omega

theorem scanned_inj : ∀ (ts us : List (List UInt8)) (l : List UInt8), l.length < 18446744073709551616 → Scanned l ts → Scanned l us → ts = us := by
  intro ts
  induction ts with
  | nil =>
    intro us l _ h1 h2
    obtain ⟨r, hr, hn⟩ := h1
    obtain ⟨r', hr', hn'⟩ := h2
    cases us with
    | nil => rfl
    | cons u us =>
      exfalso
      rw [List.flatMap_nil, List.nil_append] at hr
      rw [List.flatMap_cons, List.append_assoc] at hr'
      subst hr
      exact hn u _ hr'
  | cons t ts ih =>
    intro us l hl h1 h2
    obtain ⟨r, hr, hn⟩ := h1
    obtain ⟨r', hr', hn'⟩ := h2
    rw [List.flatMap_cons, List.append_assoc] at hr
    cases us with
    | nil =>
      exfalso
      rw [List.flatMap_nil, List.nil_append] at hr'
      subst hr'
      exact hn' t _ hr
    | cons u us =>
      rw [List.flatMap_cons, List.append_assoc] at hr'
      have hll := congrArg List.length hr
      have hll' := congrArg List.length hr'
      rw [List.length_append] at hll hll'
      have h3 := frame_len_pos t
      have h4 := frame_len_pos u
      obtain ⟨rfl, e2⟩ := frame_append_inj (a := t) (b := u) (by omega) (by omega) (hr.symm.trans hr')
      have := ih us (ts.flatMap frame ++ r) (by omega) ⟨r, rfl, hn⟩ ⟨r', e2, hn'⟩
      rw [this]

theorem noframe_text {t r : List UInt8} (hl : (text t ++ r).length < 18446744073709551616) (h : ∀ r', r ≠ sumBytes t ++ r') : NoFrame (text t ++ r) := by
  intro u r' hu
  rw [frame, List.append_assoc] at hu
  have h1 := congrArg List.length hu
  rw [List.length_append, List.length_append, text, text, List.length_append, List.length_append] at h1
  rw [List.length_append, text, List.length_append] at hl
  obtain ⟨rfl, h2⟩ := text_append_inj (a := t) (b := u) (by omega) (by omega) hu
  exact h r' h2

/-- texts, as cells -/
def strCells (ts : List (List UInt8)) : List Value := ts.map fun t => .string (S t)
theorem strCells_length (ts : List (List UInt8)) : (strCells ts).length = ts.length := by simp [strCells]
theorem strCells_snoc (ts : List (List UInt8)) (t : List UInt8) : strCells (ts ++ [t]) = strCells ts ++ [.string (S t)] := by simp [strCells]

theorem sum_or {b0 b1 : Nat} (h0 : b0 < 256) (h1 : b1 < 256) : bits .or .i64 ((b0 : Int) * 256) (b1 : Int) = ((b0 * 256 + b1 : Nat) : Int) := by
  have e : (b0 : Int) * 256 = ((b0 * 256 : Nat) : Int) := by simp
  rw [e, i64_or_nat _ _ (by omega) (by omega)]
  congr 1
  have h1' : b1 < 2 ^ 8 := h1
  have := Nat.two_pow_add_eq_or_of_lt h1' b0
  rw [Nat.mul_comm] at this
  exact this.symm

theorem sum_is {b0 b1 : UInt8} {t : List UInt8} (h : b0.toNat * 256 + b1.toNat = crc t) : [b0, b1] = sumBytes t := by
  have h0 := b0.toNat_lt
  have h1 := b1.toNat_lt
  unfold sumBytes
  rw [← h, show (b0.toNat * 256 + b1.toNat) / 256 = b0.toNat by omega, show (b0.toNat * 256 + b1.toNat) % 256 = b1.toNat by omega, byt_toNat, byt_toNat]
theorem sum_not {b0 b1 : UInt8} {t : List UInt8} (h : b0.toNat * 256 + b1.toNat ≠ crc t) : [b0, b1] ≠ sumBytes t := by
  intro e
  unfold sumBytes at e
  simp only [List.cons.injEq, and_true] at e
  have hc := crc_lt t
  have h0 := congrArg UInt8.toNat e.1
  have h1 := congrArg UInt8.toNat e.2
  rw [u8_lt _ (by omega)] at h0 h1
  omega
end Go.Proofs.YtfhgjangeicbjaaDoor
