/-
  Plain Lean: what is true of whatever comes of edits.
-/
import Derived.Test.YtbheoahpaidpmaaDoorManAppK
namespace Go.Proofs.YtbheoahpaidpmaaDoor
open Go Go.RowKit

/-! a numeral is one number's -/
def numD (l : List UInt8) : Nat := l.foldl (fun a b => a * 10 + (b.toNat - 48)) 0
theorem numD_snoc (l : List UInt8) (b : UInt8) : numD (l ++ [b]) = numD l * 10 + (b.toNat - 48) := by simp [numD]
theorem digit_num {d : Nat} (h : d < 10) : (UInt8.ofNat (48 + d)).toNat - 48 = d := by
  have : (UInt8.ofNat (48 + d)).toNat = (48 + d) % 256 := rfl
  omega
theorem numD_digits (n : Nat) : numD (Lib.decDigits n) = n := by
  induction n using Nat.strongRecOn with
  | ind n ih =>
    rw [Lib.decDigits]
    by_cases h : n < 10
    · rw [dif_pos h]
      simp [numD]
      omega
    · rw [dif_neg h, numD_snoc, ih (n / 10) (by omega), digit_num (by omega)]
      omega
theorem fileB_inj {a b : Nat} (h : fileB a = fileB b) : a = b := by
  unfold fileB at h
  have h2 := (List.cons.inj h).2
  have := congrArg numD h2
  rw [numD_digits, numD_digits] at this
  simpa using this

theorem dropS_next' (s : St) (d : Int) : (dropS s d).Next = s.Next := by unfold dropS; split <;> rfl
theorem dropS_parts' (s : St) (d : Int) : (dropS s d).Parts = s.Parts.filter (kp d) := by unfold dropS; split <;> rfl
/-! what is found -/
theorem findP_filter {d d' : Int} (hne : d' ≠ d) : ∀ l : List PartV, findP (l.filter (kp d)) d' = findP l d'
  | [] => rfl
  | x :: l => by
    rw [List.filter_cons]
    by_cases h : x.Day = d
    · rw [if_neg (by simp [kp, h]), findP_filter hne l]
      unfold findP
      rw [List.find?_cons_of_neg (by simp; omega)]
    · rw [if_pos (by simp [kp, h])]
      unfold findP
      by_cases hx : x.Day = d'
      · rw [List.find?_cons_of_pos (by simpa using hx), List.find?_cons_of_pos (by simpa using hx)]
      · rw [List.find?_cons_of_neg (by simpa using hx), List.find?_cons_of_neg (by simpa using hx)]
        exact findP_filter hne l
theorem findP_ins {p : PartV} {d : Int} (hne : d ≠ p.Day) : ∀ l : List PartV, findP (insP p l) d = findP l d
  | [] => by
    unfold insP findP
    rw [List.find?_cons_of_neg (by simp; omega)]
  | x :: l => by
    unfold insP
    split
    · unfold findP
      rw [List.find?_cons_of_neg (by simp; omega)]
    · unfold findP
      by_cases hx : x.Day = d
      · rw [List.find?_cons_of_pos (by simpa using hx), List.find?_cons_of_pos (by simpa using hx)]
      · rw [List.find?_cons_of_neg (by simpa using hx), List.find?_cons_of_neg (by simpa using hx)]
        exact findP_ins hne l
theorem insP_perm (p : PartV) : ∀ l : List PartV, (insP p l).Perm (p :: l)
  | [] => by unfold insP; exact List.Perm.refl _
  | x :: l => by
    unfold insP
    split
    · exact List.Perm.refl _
    · exact ((insP_perm p l).cons x).trans (List.Perm.swap p x l)
theorem insP_length (p : PartV) (l : List PartV) : (insP p l).length = l.length + 1 := by rw [(insP_perm p l).length_eq]; rfl

/-- a state is right -/
structure OkSt (s : St) : Prop where
  n0 : 0 ≤ s.Next
  n1 : s.Next ≤ 1099511627776
  p0 : 0 ≤ s.Past
  p1 : s.Past ≤ 1099511627776
  asc : asc s.Parts
  part : ∀ p ∈ s.Parts, dayOk p.Day ∧ bitOk p.Layout ∧ ∃ m : Nat, (m : Int) < s.Next ∧ p.File = fileB m
  files : s.Parts.Pairwise fun p q => p.File ≠ q.File
  offs : s.On = false → s.Day = 0 ∧ s.To = 0 ∧ s.Done = 0
  conv : s.On = true → ∃ p, findP s.Parts s.Day = some p ∧ bitOk s.To ∧ p.Layout ≠ s.To ∧ 0 ≤ s.Done ∧ s.Done ≤ 5000
theorem OkSt.done0 {s : St} (h : OkSt s) : 0 ≤ s.Done := by
  cases ho : s.On with
  | false => have := h.offs ho; omega
  | true => obtain ⟨_, _, _, _, h1, _⟩ := h.conv ho; exact h1
theorem OkSt.done1 {s : St} (h : OkSt s) : s.Done ≤ 5000 := by
  cases ho : s.On with
  | false => have := h.offs ho; omega
  | true => obtain ⟨_, _, _, _, _, h1⟩ := h.conv ho; exact h1
theorem OkSt.zero : OkSt st0 := ⟨by decide, by decide, by decide, by decide, trivial, by simp [st0], by simp [st0], fun _ => ⟨rfl, rfl, rfl⟩, fun h => by cases h⟩
theorem OkSt.off {s : St} (h : OkSt s) : OkSt (offS s) :=
  ⟨h.n0, h.n1, h.p0, h.p1, h.asc, h.part, h.files, fun _ => ⟨rfl, rfl, rfl⟩, fun h => by cases h⟩
theorem OkSt.drop {s : St} (h : OkSt s) (d : Int) : OkSt (dropS s d) := by
  have hp : ∀ p ∈ s.Parts.filter (kp d), dayOk p.Day ∧ bitOk p.Layout ∧ ∃ m : Nat, (m : Int) < s.Next ∧ p.File = fileB m := fun p hp => h.part p (List.mem_filter.1 hp).1
  unfold dropS
  split
  · exact ⟨h.n0, h.n1, h.p0, h.p1, asc_filter h.asc _, hp, h.files.filter _, fun _ => ⟨rfl, rfl, rfl⟩, fun h => by cases h⟩
  · rename_i hno
    refine ⟨h.n0, h.n1, h.p0, h.p1, asc_filter h.asc _, hp, h.files.filter _, h.offs, fun ho => ?_⟩
    obtain ⟨p, h1, h2⟩ := h.conv ho
    refine ⟨p, ?_, h2⟩
    have := findP_filter (d := d) (d' := s.Day) (fun e => hno ⟨ho, e⟩) s.Parts
    exact this.trans h1
theorem dropS_on {s : St} {d : Int} (h : (dropS s d).On = true) : s.On = true ∧ (dropS s d).Day ≠ d := by
  unfold dropS at h ⊢
  split at h
  · cases h
  · rename_i hno
    rw [if_neg hno]
    exact ⟨h, fun e => hno ⟨h, e⟩⟩
theorem OkSt.put {s t : St} (h : OkSt s) {d y : Int} (hp : putS s d y = some t) : OkSt t := by
  unfold putS at hp
  split at hp
  · rename_i hc
    obtain ⟨c1, c2, c3⟩ := hc
    obtain rfl := (Option.some.inj hp).symm
    have hd := h.drop d
    have hnd : ∀ x ∈ (dropS s d).Parts, x.Day ≠ d := by
      rw [dropS_parts']
      intro x hx
      have := (List.mem_filter.1 hx).2
      simpa [kp] using this
    have hnx := dropS_next' s d
    obtain ⟨m, hm⟩ := Int.eq_ofNat_of_zero_le h.n0
    refine ⟨?_, ?_, hd.p0, hd.p1, asc_ins hd.asc hnd, ?_, ?_, hd.offs, ?_⟩
    · show 0 ≤ s.Next + 1
      have := h.n0
      omega
    · show s.Next + 1 ≤ _
      omega
    · intro p hp
      show _ ∧ _ ∧ ∃ m : Nat, (m : Int) < s.Next + 1 ∧ _
      rcases insP_mem.1 hp with rfl | hp
      · refine ⟨c1, c2, m, by omega, ?_⟩
        show fileB s.Next = _
        rw [hm]
      · obtain ⟨g1, g2, k, g3, g4⟩ := hd.part p hp
        rw [hnx] at g3
        exact ⟨g1, g2, k, by omega, g4⟩
    · refine ((insP_perm _ _).pairwise_iff (fun h e => h e.symm)).2 (List.pairwise_cons.2 ⟨fun p hp => ?_, hd.files⟩)
      obtain ⟨_, _, k, g3, g4⟩ := hd.part p hp
      rw [hnx, hm] at g3
      rw [g4]
      show fileB s.Next ≠ _
      rw [hm]
      intro e
      have := fileB_inj e
      omega
    · intro ho
      obtain ⟨p, h1, h2⟩ := hd.conv ho
      exact ⟨p, (findP_ins (dropS_on ho).2 _).trans h1, h2⟩
  · cases hp
theorem OkSt.app {s t : St} (h : OkSt s) {e : Ed} (ha : applyS s e = some t) : OkSt t := by
  unfold applyS at ha
  split at ha
  · exact h.put ha
  split at ha
  · split at ha
    · obtain rfl := (Option.some.inj ha).symm; exact h.drop _
    · cases ha
  split at ha
  · split at ha
    · rename_i hc
      obtain rfl := (Option.some.inj ha).symm
      exact ⟨h.n0, h.n1, by have := h.p0; show 0 ≤ e.At; omega, hc.2, h.asc, h.part, h.files, h.offs, h.conv⟩
    · cases ha
  split at ha
  · split at ha
    · cases ha
    · rename_i p hp
      split at ha
      · rename_i hc
        obtain ⟨c1, c2, c3⟩ := hc
        obtain rfl := (Option.some.inj ha).symm
        obtain ⟨_, _, o3⟩ := h.offs c1
        exact ⟨h.n0, h.n1, h.p0, h.p1, h.asc, h.part, h.files, (fun h => by cases h), fun _ => ⟨p, hp, c2, c3, by show 0 ≤ s.Done; omega, by show s.Done ≤ 5000; omega⟩⟩
      · cases ha
  split at ha
  · split at ha
    · rename_i hc
      obtain rfl := (Option.some.inj ha).symm
      refine ⟨h.n0, h.n1, h.p0, h.p1, h.asc, h.part, h.files, fun ho => ?_, fun ho => ?_⟩
      · have ho : s.On = false := ho
        rw [hc.1] at ho; cases ho
      · obtain ⟨p, g1, g2, g3, g4, g5⟩ := h.conv hc.1
        exact ⟨p, g1, g2, g3, by show 0 ≤ s.Done + 1; omega, by show s.Done + 1 ≤ 5000; omega⟩
    · cases ha
  split at ha
  · split at ha
    · exact h.put ha
    · cases ha
  split at ha
  · split at ha
    · obtain rfl := (Option.some.inj ha).symm; exact h.off
    · cases ha
  · cases ha
theorem dropS_past (s : St) (d : Int) : (dropS s d).Past = s.Past := by unfold dropS; split <;> rfl
theorem dropS_len (s : St) (d : Int) : (dropS s d).Parts.length ≤ s.Parts.length := by rw [dropS_parts']; exact List.length_filter_le _ _
theorem put_grows {s t : St} {d y : Int} (hp : putS s d y = some t) : t.Parts.length ≤ s.Parts.length + 1 ∧ t.Next = s.Next + 1 ∧ t.Past = s.Past := by
  unfold putS at hp
  split at hp
  · obtain rfl := (Option.some.inj hp).symm
    refine ⟨?_, rfl, dropS_past s d⟩
    show (insP _ _).length ≤ _
    rw [insP_length]
    have := dropS_len s d
    omega
  · cases hp
/-- an edit more -/
theorem app_grows {s t : St} {e : Ed} (ha : applyS s e = some t) : t.Parts.length ≤ s.Parts.length + 1 ∧ s.Next ≤ t.Next ∧ t.Next ≤ s.Next + 1 ∧ s.Past ≤ t.Past := by
  unfold applyS at ha
  split at ha
  · have := put_grows ha; omega
  split at ha
  · split at ha
    · obtain rfl := (Option.some.inj ha).symm
      have h1 := dropS_len s e.Day
      have h2 := dropS_past s e.Day
      have h3 := dropS_next' s e.Day
      omega
    · cases ha
  split at ha
  · split at ha
    · rename_i hc
      obtain rfl := (Option.some.inj ha).symm
      exact ⟨Nat.le_succ _, Int.le_refl _, by show s.Next ≤ s.Next + 1; omega, by show s.Past ≤ e.At; omega⟩
    · cases ha
  split at ha
  · split at ha
    · cases ha
    · split at ha
      · obtain rfl := (Option.some.inj ha).symm
        exact ⟨Nat.le_succ _, Int.le_refl _, by show s.Next ≤ s.Next + 1; omega, Int.le_refl _⟩
      · cases ha
  split at ha
  · split at ha
    · obtain rfl := (Option.some.inj ha).symm
      exact ⟨Nat.le_succ _, Int.le_refl _, by show s.Next ≤ s.Next + 1; omega, Int.le_refl _⟩
    · cases ha
  split at ha
  · split at ha
    · have := put_grows ha; omega
    · cases ha
  split at ha
  · split at ha
    · obtain rfl := (Option.some.inj ha).symm
      exact ⟨Nat.le_succ _, Int.le_refl _, by show s.Next ≤ s.Next + 1; omega, Int.le_refl _⟩
    · cases ha
  · cases ha
/-- what is known of a state that k edits made -/
structure OkFor (s : St) (k : Nat) : Prop where
  ok : OkSt s
  len : s.Parts.length ≤ k
  next : s.Next ≤ k
theorem OkFor.zero (k : Nat) : OkFor st0 k := ⟨OkSt.zero, Nat.zero_le _, by show (0 : Int) ≤ k; omega⟩
theorem OkFor.mono {s : St} {k m : Nat} (h : OkFor s k) (hm : k ≤ m) : OkFor s m := ⟨h.ok, by have := h.len; omega, by have := h.next; omega⟩
theorem OkFor.app {s t : St} {k : Nat} (h : OkFor s k) {e : Ed} (ha : applyS s e = some t) : OkFor t (k + 1) := by
  have h1 := app_grows ha
  exact ⟨h.ok.app ha, by have := h.len; omega, by have := h.next; omega⟩
theorem foldS_ok : ∀ (l : List Ed) (s : St) (k j : Nat), OkFor s j → OkFor (foldS s l k).1 (j + l.length)
  | [], s, k, j, h => h
  | e :: l, s, k, j, h => by
    unfold foldS
    split
    · exact h.mono (by omega)
    · rename_i t ht
      have := foldS_ok l t (k + 1) (j + 1) (h.app ht)
      rw [List.length_cons]
      exact this.mono (by omega)
/-- one edit more of those behind -/
theorem foldS_step_no {s : St} {e : Ed} {l : List Ed} {k : Nat} (h : applyS s e = none) : foldS s (e :: l) k = (s, k + 1, 170) := by rw [foldS]; rw [h]
theorem foldS_step_ok {s t : St} {e : Ed} {l : List Ed} {k : Nat} (h : applyS s e = some t) : foldS s (e :: l) k = foldS t l (k + 1) := by rw [foldS]; rw [h]
/-- what Fold answers -/
def folds (l : List Ed) : St × Nat × Nat := foldS st0 l 0
theorem folds_ok (l : List Ed) : OkFor (folds l).1 l.length := by
  have := foldS_ok l st0 0 0 (OkFor.zero 0)
  rwa [Nat.zero_add] at this
end Go.Proofs.YtbheoahpaidpmaaDoor
