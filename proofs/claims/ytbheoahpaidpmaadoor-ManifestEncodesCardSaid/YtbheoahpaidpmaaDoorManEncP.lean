/-
  Plain Lean: a state's numbers, its bytes.
-/
import Derived.Test.YtbheoahpaidpmaaDoorManOkP
import Derived.Test.YtbheoahpaidpmaaDoorPackA
namespace Go.Proofs.YtbheoahpaidpmaaDoor
open Go Go.RowKit

def partN (p : PartV) : List Nat := [p.Day.toNat, p.Layout.toNat, (numF p.File).toNat]
def endN (s : St) : List Nat := if s.On = true then [1, s.Day.toNat, s.To.toNat, s.Done.toNat] else [0]
def encL (s : St) : List Nat := s.Parts.length :: (s.Parts.flatMap partN ++ ([s.Next.toNat, s.Past.toNat] ++ endN s))
def encB (s : St) : List UInt8 := (encL s).flatMap uint
theorem flat_inj : ∀ {l m : List Nat}, (∀ x ∈ l, x < 18446744073709551616) → (∀ x ∈ m, x < 18446744073709551616) → l.flatMap uint = m.flatMap uint → l = m
  | [], [], _, _, _ => rfl
  | [], y :: m, _, _, h => by
    have := uint_pos y
    rw [List.flatMap_cons, List.flatMap_nil] at h
    have h2 := congrArg List.length h
    simp only [List.length_append, List.length_nil] at h2
    omega
  | x :: l, [], _, _, h => by
    have := uint_pos x
    rw [List.flatMap_cons, List.flatMap_nil] at h
    have h2 := congrArg List.length h
    simp only [List.length_append, List.length_nil] at h2
    omega
  | x :: l, y :: m, hl, hm, h => by
    rw [List.flatMap_cons, List.flatMap_cons] at h
    obtain ⟨h1, h2⟩ := uint_append_inj (hl x (List.mem_cons_self ..)) (hm y (List.mem_cons_self ..)) h
    rw [h1, flat_inj (fun z hz => hl z (List.mem_cons_of_mem _ hz)) (fun z hz => hm z (List.mem_cons_of_mem _ hz)) h2]
theorem okst_num {s : St} (h : OkSt s) {p : PartV} (hp : p ∈ s.Parts) : 0 ≤ p.Day ∧ p.Day < 17179869184 ∧ 0 ≤ p.Layout ∧ p.Layout ≤ 1 ∧ 0 ≤ numF p.File ∧ numF p.File < 1099511627776 ∧ p.File = fileB (numF p.File) := by
  obtain ⟨j, hj, rfl⟩ := List.getElem_of_mem hp
  obtain ⟨h1, h2, h3, h4, -, -⟩ := okst_part h hj
  have hn := h.n1
  obtain ⟨m, h5, h6, -⟩ := numF_some (l := s.Parts[j].File) (by omega)
  refine ⟨h1.1, h1.2, ?_, ?_, h3, by omega, by rw [h5]; exact h6⟩ <;> (rcases h2 with h | h <;> omega)
/-- every number of a right state is small -/
theorem encL_small {s : St} (h : OkSt s) (hl : s.Parts.length ≤ 1000000) : ∀ x ∈ encL s, x ≤ 1099511627776 := by
  intro x hx
  unfold encL at hx
  rw [List.mem_cons, List.mem_append, List.mem_append, List.mem_flatMap] at hx
  rcases hx with rfl | ⟨p, hp, hx⟩ | hx | hx
  · omega
  · obtain ⟨h1, h2, h3, h4, h5, h6, -⟩ := okst_num h hp
    simp only [partN, List.mem_cons, List.not_mem_nil, or_false] at hx
    rcases hx with rfl | rfl | rfl <;> omega
  · have := h.n0; have := h.n1; have := h.p0; have := h.p1
    simp only [List.mem_cons, List.not_mem_nil, or_false] at hx
    rcases hx with rfl | rfl <;> omega
  · unfold endN at hx
    split at hx
    · rename_i ho
      obtain ⟨p, hp, hb, -, h4, h5⟩ := h.conv ho
      obtain ⟨hm, hd⟩ := findP_mem hp
      obtain ⟨h1, h2, -⟩ := okst_num h hm
      simp only [List.mem_cons, List.not_mem_nil, or_false] at hx
      rcases hx with rfl | rfl | rfl | rfl
      · omega
      · omega
      · rcases hb with hb | hb <;> omega
      · omega
    · simp only [List.mem_cons, List.not_mem_nil, or_false] at hx
      omega
theorem partN_length (p : PartV) : (partN p).length = 3 := rfl
theorem parts_inj : ∀ {l m : List PartV} {a b : List Nat}, l.length = m.length → (∀ p ∈ l, 0 ≤ p.Day ∧ 0 ≤ p.Layout ∧ 0 ≤ numF p.File ∧ p.File = fileB (numF p.File)) → (∀ p ∈ m, 0 ≤ p.Day ∧ 0 ≤ p.Layout ∧ 0 ≤ numF p.File ∧ p.File = fileB (numF p.File)) →
    l.flatMap partN ++ a = m.flatMap partN ++ b → l = m ∧ a = b
  | [], [], _, _, _, _, _, h => ⟨rfl, h⟩
  | [], _ :: _, _, _, hl, _, _, _ => by simp at hl
  | _ :: _, [], _, _, hl, _, _, _ => by simp at hl
  | p :: l, q :: m, a, b, hl, h1, h2, h => by
    rw [List.flatMap_cons, List.flatMap_cons, List.append_assoc, List.append_assoc] at h
    simp only [partN, List.cons_append, List.nil_append, List.cons.injEq] at h
    obtain ⟨e1, e2, e3, e4⟩ := h
    obtain ⟨p1, p2, p3, p4⟩ := h1 p (List.mem_cons_self ..)
    obtain ⟨q1, q2, q3, q4⟩ := h2 q (List.mem_cons_self ..)
    obtain ⟨rfl, rfl⟩ := parts_inj (by simpa using hl) (fun x hx => h1 x (List.mem_cons_of_mem _ hx)) (fun x hx => h2 x (List.mem_cons_of_mem _ hx)) e4
    have e5 : numF p.File = numF q.File := by omega
    refine ⟨?_, rfl⟩
    congr 1
    obtain ⟨pd, pl, pf⟩ := p
    obtain ⟨qd, ql, qf⟩ := q
    simp only at *
    have e6 : pd = qd := by omega
    have e7 : pl = ql := by omega
    have e8 : pf = qf := by rw [p4, q4, e5]
    rw [e6, e7, e8]
theorem enc_inj {s t : St} (hs : OkSt s) (ht : OkSt t) (ls : s.Parts.length ≤ 1000000) (lt : t.Parts.length ≤ 1000000) (h : encB s = encB t) : s = t := by
  have hL := flat_inj (fun x hx => by have := encL_small hs ls x hx; omega) (fun x hx => by have := encL_small ht lt x hx; omega) h
  unfold encL at hL
  obtain ⟨h1, h2⟩ := List.cons.inj hL
  have hf : ∀ {s : St}, OkSt s → ∀ p ∈ s.Parts, 0 ≤ p.Day ∧ 0 ≤ p.Layout ∧ 0 ≤ numF p.File ∧ p.File = fileB (numF p.File) := fun h p hp => by
    obtain ⟨g1, -, g3, -, g5, -, g7⟩ := okst_num h hp
    exact ⟨g1, g3, g5, g7⟩
  obtain ⟨h3, h4⟩ := parts_inj h1 (hf hs) (hf ht) h2
  simp only [List.cons_append, List.nil_append, List.cons.injEq] at h4
  obtain ⟨e1, e2, e3⟩ := h4
  have s1 := hs.n0; have s2 := hs.p0; have t1 := ht.n0; have t2 := ht.p0
  obtain ⟨P, N, Q, O, D, T, X⟩ := s
  obtain ⟨P', N', Q', O', D', T', X'⟩ := t
  simp only at *
  subst h3
  have e4 : N = N' := by omega
  have e5 : Q = Q' := by omega
  subst e4 e5
  unfold endN at e3
  cases O <;> cases O'
  · obtain ⟨a1, a2, a3⟩ := hs.offs rfl
    obtain ⟨b1, b2, b3⟩ := ht.offs rfl
    simp only at *
    rw [a1, a2, a3, b1, b2, b3]
  · simp at e3
  · simp at e3
  · obtain ⟨p, hp, hb, -, h4, h5⟩ := hs.conv rfl
    obtain ⟨p', hp', hb', -, h4', h5'⟩ := ht.conv rfl
    obtain ⟨hm, hd⟩ := findP_mem hp
    obtain ⟨hm', hd'⟩ := findP_mem hp'
    have g1 := (okst_num hs hm).1
    have g2 := (okst_num ht hm').1
    simp only [if_pos, List.cons.injEq, true_and, and_true] at e3
    simp only at *
    obtain ⟨e6, e7, e8⟩ := e3
    have e9 : D = D' := by omega
    have e10 : T = T' := by unfold bitOk at hb hb'; omega
    have e11 : X = X' := by omega
    rw [e9, e10, e11]
/-- what Encode answers -/
def EncPost (s : St) (w : World) (e : Ending) (w' : World) : Prop :=
  ((OkSt s ∧ e = .returned (.tuple #[.string (S (encB s)), .int .i64 0])) ∨ (¬ OkSt s ∧ e = .returned (.tuple #[.string ⟨#[]⟩, .int .i64 170]))) ∧ Below w.heap.size w w'
end Go.Proofs.YtbheoahpaidpmaaDoor
