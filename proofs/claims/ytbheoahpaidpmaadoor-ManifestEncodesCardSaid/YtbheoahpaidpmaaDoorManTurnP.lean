/-
  Plain Lean: a day that is converted.
-/
import Derived.Test.YtbheoahpaidpmaaDoorLawManKit
namespace Go.Proofs.YtbheoahpaidpmaaDoor
open Go Go.RowKit

theorem asc_get : ∀ {l : List PartV}, asc l → ∀ i j, (hi : i < l.length) → (hj : j < i) → (l[j]'(by omega)).Day < l[i].Day
  | [], _, i, _, hi, _ => absurd hi (by simp)
  | y :: l, ha, i, j, hi, hj => by
    obtain ⟨g1, g2⟩ := asc_cons.1 ha
    cases i with
    | zero => omega
    | succ i =>
      cases j with
      | zero => simp only [List.getElem_cons_zero, List.getElem_cons_succ]; exact g1 _ (List.getElem_mem _)
      | succ j => simp only [List.getElem_cons_succ]; exact asc_get g2 i j (by simpa using hi) (by omega)
theorem findP_mem {l : List PartV} {d : Int} {p : PartV} (h : findP l d = some p) : p ∈ l ∧ p.Day = d := by
  unfold findP at h
  exact ⟨List.mem_of_find?_eq_some h, by simpa using List.find?_some h⟩
theorem turns_parts {l : List PartV} (ha : asc l) {d : Int} {p q : PartV} (hp : findP l d = some p) (hq : q.Day = d) :
    (insP q (l.filter (kp d))).length = l.length ∧ ∀ i, (h : i < l.length) → (h' : i < (insP q (l.filter (kp d))).length) →
      (l[i].Day = d → (insP q (l.filter (kp d)))[i] = q ∧ l[i] = p) ∧ (l[i].Day ≠ d → (insP q (l.filter (kp d)))[i] = l[i]) := by
  obtain ⟨hm, hd⟩ := findP_mem hp
  obtain ⟨hc, he⟩ := (there_iff (d := d) ha).1 ⟨p, hm, hd⟩
  subst hq
  have hs := ins_set (p := q) ha hc he
  have hk : l.filter (kp q.Day) = l.filter (fun x => x.Day != q.Day) := rfl
  rw [hk, hs]
  have huniq : ∀ i, (h : i < l.length) → l[i].Day = q.Day → i = cntP q.Day l := by
    intro i h hi
    rcases Nat.lt_trichotomy i (cntP q.Day l) with h1 | h1 | h1
    · have := asc_get ha _ i hc h1; omega
    · exact h1
    · have := asc_get ha i _ h h1; omega
  refine ⟨by simp, fun i h h' => ⟨fun hi => ?_, fun hi => ?_⟩⟩
  · have hi' := huniq i h hi
    subst hi'
    refine ⟨by simp, ?_⟩
    obtain ⟨j, hj, rfl⟩ := List.getElem_of_mem hm
    have := huniq j hj hd
    simp only [this]
  · rw [List.getElem_set_ne (fun e => hi (by simp only [← e]; exact he))]
/-- what a put leaves there -/
theorem findP_put (q : PartV) (l : List PartV) (h : ∀ x ∈ l, x.Day ≠ q.Day) : findP (insP q l) q.Day = some q := by
  induction l with
  | nil => simp [insP, findP]
  | cons x l ih =>
    unfold insP
    split
    · simp [findP]
    · unfold findP
      rw [List.find?_cons_of_neg (by simpa using h x (List.mem_cons_self ..))]
      exact ih fun y hy => h y (List.mem_cons_of_mem _ hy)
theorem put_facts {s t : St} {d y : Int} (h : putS s d y = some t) : findP t.Parts d = some ⟨d, y, fileB s.Next⟩ ∧ t.Parts = insP ⟨d, y, fileB s.Next⟩ (s.Parts.filter (kp d)) ∧ t.Next = s.Next + 1 ∧ (s.On = true → s.Day = d → t.On = false) := by
  unfold putS at h
  split at h
  · obtain rfl := (Option.some.inj h).symm
    refine ⟨?_, by simp only [dropS_parts'], rfl, fun h1 h2 => ?_⟩
    · refine findP_put ⟨d, y, fileB s.Next⟩ _ fun x hx => ?_
      rw [dropS_parts'] at hx
      have := (List.mem_filter.1 hx).2
      simpa [kp] using this
    · show (dropS s d).On = false
      unfold dropS
      rw [if_pos ⟨h1, h2⟩]
      rfl
  · cases h
/-- off, if it is on -/
def calm (s : St) : St := if s.On = true then offS s else s
theorem calm_facts {s : St} (h : OkSt s) : OkSt (calm s) ∧ (calm s).Parts = s.Parts ∧ (calm s).Next = s.Next ∧ (calm s).On = false ∧ (calm s).Done = 0 := by
  unfold calm
  split
  · exact ⟨h.off, rfl, rfl, rfl, rfl⟩
  · rename_i ho
    have ho : s.On = false := by simpa using ho
    exact ⟨h, rfl, rfl, ho, (h.offs ho).2.2⟩
theorem turn_first {s : St} {k : Nat} (h : OkFor s k) (hk : k ≤ 60) {d : Int} (h0 : 0 ≤ d) (h1 : d ≤ 3) :
    ∃ a, applyS s ⟨0, d, 0, 0⟩ = some a ∧ OkFor a (k + 1) ∧ ∃ p, findP a.Parts d = some p ∧ p.Layout = 0 := by
  have hp : ∃ a, putS s d 0 = some a := by
    unfold putS
    rw [if_pos ⟨⟨h0, by omega⟩, .inl rfl, by have := h.next; omega⟩]
    exact ⟨_, rfl⟩
  obtain ⟨a, ha⟩ := hp
  have ha' : applyS s ⟨0, d, 0, 0⟩ = some a := by rw [app0 (e := ⟨0, d, 0, 0⟩) rfl]; exact ha
  exact ⟨a, ha', h.app ha', _, (put_facts ha).1, rfl⟩
theorem turn_begin {a : St} {d : Int} {p : PartV} (hp : findP a.Parts d = some p) (hl : p.Layout = 0) (ho : a.On = false) : applyS a ⟨3, d, 1, 0⟩ = some { a with On := true, Day := d, To := 1 } := by
  rw [app3 (e := ⟨3, d, 1, 0⟩) rfl]
  simp only
  rw [hp]
  simp only
  rw [if_pos ⟨ho, .inr rfl, by omega⟩]
theorem turn_step {b : St} (ho : b.On = true) (hd : b.Done < 5000) : applyS b ⟨4, 0, 0, 0⟩ = some { b with Done := b.Done + 1 } := by
  rw [app4 (e := ⟨4, 0, 0, 0⟩) rfl, if_pos ⟨ho, hd⟩]
theorem turn_end {b : St} {k : Nat} (h : OkFor b k) (hk : k ≤ 1000) (ho : b.On = true) (ht : b.To = 1) : ∃ c, applyS b ⟨5, 0, 0, 0⟩ = some c ∧ c.On = false ∧ c.Next = b.Next + 1 ∧ c.Parts = insP ⟨b.Day, 1, fileB b.Next⟩ (b.Parts.filter (kp b.Day)) := by
  obtain ⟨p, hp, -⟩ := h.ok.conv ho
  obtain ⟨hm, hd⟩ := findP_mem hp
  have hday := (h.ok.part p hm).1
  rw [hd] at hday
  rw [app5 (e := ⟨5, 0, 0, 0⟩) rfl, if_pos ho, ht]
  have hc : ∃ c, putS b b.Day 1 = some c := by
    unfold putS
    rw [if_pos ⟨hday, .inr rfl, by have := h.next; omega⟩]
    exact ⟨_, rfl⟩
  obtain ⟨c, hc⟩ := hc
  obtain ⟨-, h2, h3, h4⟩ := put_facts hc
  exact ⟨c, hc, h4 ho rfl, h3, h2⟩
theorem turn_okb {P : List PartV} {N Q : Int} {k : Nat} (h : OkFor ⟨P, N, Q, false, 0, 0, 0⟩ k) {d : Int} {p : PartV} (hp : findP P d = some p) (hl : p.Layout = 0) {X : Int} (h0 : 0 ≤ X) (h1 : X ≤ 5000) : OkFor ⟨P, N, Q, true, d, 1, X⟩ k :=
  ⟨⟨h.ok.n0, h.ok.n1, h.ok.p0, h.ok.p1, h.ok.asc, h.ok.part, h.ok.files, (fun e => by cases e), fun _ => ⟨p, hp, .inr rfl, by show p.Layout ≠ 1; omega, h0, h1⟩⟩, h.len, h.next⟩
/-- the state whose steps are being done, in its variable -/
def TurnRel (V : World) (b : Nat) (T : TypeId) (K d : Nat) (P : List PartV) (N Q : Int) (gv iv : Value) (wr : World) : Prop :=
  ∃ (i : Nat) (A6 : Option Addr) (n6 c6 : Nat), iv = .int .i64 i ∧ gv = .int .i64 0 ∧ i ≤ K ∧ Var wr b T A6 n6 c6 ⟨P, N, Q, true, (d : Int), 1, (i : Int)⟩ ∧ Below V.heap.size V wr
def CntRel (W : World) (n : Nat) (iv : Value) (wr : World) : Prop := ∃ k : Nat, iv = .int .i64 k ∧ k ≤ n ∧ Below W.heap.size W wr
end Go.Proofs.YtbheoahpaidpmaaDoor
