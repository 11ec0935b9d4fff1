/-
  Plain Lean: what makes a state right, part by part.
-/
import Derived.Test.YtbheoahpaidpmaaDoorManNumP
import Derived.Test.YtbheoahpaidpmaaDoorManTurnP
namespace Go.Proofs.YtbheoahpaidpmaaDoor
open Go Go.RowKit

/-- part j is right beside those ahead of it -/
def partOk (l : List PartV) (N : Int) (j : Nat) (h : j < l.length) : Prop :=
  dayOk l[j].Day ∧ bitOk l[j].Layout ∧ 0 ≤ numF l[j].File ∧ numF l[j].File < N ∧ (∀ i, j = i + 1 → (h' : i < l.length) → l[i].Day < l[j].Day) ∧ ∀ k, (hk : k < j) → (l[k]'(by omega)).File ≠ l[j].File
theorem asc_of : ∀ {l : List PartV}, (∀ i, (h : i + 1 < l.length) → (l[i]'(by omega)).Day < l[i + 1].Day) → asc l
  | [], _ => trivial
  | [_], _ => trivial
  | x :: y :: l, h => by
    refine ⟨h 0 (by simp), asc_of (l := y :: l) fun i hi => ?_⟩
    have := h (i + 1) (by simpa using hi)
    simpa using this
theorem okst_part {s : St} (h : OkSt s) {j : Nat} (hj : j < s.Parts.length) : partOk s.Parts s.Next j hj := by
  obtain ⟨h1, h2, m, h3, h4⟩ := h.part _ (List.getElem_mem hj)
  have hn := h.n1
  have hf : numF s.Parts[j].File = m := by rw [h4]; exact numF_file (by omega)
  refine ⟨h1, h2, by omega, by omega, fun i hi h' => ?_, fun k hk => ?_⟩
  · exact asc_get h.asc j i hj (by omega)
  · exact (List.pairwise_iff_getElem.1 h.files) k j (by omega) hj hk
theorem okst_of {s : St} (n0 : 0 ≤ s.Next) (n1 : s.Next ≤ 1099511627776) (p0 : 0 ≤ s.Past) (p1 : s.Past ≤ 1099511627776) (hp : ∀ j, (hj : j < s.Parts.length) → partOk s.Parts s.Next j hj)
    (offs : s.On = false → s.Day = 0 ∧ s.To = 0 ∧ s.Done = 0) (conv : s.On = true → ∃ p, findP s.Parts s.Day = some p ∧ bitOk s.To ∧ p.Layout ≠ s.To ∧ 0 ≤ s.Done ∧ s.Done ≤ 5000) : OkSt s := by
  refine ⟨n0, n1, p0, p1, asc_of fun i hi => (hp (i + 1) hi).2.2.2.2.1 i rfl (by omega), fun p hm => ?_, List.pairwise_iff_getElem.2 fun i j hi hj hij => (hp j hj).2.2.2.2.2 i hij, offs, conv⟩
  obtain ⟨j, hj, rfl⟩ := List.getElem_of_mem hm
  obtain ⟨h1, h2, h3, h4, -, -⟩ := hp j hj
  obtain ⟨m, h5, h6, -⟩ := numF_some (l := s.Parts[j].File) (by omega)
  exact ⟨h1, h2, m, by omega, h6⟩
/-- what Right answers -/
def RtPost (s : St) (w : World) (e : Ending) (w' : World) : Prop := ∃ b : Bool, e = .returned (.bool b) ∧ (b = true ↔ OkSt s) ∧ Below w.heap.size w w'
theorem RtPost.no {s : St} {w w' : World} (h : ¬ OkSt s) (hb : Below w.heap.size w w') : RtPost s w (.returned (.bool false)) w' := ⟨false, rfl, by simp [h], hb⟩
theorem RtPost.yes {s : St} {w w' : World} (h : OkSt s) (hb : Below w.heap.size w w') : RtPost s w (.returned (.bool true)) w' := ⟨true, rfl, by simp [h], hb⟩
end Go.Proofs.YtbheoahpaidpmaaDoor
