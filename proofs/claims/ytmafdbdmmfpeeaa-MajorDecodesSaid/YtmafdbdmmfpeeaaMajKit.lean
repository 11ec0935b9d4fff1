/-
  Kit for the laws of series: bounds; the series as the document's.
-/
import Derived.Test.YtmafdbdmmfpeeaaMajEnc
import Derived.Test.YtmafdbdmmfpeeaaRMajEnc
import Derived.Test.YtmafdbdmmfpeeaaHeavy
import Derived.Test.YtmafdbdmmfpeeaaTheirs
import Derived.Test.YtmafdbdmmfpeeaaMajFind
namespace Go.Proofs.Ytmafdbdmmfpeeaa
open Go Go.RowKit

theorem sumN_mem : ∀ {xs : List SerV} {x : SerV}, x ∈ xs → x.n ≤ sumN xs
  | y :: xs, x, h => by
    have hs : sumN (y :: xs) = y.n + sumN xs := by simp [sumN]
    rw [hs]
    rcases List.mem_cons.1 h with rfl | h
    · omega
    · have := sumN_mem h; omega
/-- what the argument is -/
def SersIn (w : World) (v : Value) : Prop := ∃ A c, ∃ (xs : List SerV) (l : List Ser), v = .slice A xs.length c ∧ SersAt w A xs l ∧ (∀ i, (h1 : i < xs.length) → (h2 : i < l.length) → SerOk xs[i] l[i]) ∧ xs.length ≤ c ∧ c ≤ maxLen
theorem sers_len {w : World} {A : Option Addr} {xs : List SerV} {l : List Ser} (h : SersAt w A xs l) {k : Nat} (hk : ∀ x ∈ xs, x.n ≤ k) : ∀ x ∈ l, x.L.length ≤ k := fun x hx => by
  obtain ⟨i, hi, rfl⟩ := List.getElem_of_mem hx
  rw [(h.at_ i (by rw [← h.len]; exact hi)).len]
  exact hk _ (List.getElem_mem _)
theorem sers_ok {w : World} {A : Option Addr} {xs : List SerV} {l : List Ser} (h : SersAt w A xs l) (hok : ∀ i, (h1 : i < xs.length) → (h2 : i < l.length) → SerOk xs[i] l[i]) : ∀ x ∈ l, ∀ y ∈ x.L, Sample.ok y := fun x hx => by
  obtain ⟨i, hi, rfl⟩ := List.getElem_of_mem hx
  exact (hok i (by rw [← h.len]; exact hi) hi).2.1
theorem sers_max {w : World} {A : Option Addr} {xs : List SerV} {l : List Ser} (h : SersAt w A xs l) (hok : ∀ i, (h1 : i < xs.length) → (h2 : i < l.length) → SerOk xs[i] l[i]) : ∀ x ∈ xs, x.n ≤ maxLen := fun x hx => by
  obtain ⟨i, hi, rfl⟩ := List.getElem_of_mem hx
  obtain ⟨-, -, h1, h2⟩ := hok i hi (by rw [h.len]; exact hi)
  omega
theorem SersAt.moved {w w' : World} {A A' : Option Addr} {xs : List SerV} {l : List Ser} (h : SersAt w A xs l) (hr : Rd w' 2 A' xs.length (xs.flatMap serCells)) (hb : Below w.heap.size w w') : SersAt w' A' xs l := ⟨h.len, hr, fun i hi => (h.at_ i hi).below hb⟩
/-- theirs, then the document's Encode: in two steps -/
theorem theirs_sers (A : Option Addr) (c : Nat) (xs : List SerV) (l : List Ser) (w : World) (h : SersAt w A xs l) (hl : xs.length ≤ 1000000) : Calls Try.prog 16 #[.slice A xs.length c] w
    fun e w' => ∃ A' c', e = .returned (.slice A' xs.length c') ∧ SersAt w' A' xs l ∧ Below w.heap.size w w' :=
  (theirs_any A c xs w h.rd hl).mono fun _ _ ⟨A', c', he, hr, hb⟩ => ⟨A', c', he, h.moved hr hb, hb⟩
def mostL (l : List Ser) : Nat := 2 + (l.map fun x => 30 + 22 * x.L.length).sum
theorem encS_small : ∀ (l : List Ser) (last : Int), goodS last l → (∀ x ∈ l, ∀ y ∈ x.L, Sample.ok y) → (∀ x ∈ l, x.L.length ≤ 300) → (headS l).length + (bodyS l).length ≤ (l.map fun x => 30 + 22 * x.L.length).sum
  | [], _, _, _, _ => by simp [headS, bodyS]
  | x :: l, last, h, ho, hl => by
    obtain ⟨h1, h2, h3, h4, h5⟩ := h
    have ih := encS_small l x.ID h5 (fun y hy => ho y (List.mem_cons_of_mem _ hy)) (fun y hy => hl y (List.mem_cons_of_mem _ hy))
    have hx := hl x (List.mem_cons_self ..)
    have he := encB_len h1 (ho x (List.mem_cons_self ..)) (by omega)
    have hu1 : (uint x.ID.toNat).length ≤ 2 := uint_len2 (by omega)
    have hu2 : (uint (encB x.L).length).length ≤ 2 := uint_len_le 1 _ (by omega)
    have e1 : headS (x :: l) = uint x.ID.toNat ++ uint (encB x.L).length ++ headS l := by simp [headS]
    have e2 : bodyS (x :: l) = encB x.L ++ bodyS l := by simp [bodyS]
    rw [e1, e2]
    simp only [List.length_append, List.map_cons, List.sum_cons]
    omega
theorem encSV_small {l : List Ser} (ho : ∀ x ∈ l, ∀ y ∈ x.L, Sample.ok y) (hl : ∀ x ∈ l, x.L.length ≤ 300) (hn : l.length ≤ 300) : (encSV l).1.length ≤ mostL l := by
  cases h : goodSb (-1) l with
  | false => rw [encSV_no h]; simp
  | true =>
    rw [encSV_good h]
    have h1 := encS_small l (-1) (goodSb_iff.1 h) ho hl
    have h2 : (uint l.length).length ≤ 2 := uint_len2 (by omega)
    unfold encS mostL
    simp only [List.length_append]
    omega
theorem mostL_take {l : List Ser} {i : Nat} (h : i < l.length) : mostL (l.take (i + 1)) = mostL (l.take i) + (30 + 22 * l[i].L.length) := by
  rw [show l.take (i + 1) = l.take i ++ [l[i]] by rw [List.take_append_getElem]]
  unfold mostL
  rw [List.map_append, List.sum_append]
  simp only [List.map_cons, List.map_nil, List.sum_cons, List.sum_nil, Nat.add_zero]
  omega
theorem mostL_le : ∀ (l : List Ser), (∀ x ∈ l, x.L.length ≤ 300) → mostL l ≤ 2 + 10000 * l.length
  | [], _ => by simp [mostL]
  | x :: l, h => by
    have ih := mostL_le l fun y hy => h y (List.mem_cons_of_mem _ hy)
    have hx := h x (List.mem_cons_self ..)
    have e : mostL (x :: l) = mostL l + (30 + 22 * x.L.length) := by simp only [mostL, List.map_cons, List.sum_cons]; omega
    rw [e]
    simp only [List.length_cons]
    omega
end Go.Proofs.Ytmafdbdmmfpeeaa
