/-
  Series in bytes: the answer of Encode, in plain words.
-/
import Derived.Test.YtmafdbdmmfpeeaaMajP
import Derived.Test.YtmafdbdmmfpeeaaDeltaLen
import Derived.Test.YtmafdbdmmfpeeaaRDEnc0
namespace Go.Proofs.Ytmafdbdmmfpeeaa
open Go Go.RowKit

def goodSb : Int → List Ser → Bool
  | _, [] => true
  | last, x :: l => fineB x.L && decide (0 < x.L.length) && decide (last < x.ID) && decide (x.ID < 200) && goodSb x.ID l
theorem goodSb_iff : ∀ {l : List Ser} {last : Int}, goodSb last l = true ↔ goodS last l
  | [], _ => by simp [goodSb, goodS]
  | x :: l, last => by
    have h := @goodSb_iff l x.ID
    have hl : 0 < x.L.length ↔ x.L ≠ [] := List.length_pos_iff
    simp only [goodSb, goodS, Bool.and_eq_true, decide_eq_true_eq, fineB_iff, h, hl]
    constructor
    · rintro ⟨⟨⟨⟨a, b⟩, c⟩, d⟩, e⟩; exact ⟨a, b, c, d, e⟩
    · rintro ⟨a, b, c, d, e⟩; exact ⟨⟨⟨⟨a, b⟩, c⟩, d⟩, e⟩
def encSV (l : List Ser) : List UInt8 × Nat := if goodSb (-1) l then (encS l, 0) else ([], 30)
theorem encSV_good {l : List Ser} (h : goodSb (-1) l = true) : encSV l = (encS l, 0) := if_pos h
theorem encSV_no {l : List Ser} (h : goodSb (-1) l = false) : encSV l = ([], 30) := if_neg (by rw [h]; simp)
theorem drop_ser {l : List Ser} {i : Nat} (h : i < l.length) {last : Int} : goodSb last (l.drop i) = (fineB l[i].L && decide (0 < l[i].L.length) && decide (last < l[i].ID) && decide (l[i].ID < 200) && goodSb l[i].ID (l.drop (i + 1))) := by
  rw [List.drop_eq_getElem_cons h]; rfl
theorem take_ser {l : List Ser} {i : Nat} (h : i < l.length) : headS (l.take (i + 1)) = headS (l.take i) ++ (uint l[i].ID.toNat ++ uint (encB l[i].L).length) ∧ bodyS (l.take (i + 1)) = bodyS (l.take i) ++ encB l[i].L := by
  rw [show l.take (i + 1) = l.take i ++ [l[i]] by rw [List.take_append_getElem]]
  unfold headS bodyS
  rw [List.flatMap_append, List.flatMap_append]
  simp only [List.flatMap_cons, List.flatMap_nil, List.append_nil]
  exact ⟨trivial, trivial⟩
end Go.Proofs.Ytmafdbdmmfpeeaa
