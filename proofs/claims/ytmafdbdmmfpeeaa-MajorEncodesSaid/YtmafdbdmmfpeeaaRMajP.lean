/-
  The document's table of series, plain words.
-/
import Derived.Test.YtmafdbdmmfpeeaaMajIds
namespace Go.Proofs.Ytmafdbdmmfpeeaa
open Go Go.RowKit

def txC (p : Nat × List UInt8) : List Value := [.string (S p.2)]
theorem txC_length (p : Nat × List UInt8) : (txC p).length = 1 := rfl
def eidC (e : Nat × Nat) : List Value := [.int .i64 (e.1 : Int)]
theorem eidC_length (e : Nat × Nat) : (eidC e).length = 1 := rfl
def eszC (e : Nat × Nat) : List Value := [.int .i64 (e.2 : Int)]
theorem eszC_length (e : Nat × Nat) : (eszC e).length = 1 := rfl
theorem cutE_ids : ∀ (es : List (Nat × Nat)) (t : List UInt8), (cutE es t).flatMap idCells = es.flatMap eidC
  | [], _ => rfl
  | e :: es, t => by simp [cutE, cutE_ids es, idCells, eidC]
theorem cutE_get : ∀ (i : Nat) (es : List (Nat × Nat)) (t : List UInt8) (h : i < es.length) (h' : i < (cutE es t).length), (cutE es t)[i].2 = (t.drop (sumE (es.take i))).take es[i].2
  | i, [], _, h, _ => absurd h (by simp)
  | 0, e :: es, t, _, _ => by simp [cutE, sumE]
  | i + 1, e :: es, t, h, h' => by
    simp only [cutE, List.getElem_cons_succ]
    rw [cutE_get i es _ (by simpa using h) (by simpa [cutE] using h'), List.drop_drop]
    congr 2
theorem txE_next {es : List (Nat × Nat)} {t : List UInt8} {i : Nat} (h : i < es.length) : ((cutE es t).take (i + 1)).flatMap txC = ((cutE es t).take i).flatMap txC ++ [.string (S ((t.drop (sumE (es.take i))).take es[i].2))] := by
  have h' : i < (cutE es t).length := by rw [cutE_len]; exact h
  rw [show (cutE es t).take (i + 1) = (cutE es t).take i ++ [(cutE es t)[i]] by rw [List.take_append_getElem], List.flatMap_append]
  simp [txC, cutE_get i es t h h']
/-- what the document's table answers -/
def RTabPost (s : ByteArray) (B : Nat) (w : World) (e : Ending) (w' : World) : Prop :=
  (tableR s.data.toList = none ∧ e = .returned (.tuple #[.slice none 0 0, .slice none 0 0, .bool false]) ∧ Below B w w') ∨
    ∃ ps v t, tableR s.data.toList = some ps ∧ e = .returned (.tuple #[v, t, .bool true]) ∧ Lie (fun k => k < B) 3 1 v ps.length (ps.flatMap idCells) w' ∧ Lie (fun k => k < B) 9 1 t ps.length (ps.flatMap txC) w' ∧ ps.length ≤ 200 ∧ Below B w w'
end Go.Proofs.Ytmafdbdmmfpeeaa
