/-
  Plain Lean: bits, the code of a number, what it costs.
-/
import Derived.Test.YtjendmojkdkipaaSlice
namespace Go.Proofs.Ytjendmojkdkipaa
open Go Go.RowKit

/-- the low bits of a number, the highest one first -/
def lowL (n b : Nat) : List Bool := (List.range b).map fun i => n.testBit (b - 1 - i)
theorem lowL_length (n b : Nat) : (lowL n b).length = b := by simp [lowL]
theorem lowL_take {n b j : Nat} (h : j < b) : (lowL n b).take (j + 1) = (lowL n b).take j ++ [n.testBit (b - 1 - j)] := by
  have hl : j < (lowL n b).length := by rw [lowL_length]; exact h
  rw [List.take_succ_eq_append_getElem hl]
  simp [lowL]

/-- the code of a number -/
def codeL (n k : Nat) : List Bool := if 24 ≤ n / 2 ^ k then List.replicate 24 true ++ lowL n 64 else List.replicate (n / 2 ^ k) true ++ [false] ++ lowL n k
def costOne (n k : Nat) : Nat := if n / 2 ^ k < 24 then n / 2 ^ k + 1 + k else 88
theorem codeL_length (n k : Nat) : (codeL n k).length = costOne n k := by
  unfold codeL costOne
  split <;> split <;> simp [lowL_length] <;> omega
theorem costOne_le {n k : Nat} (hk : k ≤ 40) : costOne n k ≤ 88 := by unfold costOne; split <;> omega
theorem costOne_big {n k : Nat} (h : ¬ n / 2 ^ k < 24) : costOne n k = 88 := by unfold costOne; rw [if_neg h]
theorem costOne_small {n k : Nat} (h : n / 2 ^ k < 24) : costOne n k = n / 2 ^ k + 1 + k := by unfold costOne; rw [if_pos h]

def costN (l : List Nat) (k : Nat) : Nat := (l.map fun x => costOne x k).sum
theorem costN_snoc (l : List Nat) (x k : Nat) : costN (l ++ [x]) k = costN l k + costOne x k := by simp [costN]
theorem costN_le {k : Nat} (hk : k ≤ 40) : ∀ l : List Nat, costN l k ≤ 88 * l.length := by
  intro l
  induction l with
  | nil => simp [costN]
  | cons x l ih =>
    have := costOne_le (n := x) hk
    simp [costN] at ih ⊢; omega
/-- what numbers cost with any k -/
def costZ (l : List Nat) (k : Int) : Nat := if k < 0 ∨ 40 < k then 0 else costN l k.toNat

/-- the best k of those up to one -/
def bestN (l : List Nat) : Nat → Nat
  | 0 => 0
  | j + 1 => if costN l (j + 1) < costN l (bestN l j) then j + 1 else bestN l j
theorem bestN_le (l : List Nat) : ∀ j, bestN l j ≤ j := by
  intro j
  induction j with
  | zero => simp [bestN]
  | succ j ih => simp only [bestN]; split <;> omega
theorem bestN_least (l : List Nat) : ∀ j i, i ≤ j → costN l (bestN l j) ≤ costN l i ∧ (i < bestN l j → costN l (bestN l j) < costN l i) := by
  intro j
  induction j with
  | zero => intro i hi; obtain rfl : i = 0 := by omega
            simp [bestN]
  | succ j ih =>
    intro i hi
    have hle := bestN_le l j
    simp only [bestN]
    by_cases hc : costN l (j + 1) < costN l (bestN l j)
    · rw [if_pos hc]
      by_cases hij : i = j + 1
      · subst hij; exact ⟨Nat.le_refl _, fun h => absurd h (by omega)⟩
      · have := (ih i (by omega)).1
        exact ⟨by omega, fun _ => by omega⟩
    · rw [if_neg hc]
      by_cases hij : i = j + 1
      · subst hij; exact ⟨by omega, fun h => by omega⟩
      · exact ih i (by omega)

theorem shr_nat (x k : Nat) : (x : Int) / 2 ^ k = ((x / 2 ^ k : Nat) : Int) := by norm_cast

def u64Cells (l : List Nat) : List Value := l.map fun (x : Nat) => .int .u64 (x : Int)
def boolCells (l : List Bool) : List Value := l.map Value.bool
theorem u64_at {w : World} {A : Option Addr} {l : List Nat} (h : Rd w 1 A l.length (u64Cells l)) {i : Nat} (hi : i < l.length) :
    ∃ b off, A = some ⟨b, off, none⟩ ∧ b < w.heap.size ∧ w.cell? ⟨b, off + i, none⟩ = some (.int .u64 (l[i] : Int)) := by
  obtain ⟨b, off, e, hb, hc⟩ := h.2 (by omega)
  exact ⟨b, off, e, hb, hc i _ (by simp [u64Cells, hi])⟩
theorem nat_take {l : List Nat} {i : Nat} (hi : i < l.length) : l.take (i + 1) = l.take i ++ [l[i]] := by
  rw [List.take_succ_eq_append_getElem hi]
end Go.Proofs.Ytjendmojkdkipaa
