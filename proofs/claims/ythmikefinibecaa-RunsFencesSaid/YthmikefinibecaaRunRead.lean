/-
  runs: has, behind, read.
-/
import Derived.Test.YthmikefinibecaaRunFen1
namespace Go.Proofs.Ythmikefinibecaa
open Go Go.RowKit

def fenVal (f : Fen) : Value := .agg #[.int .i64 f.F, .int .i64 f.T, .int .i64 f.n, .string (S f.b)]
def hasR (f : Fen) (x y : Int) : Bool := decide (max f.F x < min f.T y)

set_option maxRecDepth 100000 in
set_option maxHeartbeats 1000000 in
theorem has_any (f : Fen) (x y : Int) (w : World) : Calls Try.prog 21 #[fenVal f, .agg #[.int .i64 x, .int .i64 y]] w fun e w' => e = .returned (.bool (hasR f x y)) ∧ Below w.heap.size w w' := by
  unfold fenVal hasR
  obtain ⟨F, T, n, b⟩ := f
  simp only
  obtain ⟨p, hp⟩ : ∃ p, max F x = p := ⟨_, rfl⟩
  obtain ⟨q, hq⟩ : ∃ q, min T y = q := ⟨_, rfl⟩
  have hp2 : (if F < x then x else F) = p := by rw [← hp]; split <;> omega
  have hq2 : (if y < T then y else T) = q := by rw [← hq]; split <;> omega
  rw [hp, hq]
  go_enter Try.func21, Try.ntmps21
  go_wp2_with fail
  go_ret
  exact ⟨rfl, ((Below.refl _ w).alloc (Nat.le_refl _) _).alloc (by simp) _⟩

set_option maxRecDepth 100000 in
set_option maxHeartbeats 1000000 in
theorem behind_any (a b : Row) (w : World) : Calls Try.prog 26 #[rowVal a, rowVal b] w fun e w' => e = .returned (.bool (behR a b)) ∧ Below w.heap.size w w' := by
  unfold rowVal behR
  obtain ⟨T, I, V⟩ := a
  obtain ⟨T', I', V'⟩ := b
  simp only
  go_enter Try.func26, Try.ntmps26
  have hc : T' < T ∨ (T ≤ T' ∧ T' = T) ∨ (T ≤ T' ∧ T' ≠ T) := by omega
  rcases hc with h | ⟨h, h'⟩ | ⟨h, h'⟩
  · have k1 : decide (T' < T) = true := decide_eq_true h
    rw [k1, Bool.true_or]
    clear h
    go_wp2_with fail
    go_ret
    exact ⟨rfl, ((Below.refl _ w).alloc (Nat.le_refl _) _).alloc (by simp) _⟩
  · subst h'
    rw [show decide (T' < T') = false from decide_eq_false (by omega), show (T' == T') = true from beq_self_eq_true _, Bool.false_or, Bool.true_and]
    clear h
    go_wp2_with fail
    go_ret
    exact ⟨rfl, ((Below.refl _ w).alloc (Nat.le_refl _) _).alloc (by simp) _⟩
  · have k1 : decide (T' < T) = false := decide_eq_false (by omega)
    have k2 : (T' == T) = false := beq_eq_false_iff_ne.2 h'
    have k3 : (T == T') = false := beq_eq_false_iff_ne.2 (fun e => h' e.symm)
    rw [k1, k3, Bool.false_and, Bool.false_or]
    clear h h' k3
    go_wp2_with fail
    go_ret
    exact ⟨rfl, ((Below.refl _ w).alloc (Nat.le_refl _) _).alloc (by simp) _⟩
end Go.Proofs.Ythmikefinibecaa
