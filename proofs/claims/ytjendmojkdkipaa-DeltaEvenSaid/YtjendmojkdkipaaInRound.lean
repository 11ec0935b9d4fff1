/-
  A round of a range over a function: regions are walked there as everywhere. Over any program.
-/
import Derived.Test.YtjendmojkdkipaaKeep
import Derived.RangeFuncNested
import Derived.RangeFuncBound
import Derived.RangeFuncCalls
import Derived.RangeFuncLeaves
import Derived.RangeFuncFrom
import Derived.OrdersHeld
import Derived.OrdersIn
import Derived.TacticsIn
namespace Go.Proofs.Ytjendmojkdkipaa
open Go Go.RowKit

/-- the fence of a round, wide but for that -/
abbrev Rnd (l : Nat) : Fence := Fence.wide.inRound l

section
variable {P : Program} {ops : Array Oper} {Q : Exit → Act → World → Prop} {l n : Nat}
theorem op_in {o : Oper} {a : Act} {w : World} {K : Act → World → Prop} (hd : ∀ c, o.op ≠ .defer c) (h : o.wp P a w K Q) : o.wpIn (Rnd l) n P a w K Q := by
  refine ⟨fun _ _ => trivial, ?_⟩
  rw [Oper.semAt_eq _ _ _ hd]
  unfold Oper.wp at h
  generalize (execOp a.eval o).run P w = r at *
  cases r with
  | ok x w' =>
    cases x <;> simp only [Oper.upon, Oper.uponIn] at h ⊢
    case value v => exact h
    case skip => exact h
    case defer d => exact h
    case enter f args => exact ⟨fun e => (by cases e), CallsIn.inRound l (callsIn_wide.2 h)⟩
    case row row args =>
      refine ⟨fun e => (by cases e), fun c cs _ => ?_⟩
      obtain ⟨v, w'', hr, hs⟩ := h c cs
      exact ⟨v, w'', hr, stepsIn_wide.2 hs⟩
  | halt x w' => cases x <;> simp only [Oper.upon, Oper.uponIn] at h ⊢ <;> exact h

def NoDefer (ops : List Oper) : Prop := ∀ o ∈ ops, ∀ c, o.op ≠ .defer c
theorem list_in (hl : ¬ LetsOut Q) : ∀ (rest : List Oper) (a : Act) (w : World), NoDefer rest → wpList P ops Q rest a w → wpListIn (Rnd l) n P ops Q rest a w := by
  intro rest
  induction rest with
  | nil => intro a w _ h; exact h
  | cons o rest ih =>
    intro a w hd h
    have hd' : NoDefer rest := fun o' ho' => hd o' (List.mem_cons_of_mem _ ho')
    unfold wpList at h
    unfold wpListIn
    split
    · rename_i hw
      rw [if_pos hw] at h
      rcases h with h | h
      · exact Oper.wpIn_mono (fun a w h => ih a w hd' h) (op_in (hd o (by simp)) h)
      · exact absurd h.2 hl
    · rename_i hw
      rw [if_neg hw] at h
      exact ⟨fun _ _ => trivial, ih _ _ hd' h⟩
theorem wpOp_in (hl : ¬ LetsOut Q) (hd : NoDefer ops.toList) {i : Nat} {K : Act → World → Prop} {a : Act} {w : World} (h : wpOp P ops Q i K a w) : wpOpIn (Rnd l) n P ops Q i K a w := by
  unfold wpOp at h
  unfold wpOpIn
  split
  · rename_i ho; simp only [ho] at h; exact h
  · rename_i o ho
    simp only [ho] at h
    split
    · rename_i hw
      rw [if_pos hw] at h
      rcases h with h | h
      · exact op_in (hd o (Array.mem_toList_iff.2 (Array.mem_of_getElem? ho))) h
      · exact absurd h.2 hl
    · rename_i hw
      rw [if_neg hw] at h
      exact ⟨fun _ _ => trivial, h⟩
theorem any_in (hl : ¬ LetsOut Q) (hd : NoDefer ops.toList) {md : Region.Mode} : ∀ (fuel : Nat) (listed : Array Bool) (a : Act) (w : World), wpAny P md ops Q fuel listed a w → wpAnyIn (Rnd l) n P md ops Q fuel listed a w
  | 0, _, _, _, h => h
  | fuel + 1, _, _, _, h => ⟨h.1, fun i hi => wpOpIn_mono (fun a' w' h' => any_in hl hd fuel _ a' w' h') (wpOp_in hl hd (h.2 i hi))⟩

/-- a region that draws its order, in a round -/
theorem drawn_in {id : Nat} {a : Act} {w : World} {S : World → Prop} (hm : P.follows .mixedOrders = true) (hl : ¬ LetsOut Q) (hd : NoDefer ops.toList) (hS : S w.drew)
    (h : S w.drew → wpAnyH P .any ops Q S ops.size (Array.replicate ops.size false) a w.drew) : (Code.region id ops true).wpIn (Rnd l) n P Q a w :=
  wpIn_region_any hm (any_in hl hd _ _ _ _ (wpAny_of_held _ _ _ _ (h hS)))
/-- a plain region, in a round -/
theorem plain_in {id : Nat} {a : Act} {w : World} (hl : ¬ LetsOut Q) (hd : NoDefer ops.toList) (h : wpList P ops Q ops.toList a w) : (Code.region id ops false).wpIn (Rnd l) n P Q a w :=
  wpIn_region_list (list_in hl _ _ _ hd h)
end
end Go.Proofs.Ytjendmojkdkipaa
