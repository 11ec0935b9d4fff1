/-
  A region that draws its order: a head through which a condition on the world holds, and a forced tail. Over any program.
-/
import Derived.Test.YtjendmojkdkipaaStillIn
import Derived.Deep.RegionHeld
namespace Go.Proofs.Ytjendmojkdkipaa
open Go Go.RowKit

section
variable {P : Program} {ops : Array Oper} {Q : Exit → Act → World → Prop} {md : Region.Mode} {S : World → Prop} {n : Nat}

/-- whichever of the head comes up, S holds behind it; L where the head is done -/
def wpAnyLH (P : Program) (md : Region.Mode) (ops : Array Oper) (Q : Exit → Act → World → Prop) (S : World → Prop) (n : Nat) (L : Array Bool → Act → World → Prop) : Nat → Array Bool → Act → World → Prop
  | 0, listed, a, w => L listed a w
  | f + 1, listed, a, w =>
    Region.ready md ops listed ≠ [] ∧ ∀ i ∈ Region.ready md ops listed, i < n ∧ wpOp P ops Q i (fun a' w' => S w' ∧ wpAnyLH P md ops Q S n L f (listed.setIfInBounds i true) a' w') a w

theorem any_of_head {g : Nat} {L : Array Bool → Act → World → Prop} (hL : ∀ listed a w, L listed a w → wpAny P md ops Q g listed a w) :
    ∀ (f : Nat) (listed : Array Bool) (a : Act) (w : World), wpAnyLH P md ops Q S n L f listed a w → wpAny P md ops Q (f + g) listed a w
  | 0, listed, a, w, h => by rw [Nat.zero_add]; exact hL _ _ _ h
  | f + 1, listed, a, w, h => by
    rw [show f + 1 + g = (f + g) + 1 by omega]
    exact ⟨fun h0 => absurd h0 h.1, fun i hi => wpOp_mono (fun a' w' h' => any_of_head hL f _ a' w' h'.2) (h.2 i hi).2⟩

theorem wpAnyLH_first {i : Nat} {oi : Oper} {v : Value} {L : Array Bool → Act → World → Prop} (hi : ops[i]? = some oi) (hsel : ∀ (j : Nat) (o : Oper) cs b, ops[j]? = some o → o.op ≠ .select cs b)
    (hs : Region.sinkB md ops n = true) (hc : Region.chainB md ops n = true) (hn : n < ops.size) (hin : i < n)
    (hdone : ∀ listed a w, L listed a w → ∀ j ∈ Region.ready md ops listed, n ≤ j) (hQ : ∀ c a w, Q (.panic c) (a.put oi.dst v) w → Q (.panic c) a w) :
    ∀ (f : Nat) (listed : Array Bool) (a : Act) (w : World), HeadInv md ops n listed →
      (∀ j oj, ops[j]? = some oj → j ≠ i → listed.getD j true = false → (∀ e ∈ oj.after, Region.binds md e = true → e.on ≠ i) → oi.apart ops oj = true) →
      i ∈ Region.ready md ops listed → YieldsIf P ops S oi v a → S w →
      wpAnyLH P md ops Q S n L f (listed.setIfInBounds i true) (a.put oi.dst v) w → wpAnyLH P md ops Q S n L (f + 1) listed a w := by
  intro f
  induction f with
  | zero =>
    intro listed a w inv _ hr hy hS H
    have hun := (mem_ready.1 hr).1
    refine ⟨fun h => (by rw [h] at hr; cases hr), fun j hj => ?_⟩
    have hjn : j < n := by
      rcases Nat.lt_or_ge j n with h | h
      · exact h
      · exact absurd hj (tail_waits hs hc hn inv _ i rfl hin hun j h)
    refine ⟨hjn, ?_⟩
    by_cases hji : j = i
    · subst hji; exact hy.wpOp hi hS ⟨hS, H⟩
    · have := hdone _ _ _ H j (ready_mono hj hji)
      omega
  | succ f ih =>
    intro listed a w inv hfree hr hy hS H
    have hun := (mem_ready.1 hr).1
    refine ⟨fun h => (by rw [h] at hr; cases hr), fun j hj => ?_⟩
    have hjn : j < n := by
      rcases Nat.lt_or_ge j n with h | h
      · exact h
      · exact absurd hj (tail_waits hs hc hn inv _ i rfl hin hun j h)
    refine ⟨hjn, ?_⟩
    by_cases hji : j = i
    · subst hji; exact hy.wpOp hi hS ⟨hS, H⟩
    · have h1 := (H.2 j (ready_mono hj hji)).2
      obtain ⟨hjun, oj, hoj, hall⟩ := mem_ready.1 hj
      have hnot : ∀ e ∈ oj.after, Region.binds md e = true → e.on ≠ i := fun e he hb heq => by
        have h1 := hall e he hb
        rw [heq, getD_both hun] at h1
        cases h1
      have h2 := wpOp_putIf hoj (hfree j oj hoj hji hjun hnot) (fun cs b => hsel i oi cs b hi) (fun cs b => hsel j oj cs b hoj) hQ hy h1
      have hfree' : ∀ k ok, ops[k]? = some ok → k ≠ i → (listed.setIfInBounds j true).getD k true = false →
          (∀ e ∈ ok.after, Region.binds md e = true → e.on ≠ i) → oi.apart ops ok = true := fun k ok hk hki hun hno => by
        refine hfree k ok hk hki ?_ hno
        by_cases hjk : j = k
        · subst hjk; exact hjun
        · rw [getD_set_ne true hjk] at hun; exact hun
      refine wpOp_mono (fun a' w' h3 => ⟨h3.2.1, ih (listed.setIfInBounds j true) a' w' (inv.set hj hjn) hfree' (ready_mono hr (Ne.symm hji)) h3.1 h3.2.1 ?_⟩) h2
      rw [Array.setIfInBounds_comm _ _ hji]
      exact h3.2.2

/-- the tail that is left -/
def Tail (P : Program) (md : Region.Mode) (ops : Array Oper) (Q : Exit → Act → World → Prop) (n : Nat) (listed : Array Bool) (a : Act) (w : World) : Prop :=
  Region.seqB md ops (ops.size - n) n listed = true ∧ wpList P ops Q (ops.toList.drop n) a w

/-- what a region's written text must be for that -/
def headB (md : Region.Mode) (ops : Array Oper) (n : Nat) : Bool :=
  Region.noSelect ops && decide (n < ops.size) && Region.sinkB md ops n && Region.chainB md ops n

def invB (md : Region.Mode) (ops : Array Oper) (n : Nat) (listed : Array Bool) : Bool :=
  decide (listed.size = ops.size) && ((List.range ops.size).all fun j => !(listed.getD j false) || (match ops[j]? with | some oj => oj.after.all (fun e => !(Region.binds md e) || listed.getD e.on false) | none => true)) &&
    ((List.range ops.size).all fun t => decide (t < n) || !(listed.getD t true))
theorem inv_of {listed : Array Bool} (h : invB md ops n listed = true) : HeadInv md ops n listed := by
  simp only [invB, Bool.and_eq_true, decide_eq_true_eq] at h
  obtain ⟨⟨h1, h2⟩, h3⟩ := h
  refine ⟨h1, fun j oj hj hl e he hb => ?_, fun t ht ht' => ?_⟩
  · have := List.all_eq_true.1 h2 j (List.mem_range.2 (Array.getElem?_eq_some_iff.1 hj).1)
    simp only [hl, Bool.not_true, Bool.false_or, hj] at this
    have := Array.all_eq_true'.1 this e he
    simpa [hb] using this
  · have := List.all_eq_true.1 h3 t (List.mem_range.2 ht')
    simp only [Bool.or_eq_true, decide_eq_true_eq, Bool.not_eq_true'] at this
    rcases this with h | h
    · omega
    · exact h

/-- take number i first -/
theorem head_take {i : Nat} {oi : Oper} {v : Value} {f : Nat} {listed : Array Bool} {a : Act} {w : World} (hi : ops[i]? = some oi) (hin : i < n)
    (hB : headB md ops n = true) (hI : invB md ops n listed = true) (hf : Region.free md ops listed i = true) (hr : (Region.ready md ops listed).contains i = true)
    (hQ : ∀ c a w, Q (.panic c) (a.put oi.dst v) w → Q (.panic c) a w) (hy : YieldsIf P ops S oi v a) (hS : S w)
    (h : wpAnyLH P md ops Q S n (Tail P md ops Q n) f (listed.setIfInBounds i true) (a.put oi.dst v) w) : wpAnyLH P md ops Q S n (Tail P md ops Q n) (f + 1) listed a w := by
  simp only [headB, Bool.and_eq_true, decide_eq_true_eq] at hB
  obtain ⟨⟨⟨hsel, hn⟩, hs⟩, hc⟩ := hB
  exact wpAnyLH_first hi (Region.noSelect_spec hsel) hs hc hn hin (fun listed a w hL => seqB_ready hL.1) hQ f listed a w (inv_of hI) (Region.free_spec hi hf) (by simpa using hr) hy hS h

/-- each of rs comes up next -/
def HeadAll (P : Program) (md : Region.Mode) (ops : Array Oper) (Q : Exit → Act → World → Prop) (S : World → Prop) (n f : Nat) (listed : Array Bool) (a : Act) (w : World) (rs : List Nat) : Prop :=
  ∀ i ∈ rs, i < n ∧ wpOp P ops Q i (fun a' w' => S w' ∧ wpAnyLH P md ops Q S n (Tail P md ops Q n) f (listed.setIfInBounds i true) a' w') a w
theorem HeadAll.nil {f : Nat} {listed : Array Bool} {a : Act} {w : World} : HeadAll P md ops Q S n f listed a w [] := fun _ h => by cases h
theorem HeadAll.cons {f : Nat} {listed : Array Bool} {a : Act} {w : World} {i : Nat} {o : Oper} {rs : List Nat} (ho : ops[i]? = some o) (hin : i < n)
    (h : ∀ K' : Act → World → Prop, Shut (∀ a w, S w → (S w → wpAnyLH P md ops Q S n (Tail P md ops Q n) f (listed.setIfInBounds i true) a w) → K' a w) → if Region.wanted o (yielded ops a.tmps) = true then Oper.wp P o a w K' Q else K' (a.put o.dst undef) w)
    (hs : HeadAll P md ops Q S n f listed a w rs) : HeadAll P md ops Q S n f listed a w (i :: rs) := fun j hj => by
  rcases List.mem_cons.1 hj with rfl | hj
  · exact ⟨hin, wpOp_step ho (fun K' hK => h K' (fun a w hS hW => hK a w ⟨hS, hW hS⟩))⟩
  · exact hs j hj
theorem head_ready {rs : List Nat} {f : Nat} {listed : Array Bool} {a : Act} {w : World} (hr : Region.ready md ops listed = rs) (hne : rs ≠ [])
    (h : HeadAll P md ops Q S n f listed a w rs) : wpAnyLH P md ops Q S n (Tail P md ops Q n) (f + 1) listed a w := ⟨fun e => hne (hr.symm.trans e), fun i hi => h i (hr ▸ hi)⟩
/-- the head is done -/
theorem head_done {listed : Array Bool} {a : Act} {w : World} (hB : Region.seqB md ops (ops.size - n) n listed = true) (h : wpList P ops Q (ops.toList.drop n) a w) : wpAnyLH P md ops Q S n (Tail P md ops Q n) 0 listed a w := ⟨hB, h⟩

theorem any_head {f : Nat} {listed : Array Bool} {a : Act} {w : World} (hB : f + (ops.size - n) = ops.size) (h : wpAnyLH P md ops Q S n (Tail P md ops Q n) f listed a w) : wpAny P md ops Q ops.size listed a w := by
  have hlen : (ops.toList.drop n).length = ops.size - n := by simp
  have := any_of_head (S := S) (n := n) (g := ops.size - n) (L := Tail P md ops Q n) (fun listed' a' w' hL => by
    have := wpAny_of_seq (P := P) (md := md) (Q' := Q) (ops.toList.drop n) n listed' a' w' (fun j => by simp [List.getElem?_drop]) (by rw [hlen]; exact hL.1) hL.2
    rwa [hlen] at this) f listed a w h
  rw [hB] at this
  exact this

/-- in a round of a range over a function -/
theorem head_in_round {l m id : Nat} {a : Act} {w : World} (hm : P.follows .mixedOrders = true) (hl : ¬ LetsOut Q) (hd : NoDefer ops.toList) (f : Nat) (hf : f + (ops.size - n) = ops.size) (hS : S w.drew)
    (h : S w.drew → wpAnyLH P .any ops Q S n (Tail P .any ops Q n) f (Array.replicate ops.size false) a w.drew) : (Code.region id ops true).wpIn (Rnd l) m P Q a w :=
  wpIn_region_any hm (any_in hl hd _ _ _ _ (any_head hf (h hS)))
/-- elsewhere -/
theorem head_plain {id : Nat} {a : Act} {w : World} (hm : P.follows .mixedOrders = true) (f : Nat) (hf : f + (ops.size - n) = ops.size) (hS : S w.drew)
    (h : S w.drew → wpAnyLH P .any ops Q S n (Tail P .any ops Q n) f (Array.replicate ops.size false) a w.drew) : (Code.region id ops true).wp P Q a w :=
  wp_region_any hm (any_head hf (h hS))
end
end Go.Proofs.Ytjendmojkdkipaa
