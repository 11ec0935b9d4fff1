/-
  Two rows of uint64 of the call's own that grow side by side. No walk.
-/
import Derived.Test.YtjendmojkdkipaaKeep
import Derived.Test.YtjendmojkdkipaaRiceCost
import Derived.Test.YtjendmojkdkipaaRiceBest
import Derived.RangeFuncFrom
namespace Go.Proofs.Ytjendmojkdkipaa
open Go Go.RowKit

/-- the rows v8 and v9, beyond base, apart from one another and from the blocks of g; whatever lies below base, and whatever is no cells, is as it was in W0 -/
structure Gr (base : Nat) (g : List Nat) (v8 v9 : Value) (xs ys : List Value) (W0 W : World) : Prop where
  st : Stays (fun k => k < base) W0 W
  kp : KeepsOthers W0 W
  hb : base ≤ W.heap.size
  l8 : Lie (fun k => k < base ∨ v9.ownBlock = some k ∨ k ∈ g) 42 1 v8 xs.length xs W
  l9 : Lie (fun k => k < base ∨ v8.ownBlock = some k ∨ k ∈ g) 42 1 v9 ys.length ys W
  gl : ∀ k ∈ g, base ≤ k ∧ k < W.heap.size

theorem Gr.swap {base : Nat} {g : List Nat} {v8 v9 : Value} {xs ys : List Value} {W0 W : World} (h : Gr base g v8 v9 xs ys W0 W) : Gr base g v9 v8 ys xs W0 W := ⟨h.st, h.kp, h.hb, h.l9, h.l8, h.gl⟩
theorem Gr.old8 {base : Nat} {g : List Nat} {v8 v9 : Value} {xs ys : List Value} {W0 W : World} (h : Gr base g v8 v9 xs ys W0 W) : Old (fun k => k < base ∨ v9.ownBlock = some k ∨ k ∈ g) W := fun k hk => by
  rcases hk with h1 | h1 | h1
  · have := h.hb; omega
  · exact (h.l9.1.lt k h1).2
  · exact (h.gl k h1).2
theorem Gr.drew {base : Nat} {g : List Nat} {v8 v9 : Value} {xs ys : List Value} {W0 W : World} (h : Gr base g v8 v9 xs ys W0 W) : Gr base g v8 v9 xs ys W0 W.drew :=
  ⟨h.st.drewr, ⟨h.kp.size, h.kp.same⟩, h.hb, h.l8, h.l9, h.gl⟩

theorem Gr.build {base : Nat} {g : List Nat} {v8 v9 : Value} {xs ys : List Value} {W0 W : World} (h : Gr base g v8 v9 xs ys W0 W) (hb0 : base ≤ W0.heap.size) (u : Value) :
    Gr base (W.heap.size :: g) v8 v9 xs ys W0 (W.alloc (.cells #[u] 42)) := by
  have hbl : Below W.heap.size W (W.alloc (.cells #[u] 42)) := (Below.refl _ _).alloc (Nat.le_refl _) _
  refine ⟨h.st.allocr (fun k hk => Nat.lt_of_lt_of_le hk hb0) _, h.kp.trans (KeepsOthers.alloc _ _), by have := h.hb; simp; omega, (h.l8.below hbl).shift ?_, (h.l9.below hbl).shift ?_, ?_⟩
  · intro k hk hp
    rcases hp with h1 | h1 | h1
    · exact h.l8.2 k hk (.inl h1)
    · exact h.l8.2 k hk (.inr (.inl h1))
    · rcases List.mem_cons.1 h1 with rfl | h1
      · exact absurd (h.l8.1.lt _ hk).2 (Nat.lt_irrefl _)
      · exact h.l8.2 k hk (.inr (.inr h1))
  · intro k hk hp
    rcases hp with h1 | h1 | h1
    · exact h.l9.2 k hk (.inl h1)
    · exact h.l9.2 k hk (.inr (.inl h1))
    · rcases List.mem_cons.1 h1 with rfl | h1
      · exact absurd (h.l9.1.lt _ hk).2 (Nat.lt_irrefl _)
      · exact h.l9.2 k hk (.inr (.inr h1))
  · intro k hk
    rcases List.mem_cons.1 hk with rfl | hk
    · exact ⟨h.hb, by simp⟩
    · have := h.gl k hk
      exact ⟨this.1, by simp; omega⟩

theorem rd_built (W : World) (u : Value) : Rd (W.alloc (.cells #[u] 42)) 1 (some ⟨W.heap.size, 0, none⟩) 1 [u] := by
  refine ⟨by simp, fun _ => ⟨_, 0, rfl, by simp, fun j v hv => ?_⟩⟩
  match j, hv with
  | 0, hv =>
    obtain rfl : u = v := by simpa using hv
    simp
  | j + 1, hv => simp at hv

/-- behind an append to the first -/
theorem Gr.append {base : Nat} {g : List Nat} {v8 v9 v8' : Value} {xs ys : List Value} {u : Value} {W0 W W' : World} (h : Gr base g v8 v9 xs ys W0 W)
    (hown : Lie (fun k => k < base ∨ v9.ownBlock = some k ∨ k ∈ g) 42 1 v8' (xs.length + 1) (xs ++ [u]) W') (hst : Stays (fun k => k < base ∨ v9.ownBlock = some k ∨ k ∈ g) W W')
    (hgr : W.grownBy W' v8.ownBlock) (hat : v8'.ownBlock = v8.ownBlock ∨ ∃ g, v8'.ownBlock = some g ∧ W.heap.size ≤ g) : Gr base g v8' v9 (xs ++ [u]) ys W0 W' := by
  refine ⟨h.st.trans (hst.mono fun k hk => .inl hk), h.kp.trans (KeepsOthers.of_grownBy hgr fun j o hj hh => ?_), Nat.le_trans h.hb hst.size, by rw [List.length_append]; exact hown, (h.l9.later fun k hk => hst.block k (.inr (.inl hk))).shift ?_, fun k hk => ⟨(h.gl k hk).1, Nat.lt_of_lt_of_le (h.gl k hk).2 hst.size⟩⟩
  · rcases h.l8.1.2 with ⟨e, _⟩ | ⟨g', cap, cur, e, _, hgg, _⟩
    · rw [e] at hj; simp [Value.ownBlock] at hj
    · rw [e] at hj
      obtain rfl : g' = j := by simpa [Value.ownBlock] using hj
      rw [hgg] at hh
      obtain rfl : _ = o := by simpa using hh
      rfl
  · intro k hk hp
    rcases hp with h1 | h1 | h1
    · exact h.l9.2 k hk (.inl h1)
    · rcases hat with h2 | ⟨g', h2, h3⟩
      · exact h.l9.2 k hk (.inr (.inl (h2.symm.trans h1)))
      · rw [h2] at h1
        obtain rfl : g' = k := by simpa using h1
        have := (h.l9.1.lt _ hk).2
        omega
    · exact h.l9.2 k hk (.inr (.inr h1))
theorem rd_kept {W W' : World} {G : Nat} {u : Value} (h : Rd W 1 (some ⟨G, 0, none⟩) 1 [u]) (hs : W'.heap[G]? = W.heap[G]?) : Rd W' 1 (some ⟨G, 0, none⟩) 1 [u] := by
  refine ⟨h.1, fun hp => ?_⟩
  obtain ⟨b, off, e, hb, hc⟩ := h.2 hp
  obtain ⟨rfl, rfl⟩ : G = b ∧ 0 = off := by simpa using e
  refine ⟨_, _, rfl, ?_, fun j v hv => (World.cell?_of_block (a := ⟨G, 0 + j, none⟩) hs).trans (hc j v hv)⟩
  exact (Array.getElem?_eq_some_iff.1 (hs.trans (Array.getElem?_eq_getElem hb))).1

/-- the first row's append, at a step of a region that draws its order -/
theorem Gr.step {P : Program} {ops : Array Oper} {o : Oper} {a : Act} {K : Act → World → Prop} {Q : Exit → Act → World → Prop} {E : Prop} (hgd : o.guard = none) (s x : Operand)
    (ho : o.op = Op.call { callee := Callee.builtin Builtin.append, args := #[s, x], argTypes := #[44, 44] }) (ht : P.underlying 44 = some (.slice 42)) (hinf : (P.info? 42).map (fun i => (i.zero, i.size, i.bytes)) = some (some (.int .u64 0), 1, 8))
    {base : Nat} {g : List Nat} {v8 v9 : Value} {xs ys : List Value} {u : Value} {W0 W : World} (h : Gr base g v8 v9 xs ys W0 W) (hs : a.eval s = v8) (G c : Nat) (hx : a.eval x = .slice (some ⟨G, 0, none⟩) 1 c) (hrd : Rd W 1 (some ⟨G, 0, none⟩) 1 [u]) (h1 : u.oneCell' = true)
    (hn : xs.length < 1099511627776)
    (hK : ∀ v8' W', Gr base g v8' v9 (xs ++ [u]) ys W0 W' → (∀ k ∈ g, W'.heap[k]? = W.heap[k]?) → K (a.put o.dst v8') W') :
    if Region.wanted o (yielded ops a.tmps) = true then Oper.wp P o a W K Q else E :=
  step_append_rd_row hgd s x _ ho 42 (.int .u64 0) 1 8 ht hinf rfl (by decide) (fun k => k < base ∨ v9.ownBlock = some k ∨ k ∈ g) xs.length xs v8 W h.l8 hs h.old8
    (some ⟨G, 0, none⟩) 1 c [u] hx hrd (by intro w hw; simp at hw; subst hw; exact h1) (by unfold maxLen; omega) (by omega)
    (fun v8' W' h2 h3 h4 h5 => hK v8' W' (h.append h2 h3 h4 h5) (fun k hk => h3.block k (.inr (.inr hk))))

/-- rows stand through a world that stands but for what is no row's -/
theorem Gr.later {base base' : Nat} {g : List Nat} {v8 v9 : Value} {xs ys : List Value} {W0 W W' : World} (h : Gr base g v8 v9 xs ys W0 W) (hb : base' ≤ base) (hs : base' ≤ W'.heap.size) (h8 : ∀ k, v8.ownBlock = some k → W'.heap[k]? = W.heap[k]?) (h9 : ∀ k, v9.ownBlock = some k → W'.heap[k]? = W.heap[k]?) :
    Gr base' [] v8 v9 xs ys W' W' :=
  ⟨Stays.refl _ _, KeepsOthers.refl _, hs, (h.l8.later h8).shift (fun k hk hp => by
      rcases hp with h1 | h1 | h1
      · exact h.l8.2 k hk (.inl (by omega))
      · exact h.l8.2 k hk (.inr (.inl h1))
      · cases h1), (h.l9.later h9).shift (fun k hk hp => by
      rcases hp with h1 | h1 | h1
      · exact h.l9.2 k hk (.inl (by omega))
      · exact h.l9.2 k hk (.inr (.inl h1))
      · cases h1), fun k hk => by cases hk⟩
theorem Gr.out8 {base : Nat} {g : List Nat} {v8 v9 : Value} {xs ys : List Value} {W0 W : World} (h : Gr base g v8 v9 xs ys W0 W) {k : Nat} (hk : v8.ownBlock = some k) : base ≤ k := by
  rcases Nat.lt_or_ge k base with h1 | h1
  · exact absurd (.inl h1) (h.l8.2 k hk)
  · exact h1

/-- what is gathered in the two boxes -/
def Acc (T : TypeId) (base B8 B9 : Nat) (xs ys : List Value) (w W : World) : Prop :=
  (∃ v8 v9, W.heap[B8]? = some (.cells #[v8] T (0, 0)) ∧ W.heap[B9]? = some (.cells #[v9] T (0, 0)) ∧ Gr base [] v8 v9 xs ys W W) ∧
    (∀ k, k < base → k ≠ B8 → k ≠ B9 → W.heap[k]? = w.heap[k]?) ∧ W.os = w.os ∧ W.tape = w.tape ∧ W.output = w.output

theorem Gr.stored {T : TypeId} {base B8 B9 : Nat} {g : List Nat} {v8 v9 o8 o9 : Value} {xs ys : List Value} {w W0 W : World} (h : Gr base g v8 v9 xs ys W0 W) (h8 : B8 < base) (h9 : B9 < base) (hne : B8 ≠ B9)
    (hb8 : W0.heap[B8]? = some (.cells #[o8] T (0, 0))) (hb9 : W0.heap[B9]? = some (.cells #[o9] T (0, 0))) (hw : ∀ k, k < base → k ≠ B8 → k ≠ B9 → W0.heap[k]? = w.heap[k]?) (hos : W0.os = w.os) (ht : W0.tape = w.tape) (ho : W0.output = w.output) :
    Acc T base B8 B9 xs ys w ((W.setCell ⟨B8, 0, none⟩ v8).setCell ⟨B9, 0, none⟩ v9) ∧ KeepsOthers W0 ((W.setCell ⟨B8, 0, none⟩ v8).setCell ⟨B9, 0, none⟩ v9) := by
  have a8 := set_one (v := v8) ((h.st.block B8 h8).trans hb8)
  have a9 := set_one (v := v9) ((set_other (v := v8) (j := 0) (Ne.symm hne)).trans ((h.st.block B9 h9).trans hb9))
  have oth : ∀ k, k ≠ B8 → k ≠ B9 → ((W.setCell ⟨B8, 0, none⟩ v8).setCell ⟨B9, 0, none⟩ v9).heap[k]? = W.heap[k]? := fun k k8 k9 => (set_other k9).trans (set_other k8)
  refine ⟨⟨⟨v8, v9, (set_other hne).trans a8, a9, h.later (Nat.le_refl _) (by simp [World.setCell]; exact h.hb) (fun k hk => oth k (by have := h.out8 hk; omega) (by have := h.out8 hk; omega)) (fun k hk => oth k (by have := h.swap.out8 hk; omega) (by have := h.swap.out8 hk; omega))⟩, ?_, h.st.os.trans hos, h.st.tape.trans ht, h.st.output.trans ho⟩, (h.kp.trans (KeepsOthers.setCell _ _ _)).trans (KeepsOthers.setCell _ _ _)⟩
  exact fun k hk k8 k9 => (oth k k8 k9).trans ((h.st.block k hk).trans (hw k hk k8 k9))

/-- it stands where no cells of its own are touched -/
theorem Acc.kept {T : TypeId} {base B8 B9 : Nat} {xs ys : List Value} {w W W' : World} {row : Option Nat} (h : Acc T base B8 B9 xs ys w W) (h8 : B8 < base) (h9 : B9 < base) (hg : W.grownBy W' row) (hr : ∀ r, row = some r → base ≤ r ∧ ∃ o : Obj, W.heap[r]? = some o ∧ o.isCells = false) : Acc T base B8 B9 xs ys w W' := by
  obtain ⟨⟨v8, v9, hb8, hb9, hG⟩, hk, hos, ht, ho⟩ := h
  have low : ∀ k, k < base → W'.heap[k]? = W.heap[k]? := fun k hk => hg.block k (Nat.lt_of_lt_of_le hk hG.hb) fun e => by have := (hr k e.symm).1; omega
  have cel : ∀ {v : Value} {n : Nat} {zs : List Value} {Pr : Nat → Prop}, Lie Pr 42 1 v n zs W → ∀ k, v.ownBlock = some k → W'.heap[k]? = W.heap[k]? := fun {v n zs Pr} hl k hk => by
    rcases hl.1.2 with ⟨e, _⟩ | ⟨g', cap, cur, e, _, hgg, _⟩
    · rw [e] at hk; simp [Value.ownBlock] at hk
    · rw [e] at hk
      obtain rfl : g' = k := by simpa [Value.ownBlock] using hk
      refine hg.block g' (Array.getElem?_eq_some_iff.1 hgg).1 fun e1 => ?_
      obtain ⟨_, o, h1, h2⟩ := hr g' e1.symm
      rw [hgg] at h1
      obtain rfl : _ = o := by simpa using h1
      cases h2
  refine ⟨⟨v8, v9, (low _ h8).trans hb8, (low _ h9).trans hb9, hG.later (Nat.le_refl _) (Nat.le_trans hG.hb hg.size) (cel hG.l8) (cel hG.l9)⟩, fun k h1 h2 h3 => (low k h1).trans (hk k h1 h2 h3), hg.os.trans hos, hg.tape.trans ht, hg.output.trans ho⟩
end Go.Proofs.Ytjendmojkdkipaa
