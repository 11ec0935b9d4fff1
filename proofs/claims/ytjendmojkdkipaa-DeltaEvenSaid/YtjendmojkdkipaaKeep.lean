/-
  What stands while an object of the call's own is worked upon; rows of which one knows where they lie. Over any program.
-/
import Derived.Test.YtjendmojkdkipaaAppend
import Derived.Maps.AppendAt
namespace Go.Proofs.Ytjendmojkdkipaa
open Go Go.RowKit

/-- the blocks named by Pr are all there already -/
def Old (Pr : Nat → Prop) (w : World) : Prop := ∀ k, Pr k → k < w.heap.size
theorem Old.mono {Pr : Nat → Prop} {w w' : World} (h : Old Pr w) (hs : w.heap.size ≤ w'.heap.size) : Old Pr w' := fun k hk => Nat.lt_of_lt_of_le (h k hk) hs

/-- the blocks named by Pr, other than b, stand -/
structure Beside (Pr : Nat → Prop) (b : Nat) (w w' : World) : Prop where
  os : w'.os = w.os
  tape : w'.tape = w.tape
  output : w'.output = w.output
  size : w.heap.size ≤ w'.heap.size
  block : ∀ k, Pr k → k ≠ b → w'.heap[k]? = w.heap[k]?

theorem Beside.refl (R : Nat → Prop) (b : Nat) (w : World) : Beside R b w w := ⟨rfl, rfl, rfl, Nat.le_refl _, fun _ _ _ => rfl⟩
theorem Beside.trans {R : Nat → Prop} {b : Nat} {a c d : World} (h : Beside R b a c) (k : Beside R b c d) : Beside R b a d :=
  ⟨k.os.trans h.os, k.tape.trans h.tape, k.output.trans h.output, Nat.le_trans h.size k.size, fun i hi hb => (k.block i hi hb).trans (h.block i hi hb)⟩
theorem Beside.below {R : Nat → Prop} {b B : Nat} {w w' : World} (h : Beside R b w w') (hB : B ≤ b) (hb : ∀ k, k < B → R k) : Below B w w' := ⟨h.os, h.tape, h.output, h.size, fun k hk => h.block k (hb k hk) (by omega)⟩
theorem beside_set (R : Nat → Prop) (b : Nat) (j : Nat) (w : World) (v : Value) : Beside R b w (w.setCell ⟨b, j, none⟩ v) :=
  ⟨rfl, rfl, rfl, by simp [World.setCell], fun k _ hk => Below.heap_setCell _ _ _ _ hk⟩
theorem Beside.cell {R : Nat → Prop} {b : Nat} {w w' : World} (h : Beside R b w w') {p : Addr} (hp : R p.block) (hb : p.block ≠ b) : w'.cell? p = w.cell? p := by
  simp only [World.cell?, h.block _ hp hb]
theorem Beside.drewr {R : Nat → Prop} {b : Nat} {w w' : World} (h : Beside R b w w') : Beside R b w w'.drew := ⟨h.os, h.tape, h.output, h.size, h.block⟩
theorem Beside.drewl {R : Nat → Prop} {b : Nat} {w w' : World} (h : Beside R b w.drew w') : Beside R b w w' := ⟨h.os, h.tape, h.output, h.size, h.block⟩

/-- the blocks named by Pr stand -/
structure Stays (Pr : Nat → Prop) (w w' : World) : Prop where
  os : w'.os = w.os
  tape : w'.tape = w.tape
  output : w'.output = w.output
  size : w.heap.size ≤ w'.heap.size
  block : ∀ k, Pr k → w'.heap[k]? = w.heap[k]?
theorem Stays.refl (R : Nat → Prop) (w : World) : Stays R w w := ⟨rfl, rfl, rfl, Nat.le_refl _, fun _ _ => rfl⟩
theorem Stays.trans {R : Nat → Prop} {a c d : World} (h : Stays R a c) (k : Stays R c d) : Stays R a d :=
  ⟨k.os.trans h.os, k.tape.trans h.tape, k.output.trans h.output, Nat.le_trans h.size k.size, fun i hi => (k.block i hi).trans (h.block i hi)⟩
theorem Stays.drewr {R : Nat → Prop} {w w' : World} (h : Stays R w w') : Stays R w w'.drew := ⟨h.os, h.tape, h.output, h.size, h.block⟩
theorem Stays.drewl {R : Nat → Prop} {w w' : World} (h : Stays R w.drew w') : Stays R w w' := ⟨h.os, h.tape, h.output, h.size, h.block⟩
theorem Stays.allocr {R : Nat → Prop} {w w' : World} (h : Stays R w w') (ho : Old R w) (o : Obj) : Stays R w (w'.alloc o) :=
  ⟨h.os, h.tape, h.output, by have := h.size; simp; omega, fun k hk => (heap_alloc_old w' o (Nat.lt_of_lt_of_le (ho k hk) h.size)).trans (h.block k hk)⟩
theorem Stays.beside {R : Nat → Prop} {b : Nat} {w w' : World} (h : Stays R w w') : Beside R b w w' := ⟨h.os, h.tape, h.output, h.size, fun k hk _ => h.block k hk⟩
theorem Stays.below {R : Nat → Prop} {B : Nat} {w w' : World} (h : Stays R w w') (hb : ∀ k, k < B → R k) : Below B w w' := ⟨h.os, h.tape, h.output, h.size, fun k hk => h.block k (hb k hk)⟩
theorem Stays.of {R : Nat → Prop} {w w' : World} (h : Below w.heap.size w w') (ho : Old R w) : Stays R w w' := ⟨h.os, h.tape, h.output, h.size, fun k hk => h.block k (ho k hk)⟩
theorem Stays.mono {R R' : Nat → Prop} {w w' : World} (h : Stays R w w') (hr : ∀ k, R' k → R k) : Stays R' w w' := ⟨h.os, h.tape, h.output, h.size, fun k hk => h.block k (hr k hk)⟩
theorem stays_freeze {R : Nat → Prop} {w w' : World} (h : Stays R w w') {p : Addr} (hp : ¬ R p.block) (n : Nat) : Stays R w (w'.freeze p n) := by
  unfold World.freeze
  split
  · exact h
  · refine ⟨h.os, h.tape, h.output, by simp; exact h.size, fun k hk => ?_⟩
    simp only [Array.getElem?_modify]
    rw [if_neg (fun e : p.block = k => hp (by rw [e]; exact hk))]
    exact h.block k hk

/-- a row of the call's own that lies in no block named by Pr -/
def Lie (Pr : Nat → Prop) (e : TypeId) (size : Nat) (v : Value) (n : Nat) (xs : List Value) (w : World) : Prop :=
  w.ownsRow 0 e size v n xs ∧ ∀ g, v.ownBlock = some g → ¬ Pr g
theorem Lie.nil (Pr : Nat → Prop) (w : World) (e : TypeId) (size : Nat) : Lie Pr e size (.slice none 0 0) 0 [] w := ⟨World.ownsRow_nil _ _ _ _, by intro g hg; simp [Value.ownBlock] at hg⟩
theorem Lie.form {Pr : Nat → Prop} {e : TypeId} {size n : Nat} {v : Value} {xs : List Value} {w : World} (h : Lie Pr e size v n xs w) : ∃ A c, v = .slice A n c := own_form h.1
theorem own_set {R : Nat → Prop} {b n size : Nat} {e : TypeId} {w : World} {v : Value} {xs : List Value} (h : Lie R e size v n xs w) (hb : R b) (j : Nat) (u : Value) : Lie R e size v n xs (w.setCell ⟨b, j, none⟩ u) := by
  refine ⟨h.1.kept (row := some b) ⟨rfl, rfl, rfl, by simp [World.setCell], fun k _ hk => Below.heap_setCell _ _ _ _ (fun e => hk (by simp [e]))⟩ (Or.inr ?_), h.2⟩
  intro e1
  exact h.2 b e1 hb
/-- a row stands if its block does -/
theorem Lie.later {R : Nat → Prop} {n size : Nat} {e : TypeId} {w w' : World} {v : Value} {xs : List Value} (h : Lie R e size v n xs w) (hg : ∀ g, v.ownBlock = some g → w'.heap[g]? = w.heap[g]?) : Lie R e size v n xs w' := by
  refine ⟨⟨h.1.1, ?_⟩, h.2⟩
  rcases h.1.2 with hn | ⟨g, cap, cur, rfl, hb, hgg, rest⟩
  · exact .inl hn
  · exact .inr ⟨g, cap, cur, rfl, hb, (hg g rfl).trans hgg, rest⟩
theorem Lie.shift {R R' : Nat → Prop} {n size : Nat} {e : TypeId} {w : World} {v : Value} {xs : List Value} (h : Lie R e size v n xs w) (hr : ∀ g, v.ownBlock = some g → ¬ R' g) : Lie R' e size v n xs w := ⟨h.1, hr⟩
theorem Lie.below {R : Nat → Prop} {n size : Nat} {e : TypeId} {w w' : World} {v : Value} {xs : List Value} (h : Lie R e size v n xs w) (hb : Below w.heap.size w w') : Lie R e size v n xs w' :=
  h.later fun g hg => hb.block g (h.1.lt g hg).2
theorem Lie.rd {R : Nat → Prop} {n size : Nat} {e : TypeId} {w : World} {A : Option Addr} {c : Nat} {xs : List Value} (h : Lie R e size (.slice A n c) n xs w) : Rd w size A n xs := by
  obtain ⟨A', c', hv, hr⟩ := Rd.of_own h.1
  obtain ⟨rfl, rfl⟩ : A = A' ∧ c = c' := by simpa using hv
  exact hr
theorem Lie.made (R : Nat → Prop) (w : World) (e : TypeId) (size : Nat) (ho : Old R w) : Lie R e size (.slice (some ⟨w.heap.size, 0, none⟩) 0 0) 0 [] (w.alloc (.cells #[] e)) :=
  ⟨World.ownsRow_made _ #[] 0 (Nat.zero_le _) (by decide) (by simp), by
    intro g hg hR
    have e1 : w.heap.size = g := by simpa [Value.ownBlock] using hg
    have := ho g hR
    omega⟩

/-- 'append(s, x)': one element -/
theorem wpList_append_elem_row {P : Program} {ops : Array Oper} {rest : List Oper} {o : Oper} {a : Act} {Q : Exit → Act → World → Prop} (hgd : o.guard = none) (s x : Operand) (T : TypeId)
    (ho : o.op = Op.call { callee := Callee.builtin Builtin.append, args := #[s, x], argTypes := #[T, T] })
    (e : TypeId) (z : Value) (size bytes : Nat) (ht : P.underlying T = some (.slice e)) (hinf : (P.info? e).map (fun i => (i.zero, i.size, i.bytes)) = some (some z, size, bytes))
    (hzs : z.cells.size = size) (hsz : 0 < size) (Pr : Nat → Prop) (n : Nat) (xs : List Value) (v : Value) (w0 : World) (us : Array Value) (hus : us.size = size) (h1 : ∀ u ∈ us.toList, u.oneCell' = true)
    (hown : Lie Pr e size v n xs w0) (hs : a.eval s = v) (hold : Old Pr w0) (hx : a.eval x = .slice (some ⟨w0.heap.size, 0, none⟩) 1 1)
    (hn : n + 1 ≤ maxLen) (hb : (n + 1) * bytes ≤ 140737488355328)
    (h : ∀ v' w', Lie Pr e size v' (n + 1) (xs ++ us.toList) w' → Stays Pr w0 w' → w0.grownBy w' v.ownBlock → (v'.ownBlock = v.ownBlock ∨ ∃ g, v'.ownBlock = some g ∧ w0.heap.size ≤ g) → wpList P ops Q rest (a.put o.dst v') w') :
    wpList P ops Q (o :: rest) a (w0.alloc (.cells us e)) := by
  obtain ⟨i, hi, hz, hz1, hz2⟩ := info_parts hinf
  have hg0 := World.grownBy_alloc w0 (.cells us e) v.ownBlock
  refine wpList_append_own_at _ hgd s x T ho 0 e i z size bytes ht hi hz hz1 hz2 hzs hsz v n xs hs (hown.1.alloc _) ⟨w0.heap.size, 0, none⟩ 1 1 us.toList hx (by simp [hus]) (cell_new w0 us e) h1 hn hb (Nat.zero_le _) ?_
  intro v' w' hown' hgr hnil hat
  have hgr' : w0.grownBy w' v.ownBlock := hg0.trans hgr
  have hat' : v'.ownBlock = v.ownBlock ∨ ∃ g, v'.ownBlock = some g ∧ w0.heap.size ≤ g := by
    rcases hat with h1 | h1
    · exact .inl h1
    · exact .inr ⟨_, h1, by simp⟩
  refine h v' w' ⟨hown', fun g hg hR => ?_⟩ ⟨hgr'.os, hgr'.tape, hgr'.output, hgr'.size, fun k hk => hgr'.block k (hold k hk) (fun e1 => hown.2 k e1.symm hk)⟩ hgr' hat'
  rcases hat' with h1 | ⟨g', h1, h2⟩
  · exact hown.2 g (h1.symm.trans hg) hR
  · rw [h1] at hg
    obtain rfl : g' = g := by simpa using hg
    have := hold _ hR
    omega

/-- 'append(s, l...)': whatever is read -/
theorem run_append_rd_row {P : Program} (T ty e : TypeId) (z : Value) (size bytes : Nat) (ht : P.underlying T = some (.slice e)) (hinf : (P.info? e).map (fun i => (i.zero, i.size, i.bytes)) = some (some z, size, bytes))
    (hzs : z.cells.size = size) (hsz : 0 < size) (Pr : Nat → Prop) (n : Nat) (xs : List Value) (v : Value) (w0 : World)
    (hown : Lie Pr e size v n xs w0) (hold : Old Pr w0)
    (A : Option Addr) (m c : Nat) (news : List Value) (hrd : Rd w0 size A m news) (h1 : ∀ u ∈ news, u.oneCell' = true)
    (hn : n + m ≤ maxLen) (hb : (n + m) * bytes ≤ 140737488355328) :
    ∃ v' w', (Builtin.append_ #[T, T] ty #[v, .slice A m c]).run P w0 = .ok v' w' ∧ Lie Pr e size v' (n + m) (xs ++ news) w' ∧ Stays Pr w0 w' ∧ w0.grownBy w' v.ownBlock ∧ (v'.ownBlock = v.ownBlock ∨ ∃ g, v'.ownBlock = some g ∧ w0.heap.size ≤ g) := by
  obtain ⟨i, hi, hz, hz1, hz2⟩ := info_parts hinf
  have fin : ∀ v' w', w'.ownsRow 0 e size v' (n + m) (xs ++ news) → w0.grownBy w' v.ownBlock → (v'.ownBlock = v.ownBlock ∨ ∃ g, v'.ownBlock = some g ∧ w0.heap.size ≤ g) → Lie Pr e size v' (n + m) (xs ++ news) w' ∧ Stays Pr w0 w' := by
    intro v' w' hown' hgr' hat'
    refine ⟨⟨hown', fun g hg hR => ?_⟩, ⟨hgr'.os, hgr'.tape, hgr'.output, hgr'.size, fun k hk => hgr'.block k (hold k hk) (fun e1 => hown.2 k e1.symm hk)⟩⟩
    rcases hat' with h1 | ⟨g', h1, h2⟩
    · exact hown.2 g (h1.symm.trans hg) hR
    · rw [h1] at hg
      obtain rfl : g' = g := by simpa using hg
      have := hold _ hR
      omega
  have some_case : ∀ ad, (∀ j u, news[j]? = some u → w0.cell? (ad.add j) = some u) → ∃ v' w', (Builtin.append_ #[T, T] ty #[v, .slice (some ad) m c]).run P w0 = .ok v' w' ∧ Lie Pr e size v' (n + m) (xs ++ news) w' ∧ Stays Pr w0 w' ∧ w0.grownBy w' v.ownBlock ∧ (v'.ownBlock = v.ownBlock ∨ ∃ g, v'.ownBlock = some g ∧ w0.heap.size ≤ g) := by
    intro ad hnews
    obtain ⟨v', w', hr, hown', hgr, _, hat⟩ := run_append_own_at (P := P) w0 0 T ty e i z size bytes ht hi hz hz1 hz2 hzs hsz v n xs hown.1 ad m c news hrd.1 hnews h1 hn hb (Nat.zero_le _)
    have hat' : v'.ownBlock = v.ownBlock ∨ ∃ g, v'.ownBlock = some g ∧ w0.heap.size ≤ g := by
      rcases hat with h1 | h1
      · exact .inl h1
      · exact .inr ⟨_, h1, Nat.le_refl _⟩
    obtain ⟨f1, f2⟩ := fin v' w' hown' hgr hat'
    exact ⟨v', w', hr, f1, f2, hgr, hat'⟩
  by_cases hm : 0 < m
  · obtain ⟨b, off, hA, _, hc⟩ := hrd.2 hm
    subst hA
    exact some_case _ fun j u hu => by rw [add_none]; exact hc j u hu
  · obtain rfl : m = 0 := by omega
    have hnil : news = [] := List.eq_nil_of_length_eq_zero (by rw [hrd.1]; simp)
    subst hnil
    match A with
    | some ad => exact some_case ad (by simp)
    | none =>
      have hg0 : w0.grownBy w0 v.ownBlock := ⟨rfl, rfl, rfl, Nat.le_refl _, fun _ _ _ => rfl⟩
      obtain ⟨f1, f2⟩ := fin v w0 (by simpa using hown.1) hg0 (.inl rfl)
      exact ⟨v, w0, run_append_owned_empty (P := P) (w := w0) 0 T ty e i size ht hi v n c xs hown.1, f1, f2, hg0, .inl rfl⟩

theorem wp_append_rd_row {P : Program} {o : Oper} {a : Act} {K : Act → World → Prop} {Q : Exit → Act → World → Prop} (s x : Operand) (T : TypeId)
    (ho : o.op = Op.call { callee := Callee.builtin Builtin.append, args := #[s, x], argTypes := #[T, T] })
    (e : TypeId) (z : Value) (size bytes : Nat) (ht : P.underlying T = some (.slice e)) (hinf : (P.info? e).map (fun i => (i.zero, i.size, i.bytes)) = some (some z, size, bytes))
    (hzs : z.cells.size = size) (hsz : 0 < size) (Pr : Nat → Prop) (n : Nat) (xs : List Value) (v : Value) (w0 : World)
    (hown : Lie Pr e size v n xs w0) (hs : a.eval s = v) (hold : Old Pr w0)
    (A : Option Addr) (m c : Nat) (news : List Value) (hx : a.eval x = .slice A m c) (hrd : Rd w0 size A m news) (h1 : ∀ u ∈ news, u.oneCell' = true)
    (hn : n + m ≤ maxLen) (hb : (n + m) * bytes ≤ 140737488355328)
    (h : ∀ v' w', Lie Pr e size v' (n + m) (xs ++ news) w' → Stays Pr w0 w' → w0.grownBy w' v.ownBlock → (v'.ownBlock = v.ownBlock ∨ ∃ g, v'.ownBlock = some g ∧ w0.heap.size ≤ g) → K (a.put o.dst v') w') : o.wp P a w0 K Q := by
  obtain ⟨v', w', hr, h2, h3, h4, h5⟩ := run_append_rd_row (P := P) T o.type e z size bytes ht hinf hzs hsz Pr n xs v w0 hown hold A m c news hrd h1 hn hb
  unfold Oper.wp execOp
  simp only [ho, resolve, invoke, builtin, Sem.run_bind, Sem.run_pure, Result.andThen_ok, List.map_toArray, List.map_cons, List.map_nil, hs, hx, hr]
  exact h v' w' h2 h3 h4 h5

theorem wpList_append_rd_row {P : Program} {ops : Array Oper} {rest : List Oper} {o : Oper} {a : Act} {Q : Exit → Act → World → Prop} (hgd : o.guard = none) (s x : Operand) (T : TypeId)
    (ho : o.op = Op.call { callee := Callee.builtin Builtin.append, args := #[s, x], argTypes := #[T, T] })
    (e : TypeId) (z : Value) (size bytes : Nat) (ht : P.underlying T = some (.slice e)) (hinf : (P.info? e).map (fun i => (i.zero, i.size, i.bytes)) = some (some z, size, bytes))
    (hzs : z.cells.size = size) (hsz : 0 < size) (Pr : Nat → Prop) (n : Nat) (xs : List Value) (v : Value) (w0 : World)
    (hown : Lie Pr e size v n xs w0) (hs : a.eval s = v) (hold : Old Pr w0)
    (A : Option Addr) (m c : Nat) (news : List Value) (hx : a.eval x = .slice A m c) (hrd : Rd w0 size A m news) (h1 : ∀ u ∈ news, u.oneCell' = true)
    (hn : n + m ≤ maxLen) (hb : (n + m) * bytes ≤ 140737488355328)
    (h : ∀ v' w', Lie Pr e size v' (n + m) (xs ++ news) w' → Stays Pr w0 w' → w0.grownBy w' v.ownBlock → (v'.ownBlock = v.ownBlock ∨ ∃ g, v'.ownBlock = some g ∧ w0.heap.size ≤ g) → wpList P ops Q rest (a.put o.dst v') w') :
    wpList P ops Q (o :: rest) a w0 :=
  wpList_plain hgd fun _ hK => wp_append_rd_row s x T ho e z size bytes ht hinf hzs hsz Pr n xs v w0 hown hs hold A m c news hx hrd h1 hn hb fun v' w' a1 a2 a3 a4 => hK _ _ (h v' w' a1 a2 a3 a4)

/-- at a step of a region that draws its order -/
theorem step_append_rd_row {P : Program} {ops : Array Oper} {o : Oper} {a : Act} {K : Act → World → Prop} {Q : Exit → Act → World → Prop} {E : Prop} (hgd : o.guard = none) (s x : Operand) (T : TypeId)
    (ho : o.op = Op.call { callee := Callee.builtin Builtin.append, args := #[s, x], argTypes := #[T, T] })
    (e : TypeId) (z : Value) (size bytes : Nat) (ht : P.underlying T = some (.slice e)) (hinf : (P.info? e).map (fun i => (i.zero, i.size, i.bytes)) = some (some z, size, bytes))
    (hzs : z.cells.size = size) (hsz : 0 < size) (Pr : Nat → Prop) (n : Nat) (xs : List Value) (v : Value) (w0 : World)
    (hown : Lie Pr e size v n xs w0) (hs : a.eval s = v) (hold : Old Pr w0)
    (A : Option Addr) (m c : Nat) (news : List Value) (hx : a.eval x = .slice A m c) (hrd : Rd w0 size A m news) (h1 : ∀ u ∈ news, u.oneCell' = true)
    (hn : n + m ≤ maxLen) (hb : (n + m) * bytes ≤ 140737488355328)
    (h : ∀ v' w', Lie Pr e size v' (n + m) (xs ++ news) w' → Stays Pr w0 w' → w0.grownBy w' v.ownBlock → (v'.ownBlock = v.ownBlock ∨ ∃ g, v'.ownBlock = some g ∧ w0.heap.size ≤ g) → K (a.put o.dst v') w') :
    if Region.wanted o (yielded ops a.tmps) = true then Oper.wp P o a w0 K Q else E := by
  have hw : Region.wanted o (yielded ops a.tmps) = true := by simp [Region.wanted, hgd]
  rw [if_pos hw]
  exact wp_append_rd_row s x T ho e z size bytes ht hinf hzs hsz Pr n xs v w0 hown hs hold A m c news hx hrd h1 hn hb h

/-! An object's footprint -/

/-- all but the blocks of F stands; F' is what of F is left, and blocks that were made -/
structure Frm (F F' : Nat → Prop) (w w' : World) : Prop where
  os : w'.os = w.os
  tape : w'.tape = w.tape
  output : w'.output = w.output
  size : w.heap.size ≤ w'.heap.size
  block : ∀ k, k < w.heap.size → ¬ F k → w'.heap[k]? = w.heap[k]?
  new : ∀ k, F' k → F k ∨ w.heap.size ≤ k
theorem Frm.refl (F : Nat → Prop) (w : World) : Frm F F w w := ⟨rfl, rfl, rfl, Nat.le_refl _, fun _ _ _ => rfl, fun _ h => .inl h⟩
theorem Frm.trans {F F' F'' : Nat → Prop} {a b c : World} (h : Frm F F' a b) (k : Frm F' F'' b c) : Frm F F'' a c :=
  ⟨k.os.trans h.os, k.tape.trans h.tape, k.output.trans h.output, Nat.le_trans h.size k.size, fun i hi hF => (k.block i (Nat.lt_of_lt_of_le hi h.size) (fun e => by
    rcases h.new i e with h1 | h1
    · exact hF h1
    · omega)).trans (h.block i hi hF), fun i hi => by
    rcases k.new i hi with h1 | h1
    · exact h.new i h1
    · exact .inr (Nat.le_trans h.size h1)⟩
theorem Frm.below {F F' : Nat → Prop} {B : Nat} {w w' : World} (h : Frm F F' w w') (hB : B ≤ w.heap.size) (hF : ∀ k, F k → B ≤ k) : Below B w w' :=
  ⟨h.os, h.tape, h.output, h.size, fun k hk => h.block k (by omega) (fun e => by have := hF k e; omega)⟩
theorem Frm.of {F : Nat → Prop} {w w' : World} (h : Below w.heap.size w w') : Frm F F w w' := ⟨h.os, h.tape, h.output, h.size, fun k hk _ => h.block k hk, fun _ h => .inl h⟩
/-- what lies in no block of F stands -/
theorem Frm.other {F F' G : Nat → Prop} {w w' : World} (h : Frm F F' w w') (hd : ∀ k, F k → ¬ G k) (hG : ∀ k, G k → k < w.heap.size) : ∀ k, G k → w'.heap[k]? = w.heap[k]? :=
  fun k hk => h.block k (hG k hk) (fun e => hd k e hk)
theorem Frm.apart {F F' G : Nat → Prop} {w w' : World} (h : Frm F F' w w') (hd : ∀ k, F k → ¬ G k) (hG : ∀ k, G k → k < w.heap.size) : ∀ k, F' k → ¬ G k := fun k hk hg => by
  rcases h.new k hk with h1 | h1
  · exact hd k h1 hg
  · have := hG k hg; omega
end Go.Proofs.Ytjendmojkdkipaa
