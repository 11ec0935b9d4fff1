/-
  'append(l, m...)', l a row of the call's own, m any slice that is read. Over any program.
-/
import Derived.Test.YtjendmojkdkipaaSlice
namespace Go.Proofs.Ytjendmojkdkipaa
open Go Go.RowKit

theorem run_append_owned_empty {P : Program} {w : World} (base : Nat) (t ty e : TypeId) (i : TypeInfo) (size : Nat) (ht : P.underlying t = some (.slice e)) (hi : P.info? e = some i)
    (v : Value) (n c : Nat) (xs : List Value) (hown : w.ownsRow base e size v n xs) :
    (Builtin.append_ #[t, t] ty #[v, .slice none 0 c]).run P w = .ok v w := by
  rcases hown.2 with ⟨rfl, rfl⟩ | ⟨g, cap, cur, rfl, _, _, hnc, _⟩
  · simp [Builtin.append_, run_underlying ht, sizeOf, typeInfo, hi, Builtin.lenOf, Builtin.firstCells]
  · simp [Builtin.append_, run_underlying ht, sizeOf, typeInfo, hi, Builtin.lenOf, Builtin.firstCells, hnc, storeCells]

theorem wpList_append_rd {P : Program} {ops : Array Oper} {rest : List Oper} {o : Oper} {a : Act} {Q : Exit → Act → World → Prop} (hgd : o.guard = none) (s x : Operand) (T : TypeId)
    (ho : o.op = Op.call { callee := Callee.builtin Builtin.append, args := #[s, x], argTypes := #[T, T] })
    (e : TypeId) (z : Value) (size bytes : Nat) (ht : P.underlying T = some (.slice e)) (hinf : (P.info? e).map (fun i => (i.zero, i.size, i.bytes)) = some (some z, size, bytes))
    (hzs : z.cells.size = size) (hsz : 0 < size) (base n : Nat) (xs : List Value) (v : Value) (W w0 : World)
    (hown : w0.ownsRow base e size v n xs) (hs : a.eval s = v) (hbel : Below base W w0) (hbase : base ≤ w0.heap.size)
    (A : Option Addr) (m c : Nat) (news : List Value) (hx : a.eval x = .slice A m c) (hrd : Rd w0 size A m news) (h1 : ∀ u ∈ news, u.oneCell' = true)
    (hn : n + m ≤ maxLen) (hb : (n + m) * bytes ≤ 140737488355328)
    (h : ∀ v' w', w'.ownsRow base e size v' (n + m) (xs ++ news) → Below base W w' → base ≤ w'.heap.size → w0.heap.size ≤ w'.heap.size → w0.grownBy w' v.ownBlock → wpList P ops Q rest (a.put o.dst v') w') :
    wpList P ops Q (o :: rest) a w0 := by
  obtain ⟨i, hi, hz, hz1, hz2⟩ := info_parts hinf
  have some_case : ∀ ad, A = some ad → (∀ j u, news[j]? = some u → w0.cell? (ad.add j) = some u) → wpList P ops Q (o :: rest) a w0 := by
    intro ad hA hnews
    subst hA
    refine wpList_append_own _ hgd s x T ho base e i z size bytes ht hi hz hz1 hz2 hzs hsz v n xs hs hown ad m c news hx hrd.1 hnews h1 hn hb hbase ?_
    intro v' w' hown' hgr _
    exact h v' w' hown' (hbel.grown hgr hbase fun k hk => (hown.lt k hk).1) (by have := hgr.size; omega) hgr.size hgr
  by_cases hm : 0 < m
  · obtain ⟨b, off, hA, _, hc⟩ := hrd.2 hm
    exact some_case _ hA fun j u hu => by rw [add_none]; exact hc j u hu
  · obtain rfl : m = 0 := by omega
    have hnil : news = [] := List.eq_nil_of_length_eq_zero (by rw [hrd.1]; simp)
    subst hnil
    match A, hx, some_case with
    | some ad, _, sc => exact sc ad rfl (by simp)
    | none, hx, _ =>
      refine wpList_plain hgd fun K hK => ?_
      have hrun := run_append_owned_empty (P := P) (w := w0) base T o.type e i size ht hi v n c xs hown
      unfold Oper.wp
      simp [execOp, ho, resolve, invoke, builtin, hs, hx, hrun, Result.andThen]
      refine hK _ _ (h v w0 (by simpa using hown) hbel hbase (Nat.le_refl _) ?_)
      exact ⟨rfl, rfl, rfl, Nat.le_refl _, fun _ _ _ => rfl⟩
end Go.Proofs.Ytjendmojkdkipaa
