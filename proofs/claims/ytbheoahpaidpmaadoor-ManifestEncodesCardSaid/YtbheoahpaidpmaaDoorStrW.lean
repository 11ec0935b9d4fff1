/-
  strings.Builder: WriteString, Len; two builders of the call's own, side by side.
-/
import Derived.Test.YtbheoahpaidpmaaDoorVBuilder
import Derived.Lib.AppendStr
import Derived.RangeFuncFrom
namespace Go.Proofs.YtbheoahpaidpmaaDoor
open Go Go.RowKit

/-- 'append(s, t...)', t a string: where the row lies then -/
theorem run_append_str_at {P : Program} (t u ty e : TypeId) (i : TypeInfo) (ht : P.underlying t = some (.slice e)) (hu : P.underlying u = some .string) (hi : P.info? e = some i) (hz : i.zero = some (.int .u8 0)) (hsize : i.size = 1) (hby : i.bytes = 1)
    (v : Value) (n : Nat) (xs : List Value) (w : World) (hown : w.ownsRow 0 e 1 v n xs) (s : ByteArray) (h63 : n + s.size ≤ maxLen) (hbytes : n + s.size ≤ 140737488355328) :
    ∃ v' w', (Builtin.append_ #[t, u] ty #[v, .string s]).run P w = .ok v' w' ∧ w'.ownsRow 0 e 1 v' (n + s.size) (xs ++ Lib.strCells s) ∧ w.grownBy w' v.ownBlock ∧ (v'.ownBlock = v.ownBlock ∨ ∀ g, v'.ownBlock = some g → w.heap.size ≤ g) := by
  have hsmall : n + s.size ≤ 9223372036854775807 := by simp only [maxLen] at h63; omega
  rcases hown.2 with ⟨rfl, rfl⟩ | ⟨g, cap, cur, rfl, hbg, hg, hnc, hcm, hcs, htake⟩
  · have hx : xs = [] := List.eq_nil_of_length_eq_zero (by simpa using hown.1)
    subst hx
    obtain ⟨v', w', hr, h1, h2, -⟩ := Lib.run_append_own_string (P := P) (w := w) w.heap.size t u ty e i ht hu hi hz hsize hby (.slice none 0 0) 0 [] (World.ownsRow_nil _ _ _ _) s h63 hbytes (Nat.le_refl _)
    refine ⟨v', w', hr, ⟨h1.1, ?_⟩, h2, .inr fun g hg => (h1.lt g hg).1⟩
    rcases h1.2 with h3 | ⟨g, cap, cur, h3, h4, h5⟩
    · exact .inl h3
    · exact .inr ⟨g, cap, cur, h3, Nat.zero_le _, h5⟩
  · obtain ⟨v', w', hr, h1, h2, -⟩ := Lib.run_append_own_string (P := P) (w := w) 0 t u ty e i ht hu hi hz hsize hby _ n xs hown s h63 hbytes (Nat.zero_le _)
    refine ⟨v', w', hr, h1, h2, ?_⟩
    by_cases hroom : n + s.size ≤ cap
    · have hr2 := Lib.run_append_room_string (P := P) w t u ty e i ht hu hi hsize g n cap cur hg s hroom (by omega)
      rw [hr] at hr2
      left
      injection hr2 with hv _
      rw [hv]; rfl
    · have holds : ∀ j u, xs[j]? = some u → w.cell? ((⟨g, 0, none⟩ : Addr).add j) = some u := hown.cells (g := g) rfl
      have hxl : xs.length = n := by simpa using hown.1
      have hr2 := Lib.run_append_grow_string (P := P) w t u ty e i (.int .u8 0) ht hu hi hz ⟨g, 0, none⟩ n cap xs (by rw [hsize]; simpa using hxl) holds s (by omega) (by omega) (by rw [hby]; exact growslice_fits (by omega) (by omega))
      rw [hr] at hr2
      right
      injection hr2 with hv _
      rw [hv]
      intro g' hg'
      simp only [Value.ownBlock, Option.some.injEq] at hg'
      omega

theorem wpList_append_str_row {P : Program} {ops : Array Oper} {rest : List Oper} {o : Oper} {a : Act} {Q : Exit → Act → World → Prop} (hgd : o.guard = none) (sl x : Operand) (t u : TypeId)
    (ho : o.op = .call { callee := .builtin .append, args := #[sl, x], argTypes := #[t, u] }) (e : TypeId) (ht : P.underlying t = some (.slice e)) (hu : P.underlying u = some .string) (hinf : (P.info? e).map (fun i => (i.zero, i.size, i.bytes)) = some (some (.int .u8 0), 1, 1))
    (Pr : Nat → Prop) (v : Value) (n : Nat) (xs : List Value) (w0 : World) (hs : a.eval sl = v) (hown : Lie Pr e 1 v n xs w0) (hold : Old Pr w0) (s : ByteArray) (hx : a.eval x = .string s) (h63 : n + s.size ≤ maxLen) (hbytes : n + s.size ≤ 140737488355328)
    (h : ∀ v' w', Lie Pr e 1 v' (n + s.size) (xs ++ Lib.strCells s) w' → Stays Pr w0 w' → KeepsOthers w0 w' → wpList P ops Q rest (a.put o.dst v') w') : wpList P ops Q (o :: rest) a w0 := by
  obtain ⟨i, hi, hz, hz1, hz2⟩ := info_parts hinf
  obtain ⟨v', w', hr, hown', hgr, hat⟩ := run_append_str_at (P := P) t u o.type e i ht hu hi hz hz1 hz2 v n xs w0 hown.1 s h63 hbytes
  refine wpList_plain hgd fun K hK => ?_
  unfold Oper.wp execOp
  simp only [ho, resolve, invoke, builtin, Sem.run_bind, Sem.run_pure, Result.andThen_ok, List.map_toArray, List.map_cons, List.map_nil, hs, hx, hr]
  refine hK _ _ (h v' w' ⟨hown', fun g hg hR => ?_⟩ ⟨hgr.os, hgr.tape, hgr.output, hgr.size, fun k hk => hgr.block k (hold k hk) (fun e1 => hown.2 k e1.symm hk)⟩ (KeepsOthers.of_grownBy hgr fun j o hj hh => ?_))
  · rcases hat with h1 | h1
    · exact hown.2 g (h1.symm.trans hg) hR
    · have := hold _ hR
      have := h1 g hg
      omega
  · rcases hown.1.2 with ⟨e, _⟩ | ⟨g', cap, cur, e, _, hgg, _⟩
    · rw [e] at hj; simp [Value.ownBlock] at hj
    · rw [e] at hj
      obtain rfl : g' = j := by simpa [Value.ownBlock] using hj
      rw [hgg] at hh
      obtain rfl : _ = o := by simpa using hh
      rfl

theorem strCells_of (s : ByteArray) : Lib.strCells s = cellsOf s.data.toList := by
  simp [Lib.strCells, cellsOf]

set_option maxHeartbeats 2000000 in
set_option maxRecDepth 100000 in
theorem writeString_any (R : Nat → Prop) (b : Nat) (T : TypeId) (tl : List Value) (l : List UInt8) (s : ByteArray) (w : World) (h : Bld R b T tl l w) (hl : l.length + s.size < 1099511627776) (hR : Old R w) :
    Calls Tryd.prog 43 #[.pointer (some ⟨b, 0, none⟩), .string s] w fun e w' => (∃ v, e = .returned v) ∧ Bld R b T tl (l ++ s.data.toList) w' ∧ Beside R b w w' ∧ KeepsOthers w w' := by
  have hk0 : ∀ w1, Beside R b w w1 → (w1 = w ∨ w1 = w.setCell ⟨b, 0, none⟩ (.pointer (some ⟨b, 0, none⟩))) → KeepsOthers w w1 := fun w1 _ h => by
    rcases h with rfl | rfl
    · exact KeepsOthers.refl _
    · exact KeepsOthers.setCell _ _ _
  have C : Calls Tryd.prog 58 #[.pointer (some ⟨b, 0, none⟩)] w fun e w' => e = .returned (.tuple #[]) ∧ Bld R b T tl l w' ∧ w'.cell? ⟨b, 0, none⟩ = some (.pointer (some ⟨b, 0, none⟩)) ∧ Beside R b w w' ∧ KeepsOthers w w' := by
    obtain ⟨hb, hT, p, v, hp, hh, ho⟩ := h
    have hsh : w.shape? b = some (T, 2 + tl.length) := by simp [World.shape?, hh]; omega
    have h0 : w.cell? ⟨b, 0, none⟩ = some p := by rw [Lib.cell_of_heap hh]; rfl
    rcases hp with rfl | rfl
    · refine (check_fresh b w h0 T _ hT (by omega) hsh (Lib.frozen_of_heap hh 0)).mono ?_
      rintro e w' ⟨rfl, rfl⟩
      have hh' : (w.setCell ⟨b, 0, none⟩ (.pointer (some ⟨b, 0, none⟩))).heap[b]? = some (.cells (.pointer (some ⟨b, 0, none⟩) :: v :: tl).toArray T (0, 0)) := by
        simp [World.setCell, Array.getElem?_modify, hh]
      exact ⟨rfl, ⟨hb, hT, _, v, .inr rfl, hh', own_set ho hb _ _⟩, by rw [Lib.cell_of_heap hh']; rfl, beside_set _ _ _ _ _, KeepsOthers.setCell _ _ _⟩
    · refine (check_used b w h0).mono ?_
      rintro e w' ⟨rfl, rfl⟩
      exact ⟨rfl, ⟨hb, hT, _, v, .inr rfl, hh, ho⟩, h0, Beside.refl _ _ _, KeepsOthers.refl _⟩
  have HC := Lib.hid C
  clear h C hk0
  go_enter Tryd.func43, Tryd.ntmps43
  go_wp2_with fail
  refine HC.out.mono ?_
  rintro e w1 ⟨rfl, ⟨hbR, hT, p, v, hp, hbk, hown⟩, c0, hb1, hk1⟩
  have HT := Lib.hid hT
  have hold := hR.mono hb1.size
  have Hk1 := Lib.hid hk1
  clear hT hk1
  have c1 : w1.cell? ⟨b, 1, none⟩ = some v := by rw [Lib.cell_of_heap hbk]; rfl
  have hblt : b < w1.heap.size := (Array.getElem?_eq_some_iff.1 hbk).1
  have hsz := hb1.size
  go_wp2_with ((at_builtin; go_must (refine wpList_append_str_row rfl (.tmp 12) (.tmp 13) 80 9 (by rfl) 5 Tryd.underlying80 Tryd.underlying9 (by kernel_rfl) R v l.length (cellsOf l) w1 (by rfl) hown hold s (by rfl) (by unfold maxLen; omega) (by omega) ?_); intro v' w2 hown2 hb2 hk2; obtain ⟨O, cap, rfl⟩ := own_form hown2.1; have Hk2 := Lib.hid hk2; clear hk2; have hbk2 := (hb2.block b hbR).trans hbk; have d0 : w2.cell? ⟨b, 0, none⟩ = some (.pointer (some ⟨b, 0, none⟩)) := (Lib.cell_of_heap hbk2 0).trans ((Lib.cell_of_heap hbk 0).symm.trans c0); have d1 : w2.cell? ⟨b, 1, none⟩ = some v := (Lib.cell_of_heap hbk2 1).trans rfl; have d2 : w2.frozen? ⟨b, 1, none⟩ = false := Lib.frozen_of_heap hbk2 1))
  go_ret2
  have hlen : (l ++ s.data.toList).length = l.length + s.size := by rw [List.length_append, ← Lib.size_eq]
  rw [strCells_of, ← show cellsOf (l ++ s.data.toList) = cellsOf l ++ cellsOf s.data.toList by simp [cellsOf]] at hown2
  refine ⟨⟨_, rfl⟩, ⟨hbR, HT.out, p, _, hp, ?_, own_set (by rw [hlen]; exact hown2) hbR _ _⟩, (hb1.trans hb2.beside).trans (beside_set _ _ _ _ _), (Hk1.out.trans Hk2.out).trans (KeepsOthers.setCell _ _ _)⟩
  simp [World.setCell, Array.getElem?_modify, hbk2]

/-- a world in which what R names, and whatever is no cells, is as it was -/
structure Ev (R : Nat → Prop) (W W' : World) : Prop where
  st : Stays R W W'
  kp : KeepsOthers W W'
theorem Ev.refl (R : Nat → Prop) (W : World) : Ev R W W := ⟨Stays.refl _ _, KeepsOthers.refl _⟩
theorem Ev.trans {R : Nat → Prop} {A B C : World} (h : Ev R A B) (k : Ev R B C) : Ev R A C := ⟨h.st.trans k.st, h.kp.trans k.kp⟩
theorem keeps_below {W W' : World} (h : Below W.heap.size W W') : KeepsOthers W W' := ⟨h.size, fun k _ hk _ => (h.block k (Array.getElem?_eq_some_iff.1 hk).1).trans hk⟩
theorem Ev.below {R : Nat → Prop} {W W' : World} (hR : Old R W) (h : Below W.heap.size W W') : Ev R W W' := ⟨Stays.of h hR, keeps_below h⟩

/-- two builders of the call's own, at p and q -/
structure Bld2 (R : Nat → Prop) (p q : Nat) (l m : List UInt8) (W : World) : Prop where
  ex : ∃ u v a b, (a = .pointer none ∨ a = .pointer (some ⟨p, 0, none⟩)) ∧ (b = .pointer none ∨ b = .pointer (some ⟨q, 0, none⟩)) ∧ W.heap[p]? = some (.cells #[a, u] 82 (0, 0)) ∧ W.heap[q]? = some (.cells #[b, v] 82 (0, 0)) ∧
    Lie (fun k => R k ∨ k = p ∨ k = q ∨ v.ownBlock = some k) 5 1 u l.length (cellsOf l) W ∧ Lie (fun k => R k ∨ k = p ∨ k = q ∨ u.ownBlock = some k) 5 1 v m.length (cellsOf m) W
  ne : p ≠ q
  np : ¬ R p
  nq : ¬ R q
section
variable {R : Nat → Prop} {p q : Nat} {l m : List UInt8} {W W' : World}
theorem Bld2.swap (h : Bld2 R p q l m W) : Bld2 R q p m l W := by
  obtain ⟨⟨u, v, a, b, h1, h2, h3, h4, h5, h6⟩, h7, h8, h9⟩ := h
  refine ⟨⟨v, u, b, a, h2, h1, h4, h3, h6.shift ?_, h5.shift ?_⟩, fun e => h7 e.symm, h9, h8⟩
  · intro g hg hp; exact h6.2 g hg (by rcases hp with h | h | h | h <;> simp [h])
  · intro g hg hp; exact h5.2 g hg (by rcases hp with h | h | h | h <;> simp [h])
theorem Bld2.lt (h : Bld2 R p q l m W) : p < W.heap.size ∧ q < W.heap.size := by
  obtain ⟨⟨u, v, a, b, h1, h2, h3, h4, h5, h6⟩, h7, h8, h9⟩ := h
  exact ⟨(Array.getElem?_eq_some_iff.1 h3).1, (Array.getElem?_eq_some_iff.1 h4).1⟩
/-- it stands where its blocks do -/
theorem Bld2.later (h : Bld2 R p q l m W) (hc : ∀ k cs t f, W.heap[k]? = some (.cells cs t f) → k = p ∨ k = q ∨ ¬ R k → W'.heap[k]? = W.heap[k]?) : Bld2 R p q l m W' := by
  obtain ⟨⟨u, v, a, b, h1, h2, h3, h4, h5, h6⟩, h7, h8, h9⟩ := h
  have cel : ∀ {v : Value} {n : Nat} {zs : List Value} {Pr : Nat → Prop}, Lie Pr 5 1 v n zs W → (∀ k, R k → Pr k) → ∀ k, v.ownBlock = some k → W'.heap[k]? = W.heap[k]? := fun {v n zs Pr} hl hr k hk => by
    have hkr : ¬ R k := fun e => hl.2 k hk (hr k e)
    rcases hl.1.2 with ⟨e, _⟩ | ⟨g', cap, cur, e, _, hgg, _⟩
    · rw [e] at hk; simp [Value.ownBlock] at hk
    · rw [e] at hk
      obtain rfl : g' = k := by simpa [Value.ownBlock] using hk
      exact hc _ _ _ _ hgg (.inr (.inr hkr))
  exact ⟨⟨u, v, a, b, h1, h2, (hc _ _ _ _ h3 (.inl rfl)).trans h3, (hc _ _ _ _ h4 (.inr (.inl rfl))).trans h4, h5.later (cel h5 fun _ h => .inl h), h6.later (cel h6 fun _ h => .inl h)⟩, h7, h8, h9⟩
theorem Bld2.below (h : Bld2 R p q l m W) (hb : Below W.heap.size W W') : Bld2 R p q l m W' := h.later fun k _ _ _ hk _ => hb.block k (Array.getElem?_eq_some_iff.1 hk).1
/-- a write to the first -/
theorem Bld2.write (h : Bld2 R p q l m W) (s : ByteArray) (hl : l.length + s.size < 1099511627776) (hR : Old R W) :
    Calls Tryd.prog 43 #[.pointer (some ⟨p, 0, none⟩), .string s] W fun e W' => (∃ v, e = .returned v) ∧ Bld2 R p q (l ++ s.data.toList) m W' ∧ Ev R W W' := by
  have hlt := h.lt
  obtain ⟨⟨u, v, a, b, h1, h2, h3, h4, h5, h6⟩, h7, h8, h9⟩ := h
  have hold : Old (fun k => R k ∨ k = p ∨ k = q ∨ v.ownBlock = some k) W := fun k hk => by
    rcases hk with h | h | h | h
    · exact hR k h
    · omega
    · omega
    · exact (h6.1.lt k h).2
  refine (writeString_any (fun k => R k ∨ k = p ∨ k = q ∨ v.ownBlock = some k) p 82 [] l s W ⟨.inr (.inl rfl), fits_alone, a, u, h1, h3, h5⟩ hl hold).mono ?_
  rintro e W' ⟨he, ⟨-, -, a', u', ha', hh', hu'⟩, hb, hk⟩
  refine ⟨he, ⟨⟨u', v, a', b, ha', h2, hh', (hb.block q (.inr (.inr (.inl rfl))) (fun e => h7 e.symm)).trans h4, hu', (h6.later fun g hg => hb.block g (.inr (.inr (.inr hg))) fun e => h6.2 g hg (.inr (.inl e))).shift fun g hg hp => ?_⟩, h7, h8, h9⟩, ⟨⟨hb.os, hb.tape, hb.output, hb.size, fun k hk => hb.block k (.inl hk) fun e => h8 (e ▸ hk)⟩, hk⟩⟩
  rcases hp with h | h | h | h
  · exact h6.2 g hg (.inl h)
  · exact h6.2 g hg (.inr (.inl h))
  · exact h6.2 g hg (.inr (.inr (.inl h)))
  · exact hu'.2 g h (.inr (.inr (.inr hg)))

/-- the first one's text: the second one stands -/
theorem Bld2.str (h : Bld2 R p q l m W) (hR : Old R W) : Calls Tryd.prog 46 #[.pointer (some ⟨p, 0, none⟩)] W fun e W' => e = .returned (.string (S l)) ∧ Stays R W W' ∧ ∃ R', Bld R' q 82 [] m W' ∧ Old R' W' ∧ ∀ k, R k → R' k := by
  have hlt := h.lt
  obtain ⟨⟨u, v, a, b, h1, h2, h3, h4, h5, h6⟩, h7, h8, h9⟩ := h
  have hold : Old (fun k => R k ∨ k = p ∨ k = q ∨ v.ownBlock = some k) W := fun k hk => by
    rcases hk with h | h | h | h
    · exact hR k h
    · omega
    · omega
    · exact (h6.1.lt k h).2
  refine (string_any (fun k => R k ∨ k = p ∨ k = q ∨ v.ownBlock = some k) p 82 [] l W ⟨.inr (.inl rfl), fits_alone, a, u, h1, h3, h5⟩ hold).mono ?_
  rintro e W' ⟨rfl, hs⟩
  refine ⟨rfl, hs.mono fun k hk => .inl hk, fun k => R k ∨ k = q, ⟨.inr rfl, fits_alone, b, v, h2, (hs.block q (.inr (.inr (.inl rfl)))).trans h4, (h6.later fun g hg => hs.block g (.inr (.inr (.inr hg)))).shift fun g hg hp => ?_⟩, fun k hk => ?_, fun k hk => .inl hk⟩
  · rcases hp with h | h
    · exact h6.2 g hg (.inl h)
    · exact h6.2 g hg (.inr (.inr (.inl h)))
  · have := hs.size
    rcases hk with h | h
    · have := hR k h; omega
    · omega
end
/-- two builders that have just been laid -/
theorem bld2_new {R : Nat → Prop} (w : World) (hR : Old R w) : Bld2 R w.heap.size (w.heap.size + 1) [] [] ((w.alloc (.cells #[.pointer none, .slice none 0 0] 82)).alloc (.cells #[.pointer none, .slice none 0 0] 82)) := by
  have n1 := heap_alloc_new w (.cells #[.pointer none, .slice none 0 0] 82)
  have n2 := heap_alloc_new (w.alloc (.cells #[.pointer none, .slice none 0 0] 82)) (.cells #[.pointer none, .slice none 0 0] 82)
  simp only [World.size_alloc] at n2
  refine ⟨⟨.slice none 0 0, .slice none 0 0, .pointer none, .pointer none, .inl rfl, .inl rfl, (Lib.alloc_old _ _ _ (by simp)).trans n1, n2, Lie.nil _ _ _ _, Lie.nil _ _ _ _⟩, by omega, fun h => by have := hR _ h; omega, fun h => by have := hR _ h; omega⟩
end Go.Proofs.YtbheoahpaidpmaaDoor
