/-
  major.Decode.
-/
import Derived.Test.YtmafdbdmmfpeeaaMajDecP
import Derived.Test.YtmafdbdmmfpeeaaStrW
import Derived.Maps.OwnIn
namespace Go.Proofs.Ytmafdbdmmfpeeaa
open Go Go.RowKit Go.Shelf
attribute [local go_sem] Oper.semAt_some

theorem serInf : (Try.prog.info? 39).map (fun i => (i.zero, i.size, i.bytes)) = some (some (.agg #[.int .i64 0, .slice none 0 0]), 2, 32) := by kernel_rfl
theorem wpListIn_append_elem_row {F : Fence} {nF : Nat} {P : Program} {ops : Array Oper} {rest : List Oper} {o : Oper} {a : Act} {Q : Exit → Act → World → Prop} (hgd : o.guard = none) (s x : Operand) (T : TypeId)
    (ho : o.op = Op.call { callee := Callee.builtin Builtin.append, args := #[s, x], argTypes := #[T, T] })
    (e : TypeId) (z : Value) (size bytes : Nat) (ht : P.underlying T = some (.slice e)) (hinf : (P.info? e).map (fun i => (i.zero, i.size, i.bytes)) = some (some z, size, bytes))
    (hzs : z.cells.size = size) (hsz : 0 < size) (Pr : Nat → Prop) (n : Nat) (xs : List Value) (v : Value) (w0 : World) (us : Array Value) (hus : us.size = size) (h1 : ∀ u ∈ us.toList, u.oneCell' = true)
    (hown : Lie Pr e size v n xs w0) (hs : a.eval s = v) (hold : Old Pr w0) (hx : a.eval x = .slice (some ⟨w0.heap.size, 0, none⟩) 1 1)
    (hn : n + 1 ≤ maxLen) (hb : (n + 1) * bytes ≤ 140737488355328)
    (h : ∀ v' w', Lie Pr e size v' (n + 1) (xs ++ us.toList) w' → Stays Pr w0 w' → KeepsOthers w0 w' → wpListIn F nF P ops Q rest (a.put o.dst v') w') :
    wpListIn F nF P ops Q (o :: rest) a (w0.alloc (.cells us e)) := by
  obtain ⟨i, hi, hz, hz1, hz2⟩ := info_parts hinf
  have hg0 := World.grownBy_alloc w0 (.cells us e) v.ownBlock
  refine wpListIn_append_own_at _ hgd s x T ho 0 e i z size bytes ht hi hz hz1 hz2 hzs hsz v n xs hs (hown.1.alloc _) ⟨w0.heap.size, 0, none⟩ 1 1 us.toList hx (by simp [hus]) (cell_new w0 us e) h1 hn hb (Nat.zero_le _) ?_
  intro v' w' hown' hgr hnil hat
  have hgr' : w0.grownBy w' v.ownBlock := hg0.trans hgr
  have hat' : v'.ownBlock = v.ownBlock ∨ ∃ g, v'.ownBlock = some g ∧ w0.heap.size ≤ g := by
    rcases hat with h1 | h1
    · exact .inl h1
    · exact .inr ⟨_, h1, by simp⟩
  refine h v' w' ⟨hown', fun g hg hR => ?_⟩ ⟨hgr'.os, hgr'.tape, hgr'.output, hgr'.size, fun k hk => hgr'.block k (hold k hk) (fun e1 => hown.2 k e1.symm hk)⟩ (KeepsOthers.of_grownBy hgr' fun j o hj hh => ?_)
  · rcases hat' with h1 | ⟨g', h1, h2⟩
    · exact hown.2 g (h1.symm.trans hg) hR
    · rw [h1] at hg
      obtain rfl : g' = g := by simpa using hg
      have := hold _ hR
      omega
  · rcases hown.1.2 with ⟨e, _⟩ | ⟨g', cap, cur, e, _, hgg, _⟩
    · rw [e] at hj; simp [Value.ownBlock] at hj
    · rw [e] at hj
      obtain rfl : g' = j := by simpa [Value.ownBlock] using hj
      rw [hgg] at hh
      obtain rfl : _ = o := by simpa using hh
      rfl

/-- what Decode answers -/
def MDecPost (l : List UInt8) (w : World) (e : Ending) (w' : World) : Prop :=
  ∃ A c, ∃ xs : List SerV, e = .returned (.tuple #[.slice A xs.length c, .int .i64 (decS l).2]) ∧ SersAt w' A xs (decS l).1 ∧ (∀ x ∈ xs, x.n ≤ x.c ∧ x.c ≤ maxLen) ∧ Below w.heap.size w w'
theorem heap_grown {w w' : World} {row : Option Nat} {k : Nat} {cs : Array Value} {t : TypeId} {f : Nat × Nat} (h : w.heap[k]? = some (.cells cs t f)) (hg : w.grownBy w' row) (hrow : ∀ r, row = some r → ∃ o : Obj, w.heap[r]? = some o ∧ o.isCells = false) : w'.heap[k]? = some (.cells cs t f) := by
  refine (hg.block k (Array.getElem?_eq_some_iff.1 h).1 fun e => ?_).trans h
  obtain ⟨o, ho, hc⟩ := hrow k e.symm
  rw [h] at ho
  obtain rfl : _ = o := by simpa using ho
  simp [Obj.isCells] at hc
theorem map_ptAt {ps : List (Nat × List UInt8)} {n : Nat} (h : ps.length = n) : (List.range n).map (ptAt ps) = ps := by
  subst h
  refine List.ext_getElem (by simp) fun i h1 h2 => ?_
  simp only [List.getElem_map, List.getElem_range]
  exact ptAt_get h2
/-- between two rounds -/
def DecI (ps : List (Nat × List UInt8)) (B q : Nat) (w : World) (pre : List Nat) (W : World) : Prop :=
  ∃ A c, ∃ (xs : List SerV) (l : List Ser), W.heap[q]? = some (.cells #[.slice A xs.length c] 31 (0, 0)) ∧ OutAt (q + 3) 39 (.slice A xs.length c) xs l W ∧ serT (pre.map (ptAt ps)) = some l ∧ (∀ x ∈ xs, x.n ≤ x.c ∧ x.c ≤ maxLen) ∧
    W.heap[B]? = some (.cells #[.slice none 0 0] 31 (0, 0)) ∧ W.heap[B + 1]? = some (.cells #[.int .i64 0] 23 (0, 0)) ∧ Below B w W ∧ q + 3 ≤ W.heap.size
/-- a return lies in the result cells -/
def DecRet (ps : List (Nat × List UInt8)) (B : Nat) (w : World) (xs : List Nat) (W : World) : Prop :=
  ∃ pre x, xs = pre ++ [x] ∧ partR (ptAt ps x).2 = none ∧ W.cell? ⟨B, 0, none⟩ = some (.slice none 0 0) ∧ W.cell? ⟨B + 1, 0, none⟩ = some (.int .i64 11) ∧ Below B w W

set_option linter.unusedSimpArgs false in
set_option maxRecDepth 100000 in
set_option maxHeartbeats 2000000 in
theorem mdecode_any (s : ByteArray) (w : World) (hs : s.size ≤ 1000000) : Calls Try.prog 17 #[.string s] w (MDecPost s.data.toList w) := by
  have T := Lib.hid (fun (w0 : World) => table_at s w0.heap.size w0 rfl hs)
  refine (callsIn_wide (n := 4)).1 (callsIn_of_wp_marks Try.func17 rfl trivial (wpIn_mono ?_ bodyPostN.marks))
  simp only [Try.ntmps17, List.size_toArray, List.length_cons, List.length_nil, Nat.reduceAdd, Nat.reduceSub, Array.replicate_succ, Array.replicate_zero, List.push_toArray, List.append_toArray, List.nil_append, List.cons_append]
  refine wpIn_wide.2 ?_
  obtain ⟨B, hB⟩ : ∃ B, w.heap.size = B := ⟨_, rfl⟩
  unfold MDecPost
  rw [hB]
  go_wp2_with fail
  obtain ⟨w0, hw0, hsz0, hb0, c1, c2⟩ : ∃ w0, ((w.alloc (.cells #[.slice none 0 0] 31)).alloc (.cells #[.int .i64 0] 23)) = w0 ∧ w0.heap.size = B + 2 ∧ Below B w w0
      ∧ w0.heap[B]? = some (.cells #[.slice none 0 0] 31 (0, 0)) ∧ w0.heap[B + 1]? = some (.cells #[.int .i64 0] 23 (0, 0)) := by
    have n2 := World.alloc_heap_new w (.cells #[.slice none 0 0] 31)
    have n3 := World.alloc_heap_new (w.alloc (.cells #[.slice none 0 0] 31)) (.cells #[.int .i64 0] 23)
    simp only [World.size_alloc, hB, Nat.add_assoc, Nat.reduceAdd] at n2 n3
    refine ⟨_, rfl, by simp [hB], ?_, ?_, n3⟩
    · subst hB
      exact ((Below.refl _ _).alloc (Nat.le_refl _) _).alloc (by simp) _
    · exact (Lib.alloc_old _ _ _ (by simp; omega)).trans n2
  simp only [hw0]
  clear hw0
  refine (T.out w0).mono ?_
  rintro e w1 (⟨ht, ⟨v, rfl⟩, hb⟩ | ⟨es, a, v, ht, hsum, hid, rfl, hlie, hle, hb⟩)
  · obtain ⟨d1, g1⟩ := one_cell ((hb.block _ (by omega)).trans c1)
    obtain ⟨d2, g2⟩ := one_cell ((hb.block _ (by omega)).trans c2)
    have Hb := Lib.hid (hb0.trans (hb.mono (by omega)))
    have HF := Lib.hid (decS_none ht)
    clear hb hb0 ht T c1 c2
    go_wp2_with fail
    refine ⟨_, (by rw [results_cells2 rfl]; go_simp; rfl), none, 0, [], by rw [HF.out]; rfl, by rw [HF.out]; exact ⟨rfl, Rd.nil _ _ _, fun i h => absurd h (by simp)⟩, by simp, ?_⟩
    exact (Hb.out.setCell (p := ⟨B, 0, none⟩) (by simp) _).setCell (p := ⟨B + 1, 0, none⟩) (by simp) _
  · have h1 := (hb.block _ (by omega)).trans c1
    have h2 := (hb.block _ (by omega)).trans c2
    obtain ⟨A, c, rfl⟩ := hlie.form
    obtain ⟨q, hq⟩ : ∃ q, w1.heap.size = q := ⟨_, rfl⟩
    have hAq : ∀ b off, A = some ⟨b, off, none⟩ → b < q := by
      intro b off e
      rcases hlie.1.2 with ⟨e1, _⟩ | ⟨g', cap, cur, e1, _, hgg, _⟩
      · subst e; simp at e1
      · subst e
        simp only [Value.slice.injEq, Option.some.injEq, Addr.mk.injEq] at e1
        obtain ⟨⟨rfl, -⟩, -⟩ := e1
        exact hq ▸ (Array.getElem?_eq_some_iff.1 hgg).1
    have Hrd := Lib.hid hlie.rd
    have Hb := Lib.hid (hb0.trans (hb.mono (by omega)))
    obtain ⟨ps, hps⟩ : ∃ ps, cutE es (s.data.toList.drop a) = ps := ⟨_, rfl⟩
    have hpl : ps.length = es.length := by rw [← hps, cutE_length]
    have hpt : ∀ i, (ptAt ps i).2.length ≤ 1000000 := by
      intro i
      unfold ptAt
      rw [List.getD_eq_getElem?_getD]
      cases e : ps[min i (ps.length - 1)]? with
      | none => simp
      | some p =>
        simp only [Option.getD_some]
        refine cutE_small es (s.data.toList.drop a) 1000000 ?_ p (hps ▸ List.mem_of_getElem? e)
        rw [List.length_drop, ← Lib.size_eq]; omega
    have HTb := Lib.hid (show tableR s.data.toList = some ps by rw [ht, hps])
    have hB1 : B + 2 ≤ q := by have := hb.size; omega
    have HA := Lib.hid hAq
    have hone := Below.one w1 (.cells #[.slice none 0 0] 31)
    rw [hq] at hone
    have n0 := World.alloc_heap_new w1 (.cells #[.slice none 0 0] 31)
    rw [hq] at n0
    have hsz1 : (w1.alloc (.cells #[.slice none 0 0] 31)).heap.size = q + 1 := by simp [hq]
    have Hrd1 := Lib.hid (Hrd.out.below (hq ▸ hone))
    have Hb1 := Lib.hid (Hb.out.trans (hone.mono (show B ≤ q by omega)))
    have j1 := (hone.block B (by omega)).trans h1
    have j2 := (hone.block (B + 1) (by omega)).trans h2
    clear hb hb0 ht T c1 c2 hlie hAq Hrd Hb h1 h2 hone
    go_wp2_with fail
    generalize w1.alloc (.cells #[.slice none 0 0] 31) = wa at *
    refine (parts_any s A es.length c wa).mono ?_
    rintro e w2 ⟨rfl, hw2⟩
    have hs2 : w2.heap.size = q + 3 := by rw [hw2]; simp [hsz1]
    have hb12 : Below (q + 1) wa w2 := by rw [hw2, ← hsz1]; exact ((Below.refl _ _).alloc (Nat.le_refl _) _).alloc (by simp) _
    have n1 := World.alloc_heap_new wa (.cells #[.string s] 9)
    have n2 := World.alloc_heap_new (wa.alloc (.cells #[.string s] 9)) (.cells #[.slice A es.length c] 47)
    simp only [World.size_alloc] at n2
    rw [← hw2, hsz1] at n2
    have hbl : w2.cell? ⟨q + 2, 0, none⟩ = some (.slice A es.length c) := by rw [Lib.cell_of_heap n2]; rfl
    have hbs : w2.cell? ⟨q + 1, 0, none⟩ = some (.string s) := by rw [← hsz1, Lib.cell_of_heap (show w2.heap[wa.heap.size]? = _ from by rw [hw2]; exact (Lib.alloc_old _ _ _ (by simp)).trans n1)]; rfl
    have k0 := (hb12.block q (by omega)).trans n0
    have k1 := (hb12.block B (by omega)).trans j1
    have k2 := (hb12.block (B + 1) (by omega)).trans j2
    have Hb2 := Lib.hid (Hb1.out.trans (hb12.mono (show B ≤ q + 1 by omega)))
    have Hrd2 := Lib.hid (Hrd1.out.below (by rw [hsz1]; exact hb12))
    have HO := Lib.hid (OutAt.empty (q + 3) 39 w2 (by omega))
    clear n1 n2 hw2 n0 j1 j2 hb12 Hrd1 Hb1
    try rw [hsz1]
    try rw [hq]
    clear hsz1 hq
    try simp only [Nat.add_assoc, Nat.reduceAdd]
    go_wp2_with fail
    refine range_ret 7 8 (n := 4) (by decide) (gf := 34) (lb := #[.pointer (some ⟨q + 2, 0, none⟩), .pointer (some ⟨q + 1, 0, none⟩)]) rfl (enters_of Try.func34 (by kernel_rfl) rfl)
      (e1 := fun i : Nat => .int .i64 ((ptAt ps i).1 : Int)) (e2 := fun i : Nat => .string (S (ptAt ps i).2))
      (parts_stops 3 (fun k => k < q + 3 ∧ k ≠ q) A (q + 2) (q + 1) es.length c a s es w2 ⟨by omega, by omega⟩ (by omega) (by omega) hbl hbs Hrd2.out (fun k hk => by omega) (fun b off e => by have := HA.out b off e; omega) rfl hsum hle ps hps.symm) (fun h k => h.trans k) ?kb
      (DecI ps B q w) (DecRet ps B w) ?own ?ownr ?start ?assign ?body ?done ?stop
    case kb => exact fun W l o o' hl _ _ _ => ⟨by simp [World.putObj], fun k hk => World.putObj_heap_other (by omega)⟩
    case own =>
      rintro pre W W' row ⟨A1, c1, xs, l, g1, g2, g3, g4, g5, g6, g7, g8⟩ hg hr
      have hrow' : ∀ r, row = some r → ∃ o : Obj, W.heap[r]? = some o ∧ o.isCells = false := fun r e => (hr r e).2
      exact ⟨A1, c1, xs, l, heap_grown g1 hg hrow', g2.grown hg hrow', g3, g4, heap_grown g5 hg hrow', heap_grown g6 hg hrow', ownFrom_below (β := List Nat) (n₀ := B) (B := w2.heap.size) (w₀ := w) (by omega) (by omega) pre _ _ _ g7 hg hr, Nat.le_trans g8 hg.size⟩
    case ownr =>
      rintro xs W W' row ⟨pre, x, rfl, hne, e1, e2, hb⟩ hg hrow
      have hrow' : ∀ r, row = some r → ∃ o : Obj, W.heap[r]? = some o ∧ o.isCells = false := fun r e => (hrow r e).2
      refine ⟨pre, x, rfl, hne, cell_kept e1 hg hrow', cell_kept e2 hg hrow', ?_⟩
      exact ownFrom_below (β := List Nat) (n₀ := B) (B := w2.heap.size) (w₀ := w) (by omega) (by omega) pre _ _ _ hb hg hrow
    case start => exact ⟨none, 0, [], [], k0, HO.out, rfl, by simp, k1, k2, Hb2.out, by omega⟩
    case assign =>
      intro L x W K hK
      simp only [List.setIfInBounds_toArray, List.set_cons_zero, List.set_cons_succ] at hK ⊢
      gi_wp2
      exact hK
    case body =>
      intro L pre x W hI hlen
      obtain ⟨A1, c1, xs, l, g1, g2, g3, g4, g5, g6, g7, g8⟩ := hI
      simp only [List.setIfInBounds_toArray, List.set_cons_zero, List.set_cons_succ]
      have R := Lib.hid (mread_any (ptAt ps x).2 W (hpt x))
      have G1 := Lib.hid g1
      have G2 := Lib.hid g2
      have G3 := Lib.hid g3
      have G4 := Lib.hid g4
      have G5 := Lib.hid g5
      have G6 := Lib.hid g6
      have G7 := Lib.hid g7
      have hxl : xs.length ≤ 200 := by
        have e1 := serT_len g3
        rw [List.length_map] at e1
        have e2 := g2.len
        omega
      clear g1 g2 g3 g4 g5 g6 g7 k0 k1 k2 hpt
      gi_wp2
      refine ⟨trivial, call_in R.out ?_⟩
      rintro e W1 (⟨hN, rfl, hb1⟩ | ⟨L0, A', k, hN, rfl, hr, hk1, hk2, hb1, hf⟩)
      · have l1 := (hb1.block B (by omega)).trans G5.out
        have l2 := (hb1.block (B + 1) (by omega)).trans G6.out
        obtain ⟨m1, p1⟩ := one_cell l1
        obtain ⟨m2, p2⟩ := one_cell l2
        have Hb1 := Lib.hid hb1
        have HN := Lib.hid hN
        clear hb1 hN l1 l2
        gi_wp2
        refine ⟨(keeps_below Hb1.out).trans ((KeepsOthers.setCell _ _ _).trans (KeepsOthers.setCell _ _ _)), rfl, pre, x, rfl, HN.out, by go_simp, by go_simp, ?_⟩
        exact ((G7.out.trans (Hb1.out.mono (by omega))).setCell (p := ⟨B, 0, none⟩) (by simp) _).setCell (p := ⟨B + 1, 0, none⟩) (by simp) _
      · have hL0 : 0 < L0.length := by
          have hp := hN
          unfold partR at hp
          split at hp
          · rename_i h; simp only [Option.some.injEq] at hp; subst hp; exact List.length_pos_iff.2 h.2
          · cases hp
        have l0 := (hb1.block q (by omega)).trans G1.out
        obtain ⟨m0, p0⟩ := one_cell l0
        obtain ⟨R', hold, hlie, hmore⟩ := G2.out.more (I := ((ptAt ps x).1 : Int)) (c := k) g8 hb1 rfl hr hf hL0
        have hR'q : ∀ j, j < q + 3 → R' j ∨ True := fun _ _ => .inr trivial
        have Hlie := Lib.hid hlie
        have Hold := Lib.hid hold
        have Hmore := Lib.hid hmore
        have Hser := Lib.hid (serT_snoc G3.out hN)
        have Hb1 := Lib.hid hb1
        have Hk := Lib.hid (And.intro hk1 hk2)
        have L0' := Lib.hid l0
        obtain ⟨m, hm⟩ : ∃ m, L0.length = m := ⟨_, rfl⟩
        rw [hm] at Hmore Hk ⊢
        obtain ⟨i, hi⟩ : ∃ i, xs.length = i := ⟨_, rfl⟩
        have Hi := Lib.hid hi
        rw [hi] at Hlie Hmore m0 hxl L0'
        clear hr hb1 hf hlie hold hmore hm hL0 hN hk1 hk2 l0 hR'q hi
        gi_wp2_with (gi_at_builtin; go_must (refine wpListIn_append_elem_row rfl (.tmp 31) (.tmp 35) 31 (by rfl) 39 (.agg #[.int .i64 0, .slice none 0 0]) 2 32 Try.underlying31 serInf rfl (by decide) R' i _ _ W1 #[.int .i64 ((ptAt ps x).1 : Int), .slice A' m k] rfl (by intro u hu; simp at hu; rcases hu with rfl | rfl <;> rfl) Hlie.out (by rfl) Hold.out (by rfl) (by unfold maxLen; omega) (by omega) ?_); intro v6 w6 hown6 hst6 hkp6; have hm6 := Hmore.out v6 w6 hown6 hst6; have Ho6 := Lib.hid hm6.1; have Hb6 := Lib.hid (hm6.2); have Hkp6 := Lib.hid hkp6; obtain ⟨A6, c6, rfl⟩ := hown6.form; have l6 := (hm6.2.block q (by omega)).trans L0'.out; obtain ⟨m6, p6⟩ := one_cell l6; have L6 := Lib.hid l6; clear hown6 hst6 hkp6 hm6 l6)
        have hxs : (xs ++ [(⟨((ptAt ps x).1 : Int), A', m, k⟩ : SerV)]).length = i + 1 := by rw [List.length_append, Hi.out]; rfl
        refine ⟨(keeps_below Hb1.out).trans (Hkp6.out.trans (KeepsOthers.setCell _ _ _)), ⟨?_, fun j hj => ?_⟩, A6, c6, xs ++ [⟨((ptAt ps x).1 : Int), A', m, k⟩], l ++ [⟨((ptAt ps x).1 : Int), L0⟩], ?_, ?_, by rw [List.map_append]; exact Hser.out, ?_, ?_, ?_, ?_, ?_⟩
        · exact Nat.le_trans Hb1.out.size (by simpa [World.setCell] using Hb6.out.size)
        · exact (Below.heap_setCell _ _ _ _ (by simp only; omega)).trans ((Hb6.out.block j hj.1).trans (Hb1.out.block j (by omega)))
        · rw [hxs]
          simp [World.setCell, Array.getElem?_modify, L6.out]
        · rw [hxs]
          exact Ho6.out.later (by simp [World.setCell]) fun g hg _ => Below.heap_setCell _ _ _ _ (by simp only; omega)
        · intro y hy
          rcases List.mem_append.1 hy with h | h
          · exact G4.out y h
          · rw [List.mem_singleton.1 h]; exact Hk.out
        · exact (Below.heap_setCell _ _ _ _ (by simp only; omega)).trans ((Hb6.out.block B (by omega)).trans ((Hb1.out.block B (by omega)).trans G5.out))
        · exact (Below.heap_setCell _ _ _ _ (by simp only; omega)).trans ((Hb6.out.block (B + 1) (by omega)).trans ((Hb1.out.block (B + 1) (by omega)).trans G6.out))
        · exact ((G7.out.trans (Hb1.out.mono (by omega))).trans (Hb6.out.mono (by omega))).setCell (p := ⟨q, 0, none⟩) (by simp only; omega) _
        · have h1 := Hb1.out.size; have h2 := Hb6.out.size; simp [World.setCell]; omega
    case done =>
      rintro D xs0 W hD rfl ⟨A1, c1, xs, l, g1, g2, g3, g4, g5, g6, g7, g8⟩ hDd
      rw [map_ptAt hpl] at g3
      have HD := Lib.hid (decS_good HTb.out g3)
      obtain ⟨m0, p0⟩ := one_cell g1
      obtain ⟨m1, p1⟩ := one_cell g5
      obtain ⟨m2, p2⟩ := one_cell g6
      have G2 := Lib.hid g2
      have G4 := Lib.hid g4
      have G7 := Lib.hid g7
      have HDd := Lib.hid hDd
      obtain ⟨i, hi⟩ : ∃ i, xs.length = i := ⟨_, rfl⟩
      have Hi := Lib.hid hi
      rw [hi] at m0
      clear g1 g2 g3 g4 g5 g6 g7 hDd k0 k1 k2 hi
      go_wp2_with fail
      obtain ⟨W', hW', u1, u2, hD', hb', ho'⟩ : ∃ W', (W.setCell ⟨B, 0, none⟩ (.slice A1 i c1)).setCell ⟨B + 1, 0, none⟩ (.int .i64 0) = W' ∧ W'.cell? ⟨B, 0, none⟩ = some (.slice A1 i c1) ∧ W'.cell? ⟨B + 1, 0, none⟩ = some (.int .i64 0) ∧ W'.heap[D]? = some (.deferred (some [])) ∧ Below B w W' ∧ OutAt (q + 3) 39 (.slice A1 xs.length c1) xs l W' :=
        ⟨_, rfl, by go_simp, by go_simp, (Below.heap_setCell _ _ _ _ (by simp only; omega)).trans ((Below.heap_setCell _ _ _ _ (by simp only; omega)).trans HDd.out), (G7.out.setCell (p := ⟨B, 0, none⟩) (by simp) _).setCell (p := ⟨B + 1, 0, none⟩) (by simp) _,
          G2.out.later (by simp [World.setCell]) fun g hg _ => (Below.heap_setCell _ _ _ _ (by simp only; omega)).trans (Below.heap_setCell _ _ _ _ (by simp only; omega))⟩
      rw [hW']
      have z1 := (World.cell?_of_block (w := W') (w' := W'.putObj D (.deferred none)) (a := ⟨B, 0, none⟩) (World.putObj_heap_other (by simp only; omega))).trans u1
      have z2 := (World.cell?_of_block (w := W') (w' := W'.putObj D (.deferred none)) (a := ⟨B + 1, 0, none⟩) (World.putObj_heap_other (by simp only; omega))).trans u2
      have ho2 := ho'.grown (grownBy_putObj' W' D (.deferred none)) (fun r e => by cases e; exact ⟨_, hD', rfl⟩)
      refine ⟨by simp, .inl ⟨_, _, rfl, run_takeDeferred hD', ?_⟩⟩
      refine ⟨_, (by rw [results_cells2 rfl]; go_simp; rfl), A1, c1, xs, by rw [HD.out, Hi.out]; rfl, by rw [HD.out]; exact ho2.sers, G4.out, below_put hb' (by omega)⟩
    case stop =>
      rintro D xs0 W hD hSp ⟨pre, x, rfl, hne, e1, e2, hb⟩ hDd
      obtain ⟨hxn, hin⟩ := prefix_range hSp
      have hgx : ptAt ps x = ps[x]'(by omega) := ptAt_get (by omega)
      have HDs := Lib.hid (decS_bad HTb.out (serT_none (p := ptAt ps x) (by rw [hgx]; exact List.getElem_mem _) hne))
      have z1 := (World.cell?_of_block (w := W) (w' := W.putObj D (.deferred none)) (a := ⟨B, 0, none⟩) (World.putObj_heap_other (by simp only; omega))).trans e1
      have z2 := (World.cell?_of_block (w := W) (w' := W.putObj D (.deferred none)) (a := ⟨B + 1, 0, none⟩) (World.putObj_heap_other (by simp only; omega))).trans e2
      refine ⟨by simp, .inl ⟨_, _, rfl, run_takeDeferred hDd, ?_⟩⟩
      refine ⟨_, (by rw [results_cells2 rfl]; go_simp; rfl), none, 0, [], by rw [HDs.out]; rfl, by rw [HDs.out]; exact ⟨rfl, Rd.nil _ _ _, fun i h => absurd h (by simp)⟩, by simp, below_put hb (by omega)⟩
end Go.Proofs.Ytmafdbdmmfpeeaa
