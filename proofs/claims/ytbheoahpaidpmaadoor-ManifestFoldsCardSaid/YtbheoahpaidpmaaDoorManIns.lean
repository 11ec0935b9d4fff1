/-
  slices.Insert of one part, into a row of the call's own.
-/
import Derived.Test.YtbheoahpaidpmaaDoorManDel
import Derived.Lib.AppendZerosOnto
import Derived.Lib.Overlaps
import Derived.Laws.IdiomCopy
import Derived.Laws.Externs
import Derived.Deep.RegionLaw
namespace Go.Proofs.YtbheoahpaidpmaaDoor
open Go Go.RowKit

/-! the operation copy, where its run is known: after the kit's worked walk of slices.Insert -/
theorem wp_copy_run (w : World) {P : Program} {o : Oper} {a : Act} {K : Act → World → Prop} {Q : Exit → Act → World → Prop} (d s : Operand) (t t' : TypeId)
    (ho : o.op = .call { callee := .builtin .copy, args := #[d, s], argTypes := #[t, t'] }) (v u : Value) (hd : a.eval d = v) (hs : a.eval s = u) {v' : Value} {w' : World}
    (hr : (Builtin.copy_ #[t, t'] o.type #[v, u]).run P w = .ok v' w') (h : K (a.put o.dst v') w') : o.wp P a w K Q := by
  unfold Oper.wp execOp
  simp only [ho, resolve, invoke, builtin, Sem.run_bind, Sem.run_pure, Result.andThen_ok, List.map_toArray, List.map_cons, List.map_nil, hd, hs, hr]
  exact h
theorem wpList_copy_run (w : World) {P : Program} {ops : Array Oper} {rest : List Oper} {o : Oper} {a : Act} {Q : Exit → Act → World → Prop} (hgd : o.guard = none) (d s : Operand) (t t' : TypeId)
    (ho : o.op = .call { callee := .builtin .copy, args := #[d, s], argTypes := #[t, t'] }) (v u : Value) (hd : a.eval d = v) (hs : a.eval s = u) {v' : Value} {w' : World}
    (hr : (Builtin.copy_ #[t, t'] o.type #[v, u]).run P w = .ok v' w') (h : wpList P ops Q rest (a.put o.dst v') w') : wpList P ops Q (o :: rest) a w :=
  wpList_plain hgd fun _ hK => wp_copy_run w d s t t' ho v u hd hs hr (hK _ _ h)
theorem wpList_append_run (w : World) {P : Program} {ops : Array Oper} {rest : List Oper} {o : Oper} {a : Act} {Q : Exit → Act → World → Prop} (hgd : o.guard = none) (d s : Operand) (t t' : TypeId)
    (ho : o.op = .call { callee := .builtin .append, args := #[d, s], argTypes := #[t, t'] }) (v u : Value) (hd : a.eval d = v) (hs : a.eval s = u) {v' : Value} {w' : World}
    (hr : (Builtin.append_ #[t, t'] o.type #[v, u]).run P w = .ok v' w') (h : wpList P ops Q rest (a.put o.dst v') w') : wpList P ops Q (o :: rest) a w :=
  wpList_plain hgd fun _ hK => by
    unfold Oper.wp execOp
    simp only [ho, resolve, invoke, builtin, Sem.run_bind, Sem.run_pure, Result.andThen_ok, List.map_toArray, List.map_cons, List.map_nil, hd, hs, hr]
    exact hK _ _ h
theorem step_copy_run {P : Program} {ops : Array Oper} {o : Oper} {a : Act} {w : World} {K : Act → World → Prop} {Q : Exit → Act → World → Prop} {E : Prop}
    (hg : o.guard = none) (d x : Operand) (dT sT : TypeId) (hop : o.op = Op.call { callee := Callee.builtin Builtin.copy, args := #[d, x], argTypes := #[dT, sT] })
    (v u : Value) (hd : a.eval d = v) (hx : a.eval x = u) {v' : Value} {w' : World} (hr : (Builtin.copy_ #[dT, sT] o.type #[v, u]).run P w = .ok v' w') (hK : K (a.put o.dst v') w') :
    if Region.wanted o (yielded ops a.tmps) = true then Oper.wp P o a w K Q else E := by
  have hw : Region.wanted o (yielded ops a.tmps) = true := by simp [Region.wanted, hg]
  rw [if_pos hw]
  unfold Oper.wp
  simp [execOp, hop, resolve, invoke, builtin, hd, hx, hr, Result.andThen]
  exact hK
/-- copy, of elements of k cells -/
theorem run_copy_cellsk {P : Program} (w : World) (dT sT ty elem : TypeId) (k b o dLen dCap : Nat) (a : Addr) (sLen sCap m : Nat) (cs : List Value)
    (hu : P.underlying dT = some (.slice elem)) (hs : (P.info? elem).map (·.size) = some k) (hm : Nat.min sLen dLen = m) (hn : cs.length = m * k)
    (hsrc : ∀ j v, cs[j]? = some v → w.cell? (a.add j) = some v) (hc : ∀ j, j < cs.length → (w.cell? ⟨b, o + j, none⟩).isSome = true) (hf : ∀ j, j < cs.length → w.frozen? ⟨b, o + j, none⟩ = false) (h1 : ∀ v ∈ cs, v.oneCell' = true) :
    (Builtin.copy_ #[dT, sT] ty #[.slice (some ⟨b, o, none⟩) dLen dCap, .slice (some a) sLen sCap]).run P w = .ok (goInt m) (w.setCells b o cs) := by
  have hl := run_loadCells_list (P := P) w a cs hsrc
  have hst := run_storeCells_cells (P := P) b o cs 0 w (by simpa using hc) (by simpa using hf) h1
  cases hq : P.info? elem with
  | none => simp [hq] at hs
  | some i =>
    have hi : i.size = k := by simpa [hq] using hs
    simp [Builtin.copy_, run_underlying hu, Builtin.lenOf, Builtin.firstCells, sizeOf, typeInfo, hq, hi, hm, ← hn, hl, hst]

section
variable {R : Nat → Prop} {e : TypeId} {size n c g : Nat} {w : World} {xs : List Value}
/-- one element more, of what stands behind -/
theorem Lie.extend {A : Option Addr} (h : Lie R e size (.slice A n c) n xs w) (hn : 0 < n) (hc : n + 1 ≤ c) : ∃ us, us.length = size ∧ Lie R e size (.slice A (n + 1) c) (n + 1) (xs ++ us) w := by
  rcases h.1.2 with ⟨h1, h2⟩ | ⟨g', cap, cur, hv, hb, hg, hnc, hm, hs, ht⟩
  · omega
  · simp only [Value.slice.injEq] at hv
    obtain ⟨rfl, _, rfl⟩ := hv
    have hl : (n + 1) * size ≤ cur.size := by rw [hs]; exact Nat.mul_le_mul_right _ hc
    have hsplit : cur.toList.take ((n + 1) * size) = xs ++ (cur.toList.drop (n * size)).take size := by
      rw [Nat.add_mul, Nat.one_mul, List.take_add, ht]
    have hlen : ((cur.toList.drop (n * size)).take size).length = size := by
      rw [List.length_take, List.length_drop, Array.length_toList]
      rw [Nat.add_mul, Nat.one_mul] at hl
      omega
    refine ⟨_, hlen, ⟨by rw [List.length_append, hlen, h.1.1, Nat.add_mul, Nat.one_mul], .inr ⟨g', c, cur, rfl, hb, hg, hc, hm, hs, hsplit⟩⟩, h.2⟩
theorem Lie.stores : ∀ (vs : List Value) (o : Nat) (xs : List Value) (w : World), Lie R e size (.slice (some ⟨g, 0, none⟩) n c) n xs w → o + vs.length ≤ xs.length → Lie R e size (.slice (some ⟨g, 0, none⟩) n c) n (xs.take o ++ vs ++ xs.drop (o + vs.length)) (w.setCells g o vs)
  | [], o, xs, w, h, _ => by simpa [World.setCells] using h
  | v :: r, o, xs, w, h, hl => by
    have h1 := Lie.stores r (o + 1) (xs.set o v) (w.setCell ⟨g, o, none⟩ v) (h.store v) (by simp at hl ⊢; omega)
    rw [World.setCells]
    have e1 : (xs.set o v).take (o + 1) = xs.take o ++ [v] := by
      rw [List.take_succ_eq_append_getElem (by simp at hl ⊢; omega), List.take_set_of_le (Nat.le_refl _)]
      simp
    have e2 : (xs.set o v).drop (o + 1 + r.length) = xs.drop (o + (v :: r).length) := by
      rw [List.drop_set_of_lt (by omega)]
      congr 1
      simp
      omega
    rw [e1, e2] at h1
    simpa using h1
theorem Lie.isSome (h : Lie R e size (.slice (some ⟨g, 0, none⟩) n c) n xs w) {j : Nat} (hj : j < n * size) : (w.cell? ⟨g, j, none⟩).isSome = true := by
  have := h.1.cellAt j hj
  rw [this, List.getElem?_eq_getElem (by rw [h.1.1]; exact hj)]
  rfl
theorem Lie.drewl (h : Lie R e size (.slice (some ⟨g, 0, none⟩) n c) n xs w) : Lie R e size (.slice (some ⟨g, 0, none⟩) n c) n xs w.drew := h
end
theorem flat_take (xs : List PartV) (i : Nat) : (xs.flatMap partCells).take (i * 3) = (xs.take i).flatMap partCells := by
  induction xs generalizing i with
  | nil => simp
  | cons x xs ih =>
    cases i with
    | zero => simp
    | succ i =>
      rw [List.take_succ_cons, List.flatMap_cons, List.flatMap_cons, ← ih i, show (i + 1) * 3 = 3 + i * 3 by omega]
      simp only [partCells, List.cons_append, List.nil_append]
      rw [show 3 + i * 3 = i * 3 + 1 + 1 + 1 by omega, List.take_succ_cons, List.take_succ_cons, List.take_succ_cons]
theorem flat_drop (xs : List PartV) (i : Nat) : (xs.flatMap partCells).drop (i * 3) = (xs.drop i).flatMap partCells := by
  induction xs generalizing i with
  | nil => simp
  | cons x xs ih =>
    cases i with
    | zero => simp
    | succ i =>
      rw [List.drop_succ_cons, List.flatMap_cons, ← ih i]
      simp only [partCells, List.cons_append, List.nil_append]
      rw [show (i + 1) * 3 = i * 3 + 1 + 1 + 1 by omega, List.drop_succ_cons, List.drop_succ_cons, List.drop_succ_cons]

theorem ins_list {X us Z : List Value} {i n : Nat} (hX : X.length = n * 3) (hu : us.length = 3) (hZ : Z.length = 3) (hi : i < n) :
    (((X ++ us).take ((i + 1) * 3) ++ X.drop (i * 3) ++ (X ++ us).drop ((i + 1) * 3 + (X.drop (i * 3)).length)).take (i * 3)) ++ Z ++ (((X ++ us).take ((i + 1) * 3) ++ X.drop (i * 3) ++ (X ++ us).drop ((i + 1) * 3 + (X.drop (i * 3)).length)).drop (i * 3 + Z.length)) = X.take (i * 3) ++ Z ++ X.drop (i * 3) := by
  have e1 : (X ++ us).drop ((i + 1) * 3 + (X.drop (i * 3)).length) = [] := List.drop_eq_nil_of_le (by rw [List.length_append, List.length_drop]; omega)
  have e2 : ((X ++ us).take ((i + 1) * 3)).length = (i + 1) * 3 := by rw [List.length_take, List.length_append]; omega
  rw [e1, List.append_nil, hZ]
  congr 1
  · congr 1
    rw [List.take_append_of_le_length (by omega), List.take_take, Nat.min_eq_left (by omega), List.take_append_of_le_length (by omega)]
  · rw [show i * 3 + 3 = ((X ++ us).take ((i + 1) * 3)).length by omega, List.drop_left]
theorem grow_list {X zs Z : List Value} {i n : Nat} (hX : X.length = n * 3) (hz : zs.length = (n + 1 - i) * 3) (hZ : Z.length = 3) (hi : i < n) :
    let L1 := (X.take (i * 3) ++ zs).take (i * 3) ++ Z ++ (X.take (i * 3) ++ zs).drop (i * 3 + Z.length)
    L1.take ((i + 1) * 3) ++ X.drop (i * 3) ++ L1.drop ((i + 1) * 3 + (X.drop (i * 3)).length) = X.take (i * 3) ++ Z ++ X.drop (i * 3) := by
  intro L1
  have e0 : (X.take (i * 3)).length = i * 3 := by rw [List.length_take]; omega
  have e1 : (X.take (i * 3) ++ zs).take (i * 3) = X.take (i * 3) := by
    have := List.take_left (l₁ := X.take (i * 3)) (l₂ := zs)
    rwa [e0] at this
  have hl1 : L1 = (X.take (i * 3) ++ Z) ++ (X.take (i * 3) ++ zs).drop (i * 3 + Z.length) := by
    show (X.take (i * 3) ++ zs).take (i * 3) ++ Z ++ _ = _
    rw [e1]
  have e2 : (X.take (i * 3) ++ Z).length = (i + 1) * 3 := by rw [List.length_append, e0, hZ]; omega
  have e3 : L1.length = (n + 1) * 3 := by
    rw [hl1, List.length_append, e2, List.length_drop, List.length_append, e0, hz, hZ]
    omega
  rw [show L1.drop ((i + 1) * 3 + (X.drop (i * 3)).length) = [] from List.drop_eq_nil_of_le (by rw [e3, List.length_drop]; omega), List.append_nil]
  congr 1
  rw [hl1]
  have := List.take_left (l₁ := X.take (i * 3) ++ Z) (l₂ := (X.take (i * 3) ++ zs).drop (i * 3 + Z.length))
  rwa [e2] at this

set_option linter.unusedSimpArgs false in
set_option maxRecDepth 100000 in
set_option maxHeartbeats 2000000 in
theorem insert_any (B : Nat) (A : Option Addr) (c n i vb : Nat) (xs : List PartV) (w : World) (hB : B ≤ w.heap.size) (hr : Lie (fun k => k < B) 40 3 (.slice A n c) n (xs.flatMap partCells) w) (hn : xs.length = n) (hl : n ≤ 1000000) (hi : i ≤ n)
    (hv : w.heap[vb]? = some (.cells #[.int .i64 0, .int .i64 0, .string ⟨#[]⟩] 40 (0, 0))) (hvb : ∀ g, (Value.slice A n c).ownBlock = some g → vb ≠ g) (hnc : n ≤ c) :
    Calls Tryd.prog 32 #[.slice A n c, .int .i64 i, .slice (some ⟨vb, 0, none⟩) 1 1] w fun e w' =>
      ∃ A' c', e = .returned (.slice A' (n + 1) c') ∧ Lie (fun k => k < B) 40 3 (.slice A' (n + 1) c') (n + 1) ((xs.take i ++ p0 :: xs.drop i).flatMap partCells) w' ∧ Below B w w' := by
  have hvlt : vb < w.heap.size := (Array.getElem?_eq_some_iff.1 hv).1
  have hvc : ∀ j v, ([.int .i64 0, .int .i64 0, .string ⟨#[]⟩] : List Value)[j]? = some v → w.cell? ⟨vb, j, none⟩ = some v := fun j v hj => by
    rw [Lib.cell_of_heap hv]; simpa using hj
  have hrv : Rd w 3 (some ⟨vb, 0, none⟩) 1 [.int .i64 0, .int .i64 0, .string ⟨#[]⟩] := ⟨rfl, fun _ => ⟨vb, 0, rfl, hvlt, fun j u hj => by rw [Nat.zero_add]; exact hvc j u hj⟩⟩
  have hz1 : ((1 : Int) == 0) = false := rfl
  have hold : Old (fun k => k < B) w := fun k hk => Nat.lt_of_lt_of_le hk hB
  by_cases hin : i = n
  · subst hin
    have Hr := Lib.hid hr
    have Hn := Lib.hid hn
    have Hrv := Lib.hid hrv
    have e1 : ((i : Int) == (i : Int)) = true := by simp
    clear hr hn hrv hv hvb
    go_enter Tryd.func32, Tryd.ntmps32
    go_wp2_with (at_builtin; go_must (refine wpList_append_rd_row rfl (.tmp 23) (.tmp 24) 23 (by rfl) 40 (.agg #[.int .i64 0, .int .i64 0, .string ⟨#[]⟩]) 3 32 Tryd.underlying23 partInf rfl (by decide) (fun k => k < B) i _ _ w Hr.out (by rfl) hold (some ⟨vb, 0, none⟩) 1 1 [.int .i64 0, .int .i64 0, .string ⟨#[]⟩] (by rfl) Hrv.out (by intro u hu; simp at hu; rcases hu with rfl | rfl <;> rfl) (by unfold maxLen; omega) (by omega) ?_); intro v6 w6 hown6 hst6 hgr6 hat6; have Ho6 := Lib.hid hown6; have Hb6 := Lib.hid (hst6.below fun k hk => hk); obtain ⟨A6, c6, rfl⟩ := hown6.form; clear hown6 hst6 hgr6 hat6)
    all_goals
      go_ret
      refine ⟨A6, c6, rfl, ?_, Hb6.out⟩
      have h6 := Ho6.out
      rw [List.take_of_length_le (by rw [Hn.out]; exact Nat.le_refl _), List.drop_eq_nil_of_le (by rw [Hn.out]; exact Nat.le_refl _)]
      simpa [partCells, p0, S] using h6
  · have hlt : i < n := by omega
    obtain ⟨g, rfl, -, -⟩ := hr.own (by omega)
    have hgB : B ≤ g := Nat.not_lt.1 fun hk => hr.2 g rfl hk
    have hvg : vb ≠ g := hvb g rfl
    have hXl : (xs.flatMap partCells).length = n * 3 := hr.1.1
    have hcs : ∀ j v, (xs.flatMap partCells)[j]? = some v → w.cell? ⟨g, j, none⟩ = some v := fun j v hj => by
      obtain ⟨b', o', e', -, hc'⟩ := hr.rd.2 (by omega)
      obtain ⟨rfl, rfl⟩ : g = b' ∧ 0 = o' := by simpa using e'
      have := hc' j v hj
      rwa [Nat.zero_add] at this
    have hXi : ((xs.flatMap partCells).drop (i * 3)).length = (n - i) * 3 := by rw [List.length_drop, hXl]; omega
    have hXo : ∀ u ∈ xs.flatMap partCells, u.oneCell' = true := parts_one
    have hsz : (Tryd.prog.info? 40).map (·.size) = some 3 := by
      obtain ⟨i0, hi0, -, h1, -⟩ := info_parts partInf
      rw [hi0]; simp [h1]
    have Hfin := Lib.hid (show (xs.flatMap partCells).take (i * 3) ++ [.int .i64 0, .int .i64 0, .string ⟨#[]⟩] ++ (xs.flatMap partCells).drop (i * 3) = (xs.take i ++ p0 :: xs.drop i).flatMap partCells by
      rw [flat_take, flat_drop, List.flatMap_append, List.flatMap_cons]
      simp [partCells, p0, S])
    obtain ⟨X, hX⟩ : ∃ X, xs.flatMap partCells = X := ⟨_, rfl⟩
    rw [hX] at hr hcs hXi hXo hXl Hfin
    clear hX hn
    have e1 : ((i : Int) == (n : Int)) = false := beq_eq_false_iff_ne.2 (by omega)
    have a1 : IntKind.i64.wrap ((n : Int) + 1) = (n : Int) + 1 := by rw [IntKind.wrap_i64]; omega
    have a2 : IntKind.i64.wrap ((i : Int) + 1) = (i : Int) + 1 := by rw [IntKind.wrap_i64]; omega
    have b1 : ((n : Int) + 1).toNat = n + 1 := by omega
    have b2 : ((i : Int) + 1).toNat = i + 1 := by omega
    have b3 : (0 : Int) ≤ (n : Int) + 1 := by omega
    have b4 : (0 : Int) ≤ (i : Int) + 1 := by omega
    have d4 : ¬ (c = i) := by omega
    by_cases hroom : n + 1 ≤ c
    · have k1 : decide ((c : Int) < (n : Int) + 1) = false := decide_eq_false (by omega)
      obtain ⟨us, hul, hext⟩ := hr.extend (by omega) hroom
      have c1 : (n : Int) + 1 ≤ c := by omega
      have c2 : (i : Int) + 1 ≤ (n : Int) + 1 := by omega
      have c3 : (i : Int) ≤ (n : Int) + 1 := by omega
      have d1 : ¬ (c = i + 1) := by omega
      have d2 : ¬ (c = n + 1) ∨ c = n + 1 := by omega
      obtain ⟨cap, hshape, hcap⟩ : ∃ k, w.shape? g = some (40, k) ∧ k ≠ 0 := by
        rcases hr.1.2 with ⟨h1, _⟩ | ⟨g', cap, cur, hv', hb', hg', hnc', hm', hs', ht'⟩
        · simp at h1
        · simp only [Value.slice.injEq, Option.some.injEq, Addr.mk.injEq] at hv'
          obtain ⟨⟨rfl, _, _⟩, _, rfl⟩ := hv'
          refine ⟨cur.size, by simp [World.shape?, hg'], by omega⟩
      have hov : ∀ o lb cb, (callFunc 55 #[.slice (some ⟨vb, 0, none⟩) 1 1, .slice (some ⟨g, o, none⟩) lb cb]).run Tryd.prog w = .ok (.value (.bool false)) w := fun o lb cb => by
        rw [run_callFunc_extern Tryd.func55 (by kernel_rfl) (by kernel_rfl) (by kernel_rfl) (e := Extern.SlicesOverlaps.overlaps #[23, 23] #[4]) (by kernel_rfl),
          Lib.run_overlaps_apart w 23 4 40 Tryd.underlying23 3 Tryd.sizeOf40 ⟨vb, 0, none⟩ ⟨g, o, none⟩ 1 1 lb cb hvg 40 40 3 cap (by simp [World.shape?, hv]) hshape hcap (Lib.frozen_of_heap hv 0) (Lib.frozen_of_heap hv 3)]
        rfl
      have hm1 : Nat.min (n + 1 - i) (n - i) = n - i := by simp only [Nat.min_def]; split <;> omega
      have hm2 : Nat.min 1 (n + 1 - i) = 1 := by simp only [Nat.min_def]; split <;> omega
      have hcp1 : ∀ ty dc sc, (Builtin.copy_ #[23, 23] ty #[.slice (some ⟨g, (i + 1) * 3, none⟩) (n - i) dc, .slice (some ⟨g, i * 3, none⟩) (n + 1 - i) sc]).run Tryd.prog w.drew = .ok (goInt (n - i : Nat)) (w.drew.setCells g ((i + 1) * 3) (X.drop (i * 3))) := fun ty dc sc =>
        run_copy_cellsk w.drew _ _ ty 40 3 g ((i + 1) * 3) _ dc ⟨g, i * 3, none⟩ _ sc (n - i) (X.drop (i * 3)) Tryd.underlying23 hsz hm1 hXi
          (fun j v hj => by rw [Addr.add_lit]; exact hcs (i * 3 + j) v (by rwa [List.getElem?_drop] at hj))
          (fun j hj => hext.isSome (by omega)) (fun j hj => hext.cell _) (fun v hv' => hXo v (List.mem_of_mem_drop hv'))
      obtain ⟨W1, hW1⟩ : ∃ W1, W1 = w.drew.setCells g ((i + 1) * 3) (X.drop (i * 3)) := ⟨_, rfl⟩
      have hl1 := Lie.stores (X.drop (i * 3)) ((i + 1) * 3) (X ++ us) w.drew hext.drewl (by rw [List.length_append]; omega)
      rw [← hW1] at hl1 hcp1
      have hv1 : ∀ j v, ([.int .i64 0, .int .i64 0, .string ⟨#[]⟩] : List Value)[j]? = some v → W1.cell? ⟨vb, j, none⟩ = some v := fun j v hj => by
        rw [hW1, World.cell?_setCells_out g _ _ _ _ (fun h _ => absurd h hvg)]
        exact hvc j v hj
      have hcp2 : ∀ ty dc, (Builtin.copy_ #[23, 23] ty #[.slice (some ⟨g, i * 3, none⟩) (n + 1 - i) dc, .slice (some ⟨vb, 0, none⟩) 1 1]).run Tryd.prog W1 = .ok (goInt (1 : Nat)) (W1.setCells g (i * 3) [.int .i64 0, .int .i64 0, .string ⟨#[]⟩]) := fun ty dc =>
        run_copy_cellsk W1 _ _ ty 40 3 g (i * 3) _ dc ⟨vb, 0, none⟩ 1 1 1 [.int .i64 0, .int .i64 0, .string ⟨#[]⟩] Tryd.underlying23 hsz hm2 rfl
          (fun j v hj => by rw [Addr.add_lit, Nat.zero_add]; exact hv1 j v hj) (fun j hj => hl1.isSome (by simp at hj; omega)) (fun j hj => hl1.cell _) (by intro u hu; simp at hu; rcases hu with rfl | rfl <;> rfl)
      have hl2 := Lie.stores [.int .i64 0, .int .i64 0, .string ⟨#[]⟩] (i * 3) _ W1 hl1 (by simp only [List.length_append, List.length_take, List.length_drop, List.length_cons, List.length_nil]; omega)
      have hb2 : Below B w (W1.setCells g (i * 3) [.int .i64 0, .int .i64 0, .string ⟨#[]⟩]) := by
        rw [hW1]
        exact below_cells hgB _ _ _ (below_cells hgB _ _ _ (Below.refl B w).drew)
      have Hl2 := Lib.hid hl2
      have Hb2 := Lib.hid hb2
      have Hhul := Lib.hid hul
      have HXl := Lib.hid hXl
      clear hl1 hl2 hb2 hW1 hv1 hext hr hvc hv hcs hshape hrv
      go_enter Tryd.func32, Tryd.ntmps32
      go_wp2_with (simp only [hov])
      go_region_law (refine step_copy_run rfl _ _ 23 23 rfl _ _ (by simp [Act.eval, Act.put]) (by simp [Act.eval, Act.put]) (hcp1 _ _ _) ?_)
      go_wp2_with (at_builtin; refine wpList_copy_run _ rfl _ _ 23 23 rfl _ _ rfl rfl (hcp2 _ _) ?_)
      go_ret
      have h2 := Hl2.out
      rw [ins_list HXl.out Hhul.out rfl hlt, Hfin.out] at h2
      exact ⟨_, c, rfl, h2, Hb2.out⟩
    · have k1 : decide ((c : Int) < (n : Int) + 1) = true := decide_eq_true (by omega)
      have hcn : c < n + 1 := by omega
      obtain ⟨i0, hi0, hz0, hzs, hzb⟩ := info_parts partInf
      have hglt : g < w.heap.size := (hr.1.lt g rfl).2
      have hkk : (n : Int) + 1 - (i : Int) = ((n + 1 - i : Nat) : Int) := by omega
      have hik : i + (n + 1 - i) = n + 1 := by omega
      have a3 : IntKind.i64.wrap ((n : Int) + 1 - (i : Int)) = (n : Int) + 1 - (i : Int) := by rw [IntKind.wrap_i64]; omega
      have hold0 : (Builtin.firstCells i0.size i (.slice (some ⟨g, 0, none⟩) i c)).run Tryd.prog w.drew = .ok (X.take (i * 3)).toArray w.drew := by
        rw [hzs]
        exact run_firstCells_some w.drew 3 i ⟨g, 0, none⟩ i c (X.take (i * 3)) (by rw [List.length_take]; omega) (fun j v hj => by
          rw [Addr.add_lit, Nat.zero_add]
          rw [List.getElem?_take] at hj
          split at hj
          · exact hcs j v hj
          · cases hj)
      obtain ⟨G, hG⟩ : ∃ G, G = grownCap w (n + 1) c 40 := ⟨_, rfl⟩
      have hGn : n + 1 ≤ G := by rw [hG]; exact grownCap_ge _ _ _ _
      have hGm : G ≤ maxLen := by rw [hG]; exact grownCap_le_maxLen _ _ _ _ (by unfold maxLen; omega)
      obtain ⟨zs, hzs'⟩ : ∃ zs, zs = Builtin.zeroCells (Value.agg #[.int .i64 0, .int .i64 0, .string ⟨#[]⟩]).cells (n + 1 - i) := ⟨_, rfl⟩
      obtain ⟨zr, hzr'⟩ : ∃ zr, zr = Builtin.zeroCells (Value.agg #[.int .i64 0, .int .i64 0, .string ⟨#[]⟩]).cells (G - (n + 1)) := ⟨_, rfl⟩
      have hzl : zs.size = (n + 1 - i) * 3 := by rw [hzs']; simp [Builtin.zeroCells, Value.cells]
      have hzl2 : zr.size = (G - (n + 1)) * 3 := by rw [hzr']; simp [Builtin.zeroCells, Value.cells]
      obtain ⟨W1, hW1⟩ : ∃ W1, W1 = w.drew.alloc (.cells ((X.take (i * 3)).toArray ++ zs ++ zr) 40) := ⟨_, rfl⟩
      have hrz : ∀ ty, (Builtin.append_ #[23, 3] ty #[.slice (some ⟨g, 0, none⟩) i c, .int .i64 ((n + 1 - i : Nat) : Int)]).run Tryd.prog w = .ok (.slice (some ⟨w.heap.size, 0, none⟩) (n + 1) G) W1 := fun ty => by
        have h := Lib.run_append_grow_zeros w 23 3 ty 40 i0 _ .i64 .i64 Tryd.underlying23 Tryd.underlying3 hi0 hz0 (some ⟨g, 0, none⟩) i c (X.take (i * 3)) hold0 (n + 1 - i) (by omega) (by omega) (by omega) (by omega) (by rw [hzb]; omega) (by rw [hzb, hik]; exact growslice_fits (by omega) (by omega))
        rw [hik, ← hG, ← hzs', ← hzr', ← hW1] at h
        exact h
      have hn1 : W1.heap[w.heap.size]? = some (.cells ((X.take (i * 3)).toArray ++ zs ++ zr) 40 (0, 0)) := by rw [hW1]; exact heap_alloc_new w.drew _
      have hti : (X.take (i * 3)).length = i * 3 := by rw [List.length_take]; omega
      have hl1 : Lie (fun k => k < B) 40 3 (.slice (some ⟨w.heap.size, 0, none⟩) (n + 1) G) (n + 1) (X.take (i * 3) ++ zs.toList) W1 := by
        refine ⟨⟨by rw [List.length_append, hti, Array.length_toList, hzl]; omega, .inr ⟨w.heap.size, G, _, rfl, Nat.zero_le _, hn1, hGn, hGm, by simp only [Array.size_append, List.size_toArray, hti, hzl, hzl2]; omega, ?_⟩⟩, fun k hk hp => ?_⟩
        · have e1 : ((X.take (i * 3)).toArray ++ zs ++ zr).toList = (X.take (i * 3) ++ zs.toList) ++ zr.toList := by simp
          rw [e1]
          have e2 : (X.take (i * 3) ++ zs.toList).length = (n + 1) * 3 := by rw [List.length_append, hti, Array.length_toList, hzl]; omega
          have := List.take_left (l₁ := X.take (i * 3) ++ zs.toList) (l₂ := zr.toList)
          rwa [e2] at this
        · simp only [Value.ownBlock, Option.some.injEq] at hk
          subst hk
          omega
      have hv1 : ∀ j v, ([.int .i64 0, .int .i64 0, .string ⟨#[]⟩] : List Value)[j]? = some v → W1.cell? ⟨vb, j, none⟩ = some v := fun j v hj => by
        rw [hW1]; exact Lib.cell?_alloc_some _ (hvc j v hj)
      have hm2 : Nat.min 1 (n + 1 - i) = 1 := by simp only [Nat.min_def]; split <;> omega
      have hm1 : Nat.min (n - i) (n - i) = n - i := Nat.min_self _
      have hcp1 : ∀ ty dc, (Builtin.copy_ #[23, 23] ty #[.slice (some ⟨w.heap.size, i * 3, none⟩) (n + 1 - i) dc, .slice (some ⟨vb, 0, none⟩) 1 1]).run Tryd.prog W1 = .ok (goInt (1 : Nat)) (W1.setCells w.heap.size (i * 3) [.int .i64 0, .int .i64 0, .string ⟨#[]⟩]) := fun ty dc =>
        run_copy_cellsk W1 _ _ ty 40 3 w.heap.size (i * 3) _ dc ⟨vb, 0, none⟩ 1 1 1 [.int .i64 0, .int .i64 0, .string ⟨#[]⟩] Tryd.underlying23 hsz hm2 rfl
          (fun j v hj => by rw [Addr.add_lit, Nat.zero_add]; exact hv1 j v hj) (fun j hj => hl1.isSome (by simp at hj; omega)) (fun j hj => hl1.cell _) (by intro u hu; simp at hu; rcases hu with rfl | rfl <;> rfl)
      obtain ⟨W2, hW2⟩ : ∃ W2, W2 = W1.setCells w.heap.size (i * 3) [.int .i64 0, .int .i64 0, .string ⟨#[]⟩] := ⟨_, rfl⟩
      have h9 : zs.toList.length = (n + 1 - i) * 3 := by rw [Array.length_toList]; exact hzl
      have hl2 := Lie.stores [.int .i64 0, .int .i64 0, .string ⟨#[]⟩] (i * 3) _ W1 hl1 (by rw [List.length_append, hti, h9]; simp only [List.length_cons, List.length_nil]; omega)
      rw [← hW2] at hl2 hcp1
      have hcs2 : ∀ j v, X[j]? = some v → W2.cell? ⟨g, j, none⟩ = some v := fun j v hj => by
        rw [hW2, World.cell?_setCells_out w.heap.size _ _ _ _ (fun h _ => absurd h (by simp only; omega)), hW1]
        exact Lib.cell?_alloc_some _ (hcs j v hj)
      have hcp2 : ∀ ty dc sc, (Builtin.copy_ #[23, 23] ty #[.slice (some ⟨w.heap.size, (i + 1) * 3, none⟩) (n - i) dc, .slice (some ⟨g, i * 3, none⟩) (n - i) sc]).run Tryd.prog W2.drew = .ok (goInt (n - i : Nat)) (W2.drew.setCells w.heap.size ((i + 1) * 3) (X.drop (i * 3))) := fun ty dc sc =>
        run_copy_cellsk W2.drew _ _ ty 40 3 w.heap.size ((i + 1) * 3) _ dc ⟨g, i * 3, none⟩ _ sc (n - i) (X.drop (i * 3)) Tryd.underlying23 hsz hm1 hXi
          (fun j v hj => by rw [Addr.add_lit]; exact hcs2 (i * 3 + j) v (by rwa [List.getElem?_drop] at hj))
          (fun j hj => hl2.isSome (by omega)) (fun j hj => hl2.cell _) (fun v hv' => hXo v (List.mem_of_mem_drop hv'))
      have hl3 := Lie.stores (X.drop (i * 3)) ((i + 1) * 3) _ W2.drew hl2.drewl (by simp only [List.length_append, List.length_take, List.length_drop, Array.length_toList, List.length_cons, List.length_nil]; omega)
      have hb3 : Below B w (W2.drew.setCells w.heap.size ((i + 1) * 3) (X.drop (i * 3))) := by
        rw [hW2, hW1]
        exact below_cells hB _ _ _ (below_cells hB _ _ _ ((Below.refl B w).drew.alloc hB _)).drew
      have Hl3 := Lib.hid hl3
      have Hb3 := Lib.hid hb3
      have HXl := Lib.hid hXl
      have Hzl := Lib.hid (show zs.toList.length = (n + 1 - i) * 3 by rw [Array.length_toList, hzl])
      have c1 : (i : Int) ≤ c := by omega
      have c2 : (i : Int) + 1 ≤ (n : Int) + 1 := by omega
      have c3 : (i : Int) ≤ (n : Int) + 1 := by omega
      have d1 : ¬ (G = i + 1) := by omega
      have d5 : ¬ (G = i) := by omega
      clear hl1 hl2 hl3 hb3 hW1 hW2 hv1 hr hvc hv hcs hcs2 hrv hn1 hzs' hzr' hzl hzl2 hG hold0 hi0 hz0 hzs hzb
      go_enter Tryd.func32, Tryd.ntmps32
      go_wp2_with (first | (at_builtin; refine wpList_copy_run _ rfl _ _ 23 23 rfl _ _ rfl rfl (hcp1 _ _) ?_) | (at_builtin; go_must (refine wpList_append_run _ rfl _ _ 23 3 rfl _ _ rfl rfl (hrz _) ?_)))
      go_region_law (refine step_copy_run rfl _ _ 23 23 rfl (.slice (some ⟨w.heap.size, (i + 1) * 3, none⟩) (n - i) (G - (i + 1))) (.slice (some ⟨g, i * 3, none⟩) (n - i) (c - i)) (by simp [Act.eval, Act.put]) (by simp [Act.eval, Act.put]) (hcp2 _ _ _) ?_)
      go_wp2_with fail
      go_ret
      have h3 := Hl3.out
      rw [grow_list HXl.out Hzl.out rfl hlt, Hfin.out] at h3
      exact ⟨_, G, rfl, h3, Hb3.out⟩
end Go.Proofs.YtbheoahpaidpmaaDoor
