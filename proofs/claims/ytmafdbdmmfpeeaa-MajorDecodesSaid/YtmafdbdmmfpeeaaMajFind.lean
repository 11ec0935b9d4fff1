/-
  major.Find.
-/
import Derived.Test.YtmafdbdmmfpeeaaMajPart
namespace Go.Proofs.Ytmafdbdmmfpeeaa
open Go Go.RowKit Go.Shelf
attribute [local go_sem] Oper.semAt_some

theorem call_in {P : Program} {l n : Nat} {f : FuncId} {args : Array Value} {w : World} {R R' : Ending → World → Prop} (h : Calls P f args w R) (hr : ∀ e w', R e w' → R' e w') : CallsIn (Rnd l) n P f args w R' :=
  (CallsIn.inRound l (callsIn_wide.2 h)).mono hr
/-- a range over a function, of two variables, whose body may return -/
theorem range_ret {P : Program} {n : Nat} {α : Type} {g : Operand} {p1 p2 : Tmp} {assign body : Code} {Q : Exit → Act → World → Prop} {a : Act} {w : World} (d1 d2 : Tmp)
    (h1 : 1 ≤ n) {gf : Nat} {lb : Array Value} (hg : a.eval g = .func (.func gf) #[] lb) (eg : ∀ args w, (callFunc gf args).run P w = .ok (.enter gf args) w)
    {e1 e2 : α → Value} {Kp : World → World → Prop} {S Sp : List α → Prop} {N : Nat} (hseq : SeqStopsK Fence.wide (n - 1) P gf lb (fun x => #[e1 x, e2 x]) Kp S Sp N w)
    (hKt : ∀ {A B C : World}, Kp A B → Kp B C → Kp A C) (hKb : ∀ (W : World) (l : Nat) (o o' : Obj), w.heap.size ≤ l → W.heap[l]? = some o → o.isCells = false → o.isWalk = false → Kp W (W.putObj l o'))
    (I : List α → World → Prop) (Ir : List α → World → Prop) (hI : OwnFrom w.heap.size I) (hIr : OwnFrom w.heap.size Ir) (h0 : I [] w)
    (hassign : ∀ (l : Nat) (x : α) (W : World) (K : Act → World → Prop), K { tmps := (((a.tmps.setIfInBounds p1 (e1 x)).setIfInBounds p2 (e2 x)).setIfInBounds d1 (e1 x)).setIfInBounds d2 (e2 x), defers := [] } W →
      assign.wpIn (Rnd l) (n - 1 - 1) P (Exit.then K (fun _ _ _ => False)) { tmps := (a.tmps.setIfInBounds p1 (e1 x)).setIfInBounds p2 (e2 x), defers := [] } W)
    (hbody : ∀ (l : Nat) (pre : List α) (x : α) (W : World), I pre W → pre.length < N →
      body.wpIn (Rnd l) (n - 1 - 1) P (ownPostK Kp I (fun c xs W => c = .ret ∧ Ir xs W) (pre ++ [x]) W) { tmps := (((a.tmps.setIfInBounds p1 (e1 x)).setIfInBounds p2 (e2 x)).setIfInBounds d1 (e1 x)).setIfInBounds d2 (e2 x), defers := [] } W)
    (hdone : ∀ (D : Nat) (xs : List α) (W : World), w.heap.size ≤ D → S xs → I xs W → W.heap[D]? = some (.deferred (some [])) → Q .normal { a with defers := { target := .collected D, args := #[] } :: a.defers } W)
    (hstop : ∀ (D : Nat) (pre : List α) (W : World), w.heap.size ≤ D → Sp pre → Ir pre W → W.heap[D]? = some (.deferred (some [])) → Q .ret { a with defers := { target := .collected D, args := #[] } :: a.defers } W) :
    (Code.rangeFunc g #[p1, p2] assign body).wp P Q a w :=
  wpIn_wide.1 (wpIn_rangeFunc_ownF (F := Fence.wide) rfl h1 hg trivial eg hseq hKt hKb (Below.refl _ _) (fun _ => rfl) I (fun c xs W => c = .ret ∧ Ir xs W) hI (fun c s A B row hs hg' hr => ⟨hs.1, hIr s A B row hs.2 hg' hr⟩) h0
    (fun x => { tmps := (((a.tmps.setIfInBounds p1 (e1 x)).setIfInBounds p2 (e2 x)).setIfInBounds d1 (e1 x)).setIfInBounds d2 (e2 x), defers := [] }) (fun l x W K hk => by have := hassign l x W K hk; simpa using this) hbody hdone
    (fun D c pre W hD hs h hd => by obtain ⟨rfl, h⟩ := h; exact wpIn_ret (hstop D pre W hD hs h hd)))

theorem results_cells2 {fn : Func} {p u : Tmp} {t1 t2 : TypeId} (h : fn.results = #[.cell p t1, .cell u t2]) (tmps : Array Value) (P : Program) (w : World) :
    (results fn tmps).run P w =
      ((asAddr (tmps.getD p undef)).run P w).andThen fun a w₁ => ((loadVar t1 a).run P w₁).andThen fun v w₂ => ((asAddr (tmps.getD u undef)).run P w₂).andThen fun b w₃ => ((loadVar t2 b).run P w₃).andThen fun v' w₄ => .ok (.tuple #[v, v']) w₄ := by
  simp only [results, h]
  simp [Sem.run_bind, Result.andThen]
theorem one_cell {w : World} {b : Nat} {v : Value} {t : TypeId} (hk : w.heap[b]? = some (.cells #[v] t (0, 0))) : w.cell? ⟨b, 0, none⟩ = some v ∧ w.frozen? ⟨b, 0, none⟩ = false :=
  ⟨by rw [Lib.cell_of_heap hk]; rfl, Lib.frozen_of_heap hk 0⟩
theorem rd_grown {W W' : World} {row : Option Nat} {size n : Nat} {A : Option Addr} {xs : List Value} (h : Rd W size A n xs) (hg : W.grownBy W' row) (hrow : ∀ r, row = some r → ∃ o : Obj, W.heap[r]? = some o ∧ o.isCells = false) : Rd W' size A n xs :=
  ⟨h.1, fun h0 => by obtain ⟨b, off, e, hb, hc⟩ := h.2 h0; exact ⟨b, off, e, Nat.lt_of_lt_of_le hb hg.4, fun j u hj => cell_kept (hc j u hj) hg hrow⟩⟩

/-- what read answers, as two values -/
def partV (c : List UInt8) : List Sample × Nat := match partR c with | none => ([], 11) | some s => (s, 0)
def findV (l : List UInt8) (id : Int) : List Sample × Nat := match tableR l with
  | none => ([], 11)
  | some ps => ((findT ps id).1.getD [], (findT ps id).2)
theorem find_hit : ∀ (ps : List (Nat × List UInt8)) (id : Int) (j : Nat) (h : j < ps.length), (∀ i, (hi : i < j) → ((ps[i]'(by omega)).1 : Int) ≠ id) → ((ps[j]).1 : Int) = id → ((findT ps id).1.getD [], (findT ps id).2) = partV ps[j].2
  | [], _, _, h, _, _ => absurd h (by simp)
  | p :: ps, id, 0, _, _, hj => by
    simp only [List.getElem_cons_zero] at hj ⊢
    unfold findT partV
    rw [if_pos hj]
    cases partR p.2 <;> rfl
  | p :: ps, id, j + 1, h, hi, hj => by
    have h0 := hi 0 (by omega)
    simp only [List.getElem_cons_zero] at h0
    simp only [List.getElem_cons_succ] at hj ⊢
    unfold findT
    rw [if_neg h0]
    exact find_hit ps id j (by simpa using h) (fun i hlt => by have := hi (i + 1) (by omega); simpa using this) hj
theorem find_miss : ∀ (ps : List (Nat × List UInt8)) (id : Int), (∀ i, (hi : i < ps.length) → ((ps[i]).1 : Int) ≠ id) → ((findT ps id).1.getD [], (findT ps id).2) = ([], 3)
  | [], _, _ => rfl
  | p :: ps, id, hi => by
    have h0 := hi 0 (by simp)
    simp only [List.getElem_cons_zero] at h0
    unfold findT
    rw [if_neg h0]
    exact find_miss ps id (fun i hlt => by have := hi (i + 1) (by simpa using hlt); simpa using this)
/-- the answer, with the samples -/
def FindPost (v : List Sample × Nat) (B : Nat) (w : World) (e : Ending) (w' : World) : Prop :=
  ∃ A c, e = .returned (.tuple #[.slice A v.1.length c, .int .i64 v.2]) ∧ Rd w' 2 A v.1.length (v.1.flatMap sampleCells) ∧ Below B w w'
theorem mread_v (c : List UInt8) (w : World) (hc : c.length ≤ 1000000) : Calls Try.prog 23 #[.string (S c)] w (FindPost (partV c) w.heap.size w) := by
  refine (mread_any c w hc).mono ?_
  rintro e w' (⟨h, rfl, hb⟩ | ⟨L, A, k, h, rfl, hr, -, -, hb, -⟩)
  · unfold partV; rw [h]; exact ⟨none, 0, rfl, Rd.nil _ _ _, hb⟩
  · unfold partV; rw [h]; exact ⟨A, k, rfl, hr, hb⟩
theorem rd_set {W : World} {A : Option Addr} {n b : Nat} {xs : List Value} {v : Value} {T : TypeId} (h : Rd W 2 A n xs) (hk : W.heap[b]? = some (.cells #[v] T (0, 0))) (u : Value) : Rd (W.setCell ⟨b, 0, none⟩ u) 2 A n xs :=
  ⟨h.1, fun h0 => by
    obtain ⟨b', off, e, hb, hc⟩ := h.2 h0
    have hne : b' ≠ b := by
      rintro rfl
      have hx : 1 < xs.length := by rw [h.1]; omega
      have := hc 1 _ (List.getElem?_eq_getElem hx)
      rw [Lib.cell_of_heap hk] at this
      simp at this
    exact ⟨b', off, e, by simpa using hb, fun j u' hj => (World.cell?_of_block (a := ⟨b', off + j, none⟩) (Below.heap_setCell _ _ _ _ (fun e => by first | exact hne e | exact hne e.symm))).trans (hc j u' hj)⟩⟩
theorem prefix_range {pre : List Nat} {x n : Nat} (h : pre ++ [x] <+: List.range n) : x < n ∧ ∀ i, i < x → i ∈ pre := by
  obtain ⟨t, ht⟩ := h
  have hl : pre.length < n := by have := congrArg List.length ht; simp at this; omega
  have get : ∀ i, i < n → (pre ++ [x] ++ t)[i]? = some i := fun i hi => by rw [ht, List.getElem?_range hi]
  have hx : x = pre.length := by
    have := get pre.length hl
    rw [List.append_assoc, List.getElem?_append_right (Nat.le_refl _)] at this
    simpa using this
  refine ⟨by omega, fun i hi => ?_⟩
  have := get i (by omega)
  rw [List.append_assoc, List.getElem?_append_left (by omega)] at this
  exact List.mem_of_getElem? this
theorem cutE_small : ∀ (es : List (Nat × Nat)) (t : List UInt8) (n : Nat), t.length ≤ n → ∀ p ∈ cutE es t, p.2.length ≤ n
  | [], _, _, _, p, hp => by cases hp
  | e :: es, t, n, h, p, hp => by
    rcases List.mem_cons.1 hp with rfl | hp
    · simp only [List.length_take]; omega
    · exact cutE_small es _ n (by rw [List.length_drop]; omega) p hp
/-- a return lies in the result cells -/
def FindRet (ps : List (Nat × List UInt8)) (id : Int) (B : Nat) (w : World) (xs : List Nat) (W : World) : Prop :=
  ∃ pre x, xs = pre ++ [x] ∧ (∀ i ∈ pre, ((ptAt ps i).1 : Int) ≠ id) ∧ ((ptAt ps x).1 : Int) = id ∧ ∃ A c, W.cell? ⟨B + 1, 0, none⟩ = some (.slice A (partV (ptAt ps x).2).1.length c) ∧ W.cell? ⟨B + 2, 0, none⟩ = some (.int .i64 (partV (ptAt ps x).2).2) ∧ Rd W 2 A (partV (ptAt ps x).2).1.length ((partV (ptAt ps x).2).1.flatMap sampleCells) ∧ Below B w W

set_option linter.unusedSimpArgs false in
set_option maxRecDepth 100000 in
set_option maxHeartbeats 1000000 in
theorem find_any (s : ByteArray) (id : Int) (w : World) (hs : s.size ≤ 1000000) : Calls Try.prog 10 #[.string s, .int .i64 id] w (FindPost (findV s.data.toList id) w.heap.size w) := by
  have T := Lib.hid (fun (w0 : World) => table_at s w0.heap.size w0 rfl hs)
  refine (callsIn_wide (n := 4)).1 (callsIn_of_wp_marks Try.func10 rfl trivial (wpIn_mono ?_ bodyPostN.marks))
  simp only [Try.ntmps10, List.size_toArray, List.length_cons, List.length_nil, Nat.reduceAdd, Nat.reduceSub, Array.replicate_succ, Array.replicate_zero, List.push_toArray, List.append_toArray, List.nil_append, List.cons_append]
  refine wpIn_wide.2 ?_
  obtain ⟨B, hB⟩ : ∃ B, w.heap.size = B := ⟨_, rfl⟩
  rw [hB]
  go_wp2_with fail
  obtain ⟨w0, hw0, hsz0, hb0, c0, c1, c2⟩ : ∃ w0, ((w.alloc (.cells #[.int .i64 id] 3)).alloc (.cells #[.slice none 0 0] 26)).alloc (.cells #[.int .i64 0] 23) = w0 ∧ w0.heap.size = B + 3 ∧ Below B w w0
      ∧ w0.heap[B]? = some (.cells #[.int .i64 id] 3 (0, 0)) ∧ w0.heap[B + 1]? = some (.cells #[.slice none 0 0] 26 (0, 0)) ∧ w0.heap[B + 2]? = some (.cells #[.int .i64 0] 23 (0, 0)) := by
    have n1 := World.alloc_heap_new w (.cells #[.int .i64 id] 3)
    have n2 := World.alloc_heap_new (w.alloc (.cells #[.int .i64 id] 3)) (.cells #[.slice none 0 0] 26)
    have n3 := World.alloc_heap_new ((w.alloc (.cells #[.int .i64 id] 3)).alloc (.cells #[.slice none 0 0] 26)) (.cells #[.int .i64 0] 23)
    simp only [World.size_alloc, hB, Nat.add_assoc, Nat.reduceAdd] at n1 n2 n3
    refine ⟨_, rfl, by simp [hB], ?_, ?_, ?_, n3⟩
    · subst hB
      exact (((Below.refl _ _).alloc (Nat.le_refl _) _).alloc (by simp) _).alloc (by simp; omega) _
    · exact (Lib.alloc_old _ _ _ (by simp; omega)).trans ((Lib.alloc_old _ _ _ (by simp; omega)).trans n1)
    · exact (Lib.alloc_old _ _ _ (by simp; omega)).trans n2
  simp only [hw0, Nat.add_assoc, Nat.reduceAdd]
  clear hw0
  refine (T.out w0).mono ?_
  rintro e w1 (⟨ht, ⟨v, rfl⟩, hb⟩ | ⟨es, a, v, ht, hsum, hid, rfl, hlie, hle, hb⟩)
  · obtain ⟨d1, g1⟩ := one_cell ((hb.block _ (by omega)).trans c1)
    obtain ⟨d2, g2⟩ := one_cell ((hb.block _ (by omega)).trans c2)
    have Hb := Lib.hid (hb0.trans (hb.mono (by omega)))
    have HF := Lib.hid (show findV s.data.toList id = ([], 11) by unfold findV; rw [ht])
    clear hb hb0 ht T c0 c1 c2
    go_wp2_with fail
    refine ⟨_, (by rw [results_cells2 rfl]; go_simp; rfl), none, 0, by rw [HF.out]; rfl, by rw [HF.out]; exact Rd.nil _ _ _, ?_⟩
    exact (Hb.out.setCell (p := ⟨B + 1, 0, none⟩) (by simp) _).setCell (p := ⟨B + 2, 0, none⟩) (by simp) _
  · have h0 := (hb.block _ (by omega)).trans c0
    have h1 := (hb.block _ (by omega)).trans c1
    have h2 := (hb.block _ (by omega)).trans c2
    obtain ⟨A, c, rfl⟩ := hlie.form
    obtain ⟨q, hq⟩ : ∃ q, w1.heap.size = q := ⟨_, rfl⟩
    have hAq : ∀ b off, A = some ⟨b, off, none⟩ → b < q := by
      intro b off e
      rcases hlie.1.2 with ⟨e1, _⟩ | ⟨g', cap, cur, e1, _, hgg, _⟩
      · subst e; simp at e1
      · subst e
        simp only [Value.slice.injEq, Option.some.injEq, Addr.mk.injEq] at e1
        obtain ⟨⟨rfl, -⟩, -⟩ := e1
        exact hq ▸ (Array.getElem?_eq_some_iff.1 hgg).1
    have Hrd := Lib.hid hlie.rd
    have Hb := Lib.hid (hb0.trans (hb.mono (by omega)))
    obtain ⟨ps, hps⟩ : ∃ ps, cutE es (s.data.toList.drop a) = ps := ⟨_, rfl⟩
    have hpl : ps.length = es.length := by rw [← hps, cutE_length]
    have hpt : ∀ i, (S (ptAt ps i).2).size ≤ 1000000 := by
      intro i
      rw [S_size]
      unfold ptAt
      rw [List.getD_eq_getElem?_getD]
      cases e : ps[min i (ps.length - 1)]? with
      | none => simp
      | some p =>
        simp only [Option.getD_some]
        refine cutE_small es (s.data.toList.drop a) 1000000 ?_ p (hps ▸ List.mem_of_getElem? e)
        rw [List.length_drop, ← Lib.size_eq]; omega
    have HF := Lib.hid (show findV s.data.toList id = ((findT ps id).1.getD [], (findT ps id).2) by unfold findV; rw [ht, hps])
    have hB1 : B + 3 ≤ q := by have := hb.size; omega
    have HA := Lib.hid hAq
    clear hb hb0 ht T c0 c1 c2 hlie hAq
    go_wp2_with fail
    refine (parts_any s A es.length c w1).mono ?_
    rintro e w2 ⟨rfl, hw2⟩
    have hs2 : w2.heap.size = q + 2 := by rw [hw2, ← hq]; simp
    have hb12 : Below q w1 w2 := by rw [hw2, ← hq]; exact ((Below.refl _ _).alloc (Nat.le_refl _) _).alloc (by simp) _
    have n1 := World.alloc_heap_new w1 (.cells #[.string s] 9)
    have n2 := World.alloc_heap_new (w1.alloc (.cells #[.string s] 9)) (.cells #[.slice A es.length c] 47)
    simp only [World.size_alloc] at n2
    rw [← hw2] at n2
    have hbl : w2.cell? ⟨q + 1, 0, none⟩ = some (.slice A es.length c) := by rw [← hq, Lib.cell_of_heap n2]; rfl
    have hbs : w2.cell? ⟨q, 0, none⟩ = some (.string s) := by rw [← hq, Lib.cell_of_heap (show w2.heap[w1.heap.size]? = _ from by rw [hw2]; exact (Lib.alloc_old _ _ _ (by simp)).trans n1)]; rfl
    have k0 := (hb12.block B (by omega)).trans h0
    have k1 := (hb12.block (B + 1) (by omega)).trans h1
    have k2 := (hb12.block (B + 2) (by omega)).trans h2
    have Hb2 := Lib.hid (Hb.out.trans (hb12.mono (show B ≤ q by omega)))
    have Hrd2 := Lib.hid (Hrd.out.below (hq ▸ hb12))
    clear n1 n2 hw2 h0 h1 h2 hb12
    rw [hq]
    go_wp2_with fail
    refine range_ret 8 9 (n := 4) (by decide) (gf := 34) (lb := #[.pointer (some ⟨q + 1, 0, none⟩), .pointer (some ⟨q, 0, none⟩)]) rfl (enters_of Try.func34 (by kernel_rfl) rfl)
      (e1 := fun i : Nat => .int .i64 ((ptAt ps i).1 : Int)) (e2 := fun i : Nat => .string (S (ptAt ps i).2))
      (parts_stops 3 (fun k => k < q + 2) A (q + 1) q es.length c a s es w2 (by omega) (by omega) (by omega) hbl hbs Hrd2.out (fun k hk => by omega) (fun b off e => by have := HA.out b off e; omega) rfl hsum hle ps hps.symm) (fun h k => h.trans k) ?kb
      (fun pre W => (∀ i ∈ pre, ((ptAt ps i).1 : Int) ≠ id) ∧ Below (q + 2) w2 W) (FindRet ps id B w) ?own ?ownr ?start ?assign ?body ?done ?stop
    case kb => exact fun W l o o' hl _ _ _ => ⟨by simp [World.putObj], fun k hk => World.putObj_heap_other (by omega)⟩
    case own => exact fun pre W W' row h hg hr => ⟨h.1, ownFrom_below (β := List Nat) (n₀ := q + 2) (B := w2.heap.size) (w₀ := w2) (by omega) (by omega) pre _ _ _ h.2 hg hr⟩
    case ownr =>
      rintro xs W W' row ⟨pre, x, rfl, hne, hx, A', c', e1, e2, hr, hb⟩ hg hrow
      have hrow' : ∀ r, row = some r → ∃ o : Obj, W.heap[r]? = some o ∧ o.isCells = false := fun r e => (hrow r e).2
      refine ⟨pre, x, rfl, hne, hx, A', c', cell_kept e1 hg hrow', cell_kept e2 hg hrow', rd_grown hr hg hrow', ?_⟩
      exact ownFrom_below (β := List Nat) (n₀ := B) (B := w2.heap.size) (w₀ := w) (by omega) (by omega) pre _ _ _ hb hg hrow
    case start => exact ⟨fun i hi => by simp at hi, Below.refl _ _⟩
    case assign =>
      intro L x W K hK
      simp only [List.setIfInBounds_toArray, List.set_cons_zero, List.set_cons_succ] at hK ⊢
      gi_wp2
      exact hK
    case body =>
      intro L pre x W hI hlen
      obtain ⟨hne, hbW⟩ := hI
      simp only [List.setIfInBounds_toArray, List.set_cons_zero, List.set_cons_succ]
      obtain ⟨d0, -⟩ := one_cell ((hbW.block B (by omega)).trans k0)
      have HbW := Lib.hid hbW
      by_cases hx : ((ptAt ps x).1 : Int) = id
      · have R := Lib.hid (mread_v (ptAt ps x).2 W (by have := hpt x; rwa [S_size] at this))
        have j1 := (hbW.block (B + 1) (by omega)).trans k1
        have j2 := (hbW.block (B + 2) (by omega)).trans k2
        have hWs := hbW.size
        have y1 : (((ptAt ps x).1 : Int) == id) = true := beq_iff_eq.2 hx
        have Hx := Lib.hid hx
        clear hx hbW
        gi_wp2
        refine ⟨trivial, call_in R.out ?_⟩
        rintro e W1 ⟨A', c', rfl, hr, hb1⟩
        have l1 := (hb1.block (B + 1) (by omega)).trans j1
        have l2 := (hb1.block (B + 2) (by omega)).trans j2
        obtain ⟨m1, p1⟩ := one_cell l1
        obtain ⟨m2, p2⟩ := one_cell l2
        have Hr := Lib.hid hr
        have Hb1 := Lib.hid hb1
        have L1 := Lib.hid l1
        have L2 := Lib.hid l2
        clear hr hb1 l1 l2 j1 j2
        gi_wp2
        have e2 : ∀ v, (W1.setCell ⟨B + 1, 0, none⟩ v).heap[B + 2]? = some (.cells #[.int .i64 0] 23 (0, 0)) := fun v => (Below.heap_setCell _ _ _ _ (by simp)).trans L2.out
        have hk : KeepsOthers W W1 := ⟨Hb1.out.size, fun k _ hk _ => (Hb1.out.block k (Array.getElem?_eq_some_iff.1 hk).1).trans hk⟩
        refine ⟨hk.trans ((KeepsOthers.setCell _ _ _).trans (KeepsOthers.setCell _ _ _)), rfl, pre, x, rfl, hne, Hx.out, A', c', by go_simp, by go_simp, rd_set (rd_set Hr.out L1.out _) (e2 _) _, ?_⟩
        exact (((Hb2.out.trans (HbW.out.mono (by omega))).trans (Hb1.out.mono (by omega))).setCell (p := ⟨B + 1, 0, none⟩) (by simp) _).setCell (p := ⟨B + 2, 0, none⟩) (by simp) _
      · have y1 : (((ptAt ps x).1 : Int) == id) = false := beq_eq_false_iff_ne.2 hx
        gi_wp2
        refine ⟨KeepsOthers.refl _, ⟨Nat.le_refl _, fun _ _ => rfl⟩, fun i hi => ?_, HbW.out⟩
        rcases List.mem_append.1 hi with h | h
        · exact hne i h
        · rw [List.mem_singleton.1 h]; exact hx
    case done =>
      rintro D xs W hD rfl ⟨hne, hbW⟩ hDd
      have HFm := Lib.hid (find_miss ps id fun i hi => by have := hne i (List.mem_range.2 (by omega)); rwa [ptAt_get hi] at this)
      obtain ⟨m1, p1⟩ := one_cell ((hbW.block (B + 1) (by omega)).trans k1)
      obtain ⟨m2, p2⟩ := one_cell ((hbW.block (B + 2) (by omega)).trans k2)
      have HbW := Lib.hid hbW
      have HD := Lib.hid hDd
      clear hbW hDd hne
      go_wp2_with fail
      obtain ⟨W', hW', u1, u2, hD', hb'⟩ : ∃ W', (W.setCell ⟨B + 1, 0, none⟩ (.slice none 0 0)).setCell ⟨B + 2, 0, none⟩ (.int .i64 3) = W' ∧ W'.cell? ⟨B + 1, 0, none⟩ = some (.slice none 0 0) ∧ W'.cell? ⟨B + 2, 0, none⟩ = some (.int .i64 3) ∧ W'.heap[D]? = some (.deferred (some [])) ∧ Below B w W' :=
        ⟨_, rfl, by go_simp, by go_simp, (Below.heap_setCell _ _ _ _ (by simp; omega)).trans ((Below.heap_setCell _ _ _ _ (by simp; omega)).trans HD.out), ((Hb2.out.trans (HbW.out.mono (by omega))).setCell (p := ⟨B + 1, 0, none⟩) (by simp) _).setCell (p := ⟨B + 2, 0, none⟩) (by simp) _⟩
      rw [hW']
      have z1 := (World.cell?_of_block (w := W') (w' := W'.putObj D (.deferred none)) (a := ⟨B + 1, 0, none⟩) (World.putObj_heap_other (by simp only; omega))).trans u1
      have z2 := (World.cell?_of_block (w := W') (w' := W'.putObj D (.deferred none)) (a := ⟨B + 2, 0, none⟩) (World.putObj_heap_other (by simp only; omega))).trans u2
      refine ⟨by simp, .inl ⟨_, _, rfl, run_takeDeferred hD', ?_⟩⟩
      refine ⟨_, (by rw [results_cells2 rfl]; go_simp; rfl), none, 0, by rw [HF.out, HFm.out]; rfl, by rw [HF.out, HFm.out]; exact Rd.nil _ _ _, below_put hb' (by omega)⟩
    case stop =>
      rintro D xs W hD hSp ⟨pre, x, rfl, hne, hx, A', c', e1, e2, hr, hb⟩ hDd
      obtain ⟨hxn, hin⟩ := prefix_range hSp
      have hgx : ptAt ps x = ps[x]'(by omega) := ptAt_get (by omega)
      have hhit := find_hit ps id x (by omega) (fun i hi => by have := hne i (hin i hi); rwa [ptAt_get (by omega)] at this) (by rw [← hgx]; exact hx)
      rw [← hgx] at hhit
      have z1 := (World.cell?_of_block (w := W) (w' := W.putObj D (.deferred none)) (a := ⟨B + 1, 0, none⟩) (World.putObj_heap_other (by simp only; omega))).trans e1
      have z2 := (World.cell?_of_block (w := W) (w' := W.putObj D (.deferred none)) (a := ⟨B + 2, 0, none⟩) (World.putObj_heap_other (by simp only; omega))).trans e2
      have hr' := rd_grown hr (grownBy_putObj' W D (.deferred none)) (fun r e => by cases e; exact ⟨_, hDd, rfl⟩)
      refine ⟨by simp, .inl ⟨_, _, rfl, run_takeDeferred hDd, ?_⟩⟩
      refine ⟨_, (by rw [results_cells2 rfl]; go_simp; rfl), A', c', by rw [HF.out, hhit, hgx], by rw [HF.out, hhit]; exact hr', below_put hb (by omega)⟩
end Go.Proofs.Ytmafdbdmmfpeeaa
