/-
  delta.Encode, of samples in order.
-/
import Derived.Test.YtmafdbdmmfpeeaaNumbers
import Derived.Test.YtmafdbdmmfpeeaaPackF
import Derived.Test.YtmafdbdmmfpeeaaPackA
import Derived.Test.YtmafdbdmmfpeeaaPackH
namespace Go.Proofs.Ytmafdbdmmfpeeaa
open Go Go.RowKit Go.Shelf
attribute [local go_sem] Oper.semAt_some

/-- as 'bodyPostM', of a body that does not panic -/
def bodyPostN (F : Fence) (n : Nat) (P : Program) (fn : Func) (R : Ending → World → Prop) : Exit → Act → World → Prop
  | .normal, a, w | .ret, a, w => LeavesInM F n P fn a.tmps R a.defers .returning w
  | _, _, _ => False
theorem bodyPostN.marks {F : Fence} {n : Nat} {P : Program} {fn : Func} {R : Ending → World → Prop} (e : Exit) (a : Act) (w : World) (h : bodyPostN F n P fn R e a w) : bodyPostM F n P fn R e a w := by
  cases e <;> first | exact h | exact False.elim h

/-- the fourth law, for two loop variables that are taken over into two slots of the body's -/
theorem range_two {P : Program} {n : Nat} {α : Type} {g : Operand} {p1 p2 : Tmp} {assign body : Code} {Q : Exit → Act → World → Prop} {a : Act} {w : World} (d1 d2 : Tmp)
    (h1 : 1 ≤ n) {gf : Nat} {lb : Array Value} (hg : a.eval g = .func (.func gf) #[] lb) (eg : ∀ args w, (callFunc gf args).run P w = .ok (.enter gf args) w)
    {e1 e2 : α → Value} {Kp : World → World → Prop} {S Sp : List α → Prop} {N : Nat} (hseq : SeqStopsK Fence.wide (n - 1) P gf lb (fun x => #[e1 x, e2 x]) Kp S Sp N w)
    (hKt : ∀ {A B C : World}, Kp A B → Kp B C → Kp A C) (hKb : ∀ (W : World) (l : Nat) (o o' : Obj), w.heap.size ≤ l → W.heap[l]? = some o → o.isCells = false → o.isWalk = false → Kp W (W.putObj l o'))
    (I : List α → World → Prop) (hI : OwnFrom w.heap.size I) (h0 : I [] w)
    (hassign : ∀ (l : Nat) (x : α) (W : World) (K : Act → World → Prop), K { tmps := (((a.tmps.setIfInBounds p1 (e1 x)).setIfInBounds p2 (e2 x)).setIfInBounds d1 (e1 x)).setIfInBounds d2 (e2 x), defers := [] } W →
      assign.wpIn (Rnd l) (n - 1 - 1) P (Exit.then K (fun _ _ _ => False)) { tmps := (a.tmps.setIfInBounds p1 (e1 x)).setIfInBounds p2 (e2 x), defers := [] } W)
    (hbody : ∀ (l : Nat) (pre : List α) (x : α) (W : World), I pre W → pre.length < N →
      body.wpIn (Rnd l) (n - 1 - 1) P (ownPostK Kp I (fun _ _ _ => False) (pre ++ [x]) W) { tmps := (((a.tmps.setIfInBounds p1 (e1 x)).setIfInBounds p2 (e2 x)).setIfInBounds d1 (e1 x)).setIfInBounds d2 (e2 x), defers := [] } W)
    (hdone : ∀ (D : Nat) (xs : List α) (W : World), w.heap.size ≤ D → S xs → I xs W → W.heap[D]? = some (.deferred (some [])) → Q .normal { a with defers := { target := .collected D, args := #[] } :: a.defers } W) :
    (Code.rangeFunc g #[p1, p2] assign body).wp P Q a w :=
  wpIn_wide.1 (wpIn_rangeFunc_ownF (F := Fence.wide) rfl h1 hg trivial eg hseq hKt hKb (Below.refl _ _) (fun _ => rfl) I (fun _ _ _ => False) hI (fun _ _ _ _ _ hs _ _ => hs) h0
    (fun x => { tmps := (((a.tmps.setIfInBounds p1 (e1 x)).setIfInBounds p2 (e2 x)).setIfInBounds d1 (e1 x)).setIfInBounds d2 (e2 x), defers := [] }) (fun l x W K hk => by have := hassign l x W K hk; simpa using this) hbody hdone (fun _ _ _ _ _ _ h _ => h.elim))

/-- three boxes are laid -/
theorem three_boxes {W W3 : World} {T1 T2 : TypeId} {u v : Value} (h : W3 = ((W.alloc (.cells #[u] T1)).alloc (.cells #[u] T1)).alloc (.cells #[v] T2)) :
    W3.heap.size = W.heap.size + 3 ∧ Below W.heap.size W W3 ∧ W3.heap[W.heap.size]? = some (.cells #[u] T1 (0, 0)) ∧ W3.heap[W.heap.size + 1]? = some (.cells #[u] T1 (0, 0)) ∧ W3.cell? ⟨W.heap.size + 2, 0, none⟩ = some v := by
  have n1 := World.alloc_heap_new W (.cells #[u] T1)
  have n2 := World.alloc_heap_new (W.alloc (.cells #[u] T1)) (.cells #[u] T1)
  have n3 := World.alloc_heap_new ((W.alloc (.cells #[u] T1)).alloc (.cells #[u] T1)) (.cells #[v] T2)
  simp only [World.size_alloc] at n2 n3
  subst h
  refine ⟨by simp, ((((Below.refl _ _).alloc (Nat.le_refl _) _).alloc (by simp) _).alloc (by simp; omega) _), ?_, ?_, ?_⟩
  · exact (Lib.alloc_old _ _ _ (by simp; omega)).trans ((Lib.alloc_old _ _ _ (by simp)).trans n1)
  · exact (Lib.alloc_old _ _ _ (by simp)).trans n2
  · rw [show W.heap.size + 2 = W.heap.size + 1 + 1 from rfl, Lib.cell_of_heap n3]; rfl

theorem Gr.held {base : Nat} {g : List Nat} {v8 v9 u8 u9 : Value} {xs ys : List Value} {W W' : World} {p q : Nat} (h : Gr base g v8 v9 xs ys W W') (c8 : W.cell? ⟨p, 0, none⟩ = some u8) (c9 : W.cell? ⟨q, 0, none⟩ = some u9) (hp : p < base) (hq : q < base) :
    W'.cell? ⟨p, 0, none⟩ = some u8 ∧ W'.cell? ⟨q, 0, none⟩ = some u9 :=
  ⟨(World.cell?_of_block (a := ⟨p, 0, none⟩) (h.st.block p hp)).trans c8, (World.cell?_of_block (a := ⟨q, 0, none⟩) (h.st.block q hq)).trans c9⟩

theorem rd_at (W : World) (u : Value) (G : Nat) (h : G = W.heap.size) : Rd (W.alloc (.cells #[u] 70)) 1 (some ⟨G, 0, none⟩) 1 [u] := by
  subst h; exact rd_built W u
theorem body_end {T : TypeId} {base p n₀ Bn : Nat} {xs ys xs' ys' : List Value} {w W W' : World} (hA : Acc T base p (p + 1) xs' ys' w W') (hK : KeepsOthers W W') (hlow : ∀ k, k < base → k ≠ p → k ≠ p + 1 → W.heap[k]? = w.heap[k]?)
    (h1 : n₀ ≤ p) (h2 : Bn < base) (h3 : Bn = p + 2) (ex : xs' = xs) (ey : ys' = ys) : KeepsOthers W W' ∧ KpN n₀ Bn W W' ∧ Acc T base p (p + 1) xs ys w W' := by
  subst ex ey
  refine ⟨hK, ⟨hK.size, fun k hk => ?_⟩, hA⟩
  have h : k < base ∧ k ≠ p ∧ k ≠ p + 1 := by rcases hk with h | h <;> omega
  exact (hA.2.1 k h.1 h.2.1 h.2.2).trans (hlow k h.1 h.2.1 h.2.2).symm

theorem below_but {B q : Nat} {w w3 W : World} (h : Below B w w3) (hq : B ≤ q) (hq3 : q + 3 ≤ w3.heap.size) (hs : w3.heap.size ≤ W.heap.size) (hlow : ∀ k, k < w3.heap.size → k ≠ q → k ≠ q + 1 → W.heap[k]? = w3.heap[k]?) (hos : W.os = w3.os) (ht : W.tape = w3.tape) (ho : W.output = w3.output) : Below B w W :=
  h.trans ⟨hos, ht, ho, hs, fun k hk => hlow k (by omega) (by omega) (by omega)⟩

theorem below_put {B D : Nat} {o : Obj} {w w' : World} (h : Below B w w') (hD : B ≤ D) : Below B w (w'.putObj D o) :=
  ⟨h.os, h.tape, h.output, by simp [World.putObj]; exact h.size, fun k hk => (World.putObj_heap_other (by omega)).trans (h.block k hk)⟩

theorem cells_kept {F : Nat → Prop} {b : Nat} {w0 w5 : World} {u v : Value} {T : TypeId} (h : Stays (PrF F b (w0.alloc (.cells #[u, v] T)).drew) (w0.alloc (.cells #[u, v] T)).drew w5) (hF : ∀ k, F k → k < w0.heap.size) :
    w5.cell? ⟨w0.heap.size, 0, none⟩ = some u ∧ w5.cell? ⟨w0.heap.size, 1, none⟩ = some v := by
  have h1 : w5.heap[w0.heap.size]? = some (.cells #[u, v] T (0, 0)) := (h.block _ ⟨by simp, .inl fun e => Nat.lt_irrefl _ (hF _ e)⟩).trans (heap_alloc_new w0 _)
  exact ⟨(Lib.cell_of_heap h1 0).trans rfl, (Lib.cell_of_heap h1 1).trans rfl⟩

/-- the time that sample j must be behind -/
def prevT (l : List Sample) : Nat → Int
  | 0 => -1
  | j + 1 => (sAt l j).T
theorem prevT_lt {l : List Sample} (h : Fine l) {j : Nat} (hj : j < l.length) : prevT l j < (sAt l j).T ∧ (sAt l j).T < 1099511627776 := by
  have h1 := h.1 _ (List.getElem_mem hj)
  rw [sAt_get hj]
  refine ⟨?_, h1.2⟩
  cases j with
  | zero => have := h1.1; show (-1 : Int) < _; omega
  | succ j =>
    have := h.2 j hj
    show (sAt l j).T < _
    rw [sAt_get (by omega)]
    exact this

set_option linter.unusedSimpArgs false in
set_option maxRecDepth 100000 in
set_option maxHeartbeats 2000000 in
theorem denc_any (A : Option Addr) (c : Nat) (l : List Sample) (w : World) (hrd : Rd w 2 A l.length (l.flatMap sampleCells)) (hf : Fine l) (hok : ∀ x ∈ l, Sample.ok x) (hl : l.length ≤ 5000) (h2 : 2 ≤ l.length) (hc : l.length ≤ c) (hcm : c ≤ maxLen) :
    Calls Try.prog 27 #[.slice A l.length c] w fun e w' => e = .returned (.tuple #[.string (S (encB l)), .int .i64 0]) ∧ Below w.heap.size w w' := by
  refine (callsIn_wide (n := 4)).1 (callsIn_of_wp_marks Try.func27 rfl trivial (wpIn_mono ?_ bodyPostN.marks))
  simp only [Try.ntmps27, List.size_toArray, List.length_cons, List.length_nil, Nat.reduceAdd, Nat.reduceSub, Array.replicate_succ, Array.replicate_zero, List.push_toArray, List.append_toArray, List.nil_append, List.cons_append]
  refine wpIn_wide.2 ?_
  have Hrd := Lib.hid hrd
  have Hf := Lib.hid hf
  have Hok := Lib.hid hok
  have Hcm := Lib.hid hcm
  obtain ⟨b, off, rfl, hb, _⟩ := hrd.2 (by omega)
  clear hrd hf hok hcm
  go_wp2_with fail
  go_loopw [4, 22] (fun pv ix wr => ∃ j : Nat, ix = .int .i64 j ∧ j ≤ l.length ∧ pv = .int .i64 (prevT l j) ∧ Below w.heap.size w wr) (fun _ ix _ => l.length - (intOf ix).toNat)
  case atStart => exact ⟨0, rfl, by omega, rfl, Below.refl _ _⟩
  case round =>
    obtain ⟨j, rfl, hj, rfl, hbel⟩ := hrel
    by_cases hlt : j < l.length
    · obtain ⟨b', off', hA', _, f0, f1⟩ := sample_at (Hrd.out.below hbel) hlt
      obtain ⟨rfl, rfl⟩ : b = b' ∧ off = off' := by simpa using hA'
      rw [← sAt_get hlt] at f0 f1
      have hp := prevT_lt Hf.out hlt
      have hn : prevT l (j + 1) = (sAt l j).T := rfl
      have hsz := hbel.size
      have Hn := Lib.hid hn
      have Hb := Lib.hid hbel
      clear hn hbel
      generalize prevT l j = pv at *
      generalize (sAt l j).T = tj at *
      generalize (sAt l j).V = vj at *
      have k1 : ¬ tj ≤ pv := by omega
      have k2 : ¬ tj ≥ 1099511627776 := by omega
      have k3 : ¬ 1099511627776 ≤ tj := by omega
      clear hp
      go_wp2_with fail
      go_roundw
      case rel => exact ⟨j + 1, rfl, by omega, by rw [Hn.out], Hb.out.alloc hsz _⟩
      case measure => simp [intOf]; omega
    · obtain rfl : j = l.length := by omega
      clear hlt hj
      obtain ⟨b', off', hA', _, f0, f1⟩ := sample_at (Hrd.out.below hbel) (show 0 < l.length by omega)
      obtain ⟨rfl, rfl⟩ : b = b' ∧ off = off' := by simpa using hA'
      have hblt : b < wr.heap.size := Nat.lt_of_lt_of_le hb hbel.size
      have hT := Hf.out.1 _ (List.getElem_mem (show 0 < l.length by omega))
      have hV := Hok.out _ (List.getElem_mem (show 0 < l.length by omega))
      rw [Nat.zero_mul, Nat.add_zero] at f0 f1
      obtain ⟨t0, ht0⟩ : ∃ n : Nat, l[0].T = n := ⟨l[0].T.toNat, by omega⟩
      obtain ⟨v0, hv0⟩ : ∃ v, l[0].V = v := ⟨_, rfl⟩
      rw [ht0] at f0 hT
      rw [hv0] at f1
      have hv1 : In64 v0 := hv0 ▸ hV.2
      have U0 := Lib.hid (fun w => uint_any l.length w (by omega))
      have U1 := Lib.hid (fun w => uint_any t0 w (by omega))
      have U2 := Lib.hid (fun w => int_any v0 w hv1.1 hv1.2)
      have hwr : IntKind.u64.wrap (t0 : Int) = t0 := by rw [IntKind.wrap_u64]; omega
      have z0 : (S (uint l.length)).size ≤ 10 := by rw [S_size]; exact uint_len_ten (by omega)
      have z1 : (S (uint t0)).size ≤ 10 := by rw [S_size]; exact uint_len_ten (by omega)
      have z2 : (S (uint (foldN v0))).size ≤ 10 := by rw [S_size]; exact uint_len_ten (foldN_lt hv1.1 hv1.2)
      have y1 : ¬ 9223372036854775807 < (S (uint t0)).size + (S (uint (foldN v0))).size := by omega
      have y2 : ¬ 9223372036854775807 < (S (uint l.length)).size + ((S (uint t0)).size + (S (uint (foldN v0))).size) := by omega
      clear z0 z1 z2
      have Hb := Lib.hid hbel
      have Ht0 := Lib.hid ht0
      have Hv0 := Lib.hid hv0
      clear hbel hV hv1 ht0 hv0
      go_wp2_with fail
      refine (U0.out _).mono ?_
      rintro e w0 ⟨rfl, hx0⟩
      have q0 := (hx0.cell (p := ⟨b, off, none⟩) hblt).trans f0
      have q1 := (hx0.cell (p := ⟨b, off + 1, none⟩) hblt).trans f1
      have hblt0 : b < w0.heap.size := Nat.lt_of_lt_of_le hblt hx0.size
      have Hx0 := Lib.hid hx0
      clear hx0 f0 f1 hblt
      have hblt := hblt0
      clear hblt0
      go_wp2_with fail
      refine wp_region_held_drew (S := fun w' => w'.cell? ⟨b, off, none⟩ = some (.int .i64 (t0 : Int)) ∧ w'.cell? ⟨b, off + 1, none⟩ = some (.int .i64 v0)) (by kernel_rfl) ?_ (fun hHeld => ?_)
      · go_keep
      refine wpAnyH_take (i := 0) (oi := _) (v := ?_) (by simp only [List.getElem?_toArray, List.getElem?_cons_succ, List.getElem?_cons_zero]; rfl) (by kernel_rfl) (by kernel_rfl) (by kernel_rfl) (by exact fun _ _ _ h => h) (Or.inl ⟨by rfl, ?_⟩) (by assumption) ?_
      rotate_left
      · (intro w hSw; (try dsimp only at hSw); go_simp) <;> with_reducible rfl
      try simp only [Act.put, List.setIfInBounds_toArray, List.set_cons_zero, List.set_cons_succ]
      refine wpAnyH_take (i := 1) (oi := _) (v := ?_) (by simp only [List.getElem?_toArray, List.getElem?_cons_succ, List.getElem?_cons_zero]; rfl) (by kernel_rfl) (by kernel_rfl) (by kernel_rfl) (by exact fun _ _ _ h => h) (Or.inl ⟨by rfl, ?_⟩) (by assumption) ?_
      rotate_left
      · (intro w hSw; (try dsimp only at hSw); go_simp) <;> with_reducible rfl
      try simp only [Act.put, List.setIfInBounds_toArray, List.set_cons_zero, List.set_cons_succ]
      refine wpAnyH_take (i := 2) (oi := _) (v := ?_) (by simp only [List.getElem?_toArray, List.getElem?_cons_succ, List.getElem?_cons_zero]; rfl) (by kernel_rfl) (by kernel_rfl) (by kernel_rfl) (by exact fun _ _ _ h => h) (Or.inl ⟨by rfl, ?_⟩) (by assumption) ?_
      rotate_left
      · (intro w hSw; (try dsimp only at hSw); go_simp) <;> with_reducible rfl
      try simp only [Act.put, List.setIfInBounds_toArray, List.set_cons_zero, List.set_cons_succ]
      refine wpAnyH_take (i := 3) (oi := _) (v := ?_) (by simp only [List.getElem?_toArray, List.getElem?_cons_succ, List.getElem?_cons_zero]; rfl) (by kernel_rfl) (by kernel_rfl) (by kernel_rfl) (by exact fun _ _ _ h => h) (Or.inl ⟨by rfl, ?_⟩) (by assumption) ?_
      rotate_left
      · (intro w hSw; (try dsimp only at hSw); go_simp) <;> with_reducible rfl
      try simp only [Act.put, List.setIfInBounds_toArray, List.set_cons_zero, List.set_cons_succ]
      refine wpAnyH_take (i := 4) (oi := _) (v := ?_) (by simp only [List.getElem?_toArray, List.getElem?_cons_succ, List.getElem?_cons_zero]; rfl) (by kernel_rfl) (by kernel_rfl) (by kernel_rfl) (by exact fun _ _ _ h => h) (Or.inl ⟨by rfl, ?_⟩) (by assumption) ?_
      rotate_left
      · (intro w hSw; (try dsimp only at hSw); go_simp) <;> with_reducible rfl
      try simp only [Act.put, List.setIfInBounds_toArray, List.set_cons_zero, List.set_cons_succ]
      refine wpAnyH_take (i := 5) (oi := _) (v := ?_) (by simp only [List.getElem?_toArray, List.getElem?_cons_succ, List.getElem?_cons_zero]; rfl) (by kernel_rfl) (by kernel_rfl) (by kernel_rfl) (by exact fun _ _ _ h => h) (Or.inl ⟨by rfl, ?_⟩) (by assumption) ?_
      rotate_left
      · (intro w hSw; (try dsimp only at hSw); go_simp) <;> with_reducible rfl
      try simp only [Act.put, List.setIfInBounds_toArray, List.set_cons_zero, List.set_cons_succ]
      refine wpAnyH_take (i := 7) (oi := _) (v := ?_) (by simp only [List.getElem?_toArray, List.getElem?_cons_succ, List.getElem?_cons_zero]; rfl) (by kernel_rfl) (by kernel_rfl) (by kernel_rfl) (by exact fun _ _ _ h => h) (Or.inl ⟨by rfl, ?_⟩) (by assumption) ?_
      rotate_left
      · (intro w hSw; (try dsimp only at hSw); go_simp) <;> with_reducible rfl
      try simp only [Act.put, List.setIfInBounds_toArray, List.set_cons_zero, List.set_cons_succ]
      refine wpAnyH_take (i := 8) (oi := _) (v := ?_) (by simp only [List.getElem?_toArray, List.getElem?_cons_succ, List.getElem?_cons_zero]; rfl) (by kernel_rfl) (by kernel_rfl) (by kernel_rfl) (by exact fun _ _ _ h => h) (Or.inl ⟨by rfl, ?_⟩) (by assumption) ?_
      rotate_left
      · (intro w hSw; (try dsimp only at hSw); go_simp) <;> with_reducible rfl
      try simp only [Act.put, List.setIfInBounds_toArray, List.set_cons_zero, List.set_cons_succ]
      refine wpAnyH_take (i := 9) (oi := _) (v := ?_) (by simp only [List.getElem?_toArray, List.getElem?_cons_succ, List.getElem?_cons_zero]; rfl) (by kernel_rfl) (by kernel_rfl) (by kernel_rfl) (by exact fun _ _ _ h => h) (Or.inl ⟨by rfl, ?_⟩) (by assumption) ?_
      rotate_left
      · (intro w hSw; (try dsimp only at hSw); go_simp) <;> with_reducible rfl
      try simp only [Act.put, List.setIfInBounds_toArray, List.set_cons_zero, List.set_cons_succ]
      refine wpAnyH_take (i := 10) (oi := _) (v := ?_) (by simp only [List.getElem?_toArray, List.getElem?_cons_succ, List.getElem?_cons_zero]; rfl) (by kernel_rfl) (by kernel_rfl) (by kernel_rfl) (by exact fun _ _ _ h => h) (Or.inl ⟨by rfl, ?_⟩) (by assumption) ?_
      rotate_left
      · (intro w hSw; (try dsimp only at hSw); go_simp) <;> with_reducible rfl
      try simp only [Act.put, List.setIfInBounds_toArray, List.set_cons_zero, List.set_cons_succ]
      refine wpAnyH_ready (rs := [6]) (by kernel_rfl) (by simp) ?_
      refine AllReadyH.cons (o := _) (by simp only [List.getElem?_toArray, List.getElem?_cons_succ, List.getElem?_cons_zero]; rfl) (fun K hK => ?_) AllReadyH.nil
      go_simp
      refine (U1.out _).mono ?_
      rintro e wx1 ⟨rfl, hx1⟩
      have Hx1 := Lib.hid hx1
      clear hx1
      go_wp2_with fail
      refine hK.out _ _ ?_ (fun hHeld => ?_)
      · exact ⟨(Hx1.out.cell (p := ⟨b, off, none⟩) hblt).trans hHeld.1, (Hx1.out.cell (p := ⟨b, off + 1, none⟩) hblt).trans hHeld.2⟩
      clear hK K
      try simp only [Act.put, List.setIfInBounds_toArray, List.set_cons_zero, List.set_cons_succ]
      refine wpAnyH_ready (rs := [11]) (by kernel_rfl) (by simp) ?_
      refine AllReadyH.cons (o := _) (by simp only [List.getElem?_toArray, List.getElem?_cons_succ, List.getElem?_cons_zero]; rfl) (fun K hK => ?_) AllReadyH.nil
      go_simp
      have hblt1 : b < wx1.heap.size := Nat.lt_of_lt_of_le hblt Hx1.out.size
      refine (U2.out _).mono ?_
      rintro e wx2 ⟨rfl, hx2⟩
      have Hx2 := Lib.hid hx2
      clear hx2
      go_wp2_with fail
      refine hK.out _ _ ?_ (fun hHeld => ?_)
      · exact ⟨(Hx2.out.cell (p := ⟨b, off, none⟩) hblt1).trans hHeld.1, (Hx2.out.cell (p := ⟨b, off + 1, none⟩) hblt1).trans hHeld.2⟩
      clear hK K
      try simp only [Act.put, List.setIfInBounds_toArray, List.set_cons_zero, List.set_cons_succ]
      refine wpAnyH_take (i := 12) (oi := _) (v := ?_) (by simp only [List.getElem?_toArray, List.getElem?_cons_succ, List.getElem?_cons_zero]; rfl) (by kernel_rfl) (by kernel_rfl) (by kernel_rfl) (by exact fun _ _ _ h => h) (Or.inl ⟨by rfl, ?_⟩) (by assumption) ?_
      rotate_left
      · (intro w hSw; (try dsimp only at hSw); go_simp) <;> with_reducible rfl
      try simp only [Act.put, List.setIfInBounds_toArray, List.set_cons_zero, List.set_cons_succ]
      refine wpAnyH_take (i := 13) (oi := _) (v := ?_) (by simp only [List.getElem?_toArray, List.getElem?_cons_succ, List.getElem?_cons_zero]; rfl) (by kernel_rfl) (by kernel_rfl) (by kernel_rfl) (by exact fun _ _ _ h => h) (Or.inl ⟨by rfl, ?_⟩) (by assumption) ?_
      rotate_left
      · (intro w hSw; (try dsimp only at hSw); go_simp) <;> with_reducible rfl
      try simp only [Act.put, List.setIfInBounds_toArray, List.set_cons_zero, List.set_cons_succ]
      refine wpAnyH_take (i := 14) (oi := _) (v := ?_) (by simp only [List.getElem?_toArray, List.getElem?_cons_succ, List.getElem?_cons_zero]; rfl) (by kernel_rfl) (by kernel_rfl) (by kernel_rfl) (by exact fun _ _ _ h => h) (Or.inl ⟨by rfl, ?_⟩) (by assumption) ?_
      rotate_left
      · (intro w hSw; (try dsimp only at hSw); go_simp) <;> with_reducible rfl
      try simp only [Act.put, List.setIfInBounds_toArray, List.set_cons_zero, List.set_cons_succ]
      refine wpAnyH_done (by kernel_rfl) ?_ _
      go_wp2_with fail
      refine (numbers_any _ _ _ _).mono ?_
      have hall : Below w.heap.size w wx2 := by
        have hx0 := Hx0.out.mono Hb.out.size
        have b1 := (Hb.out.trans hx0).drew
        have b2 := b1.trans (Hx1.out.mono b1.size)
        exact b2.trans (Hx2.out.mono b2.size)
      rintro e w3 ⟨rfl, hw3⟩
      obtain ⟨hs3, hbq, hb8, hb9, hbn⟩ := three_boxes hw3
      have hall3 := hall.trans (hbq.mono hall.size)
      have hbl : b < wx2.heap.size := Nat.lt_of_lt_of_le hb hall.size
      have Hall := Lib.hid hall3
      have Hwq := Lib.hid hall.size
      clear hw3 hbq hall hall3 Hx1 Hx2
      simp only [World.size_alloc, Nat.add_assoc, Nat.reduceAdd]
      generalize wx2.heap.size = q at *
      go_wp2_with fail
      refine range_two 10 11 (n := 4) (by decide) (gf := 59) (lb := #[.pointer (some ⟨q + 2, 0, none⟩)]) rfl (enters_of Try.func59 (by kernel_rfl) rfl)
        (numbers_stops 3 q (q + 2) (some ⟨b, off, none⟩) c l w3 (by omega) (by omega) hbn (Hrd.out.below Hall.out) (fun _ _ e => by cases e; exact hbl) Hf.out h2 (by omega) hc Hcm.out) (fun h k => h.trans k) ?kb
        (fun pre W => Acc 82 w3.heap.size q (q + 1) (u64Cells (pre.map Prod.fst)) (u64Cells (pre.map Prod.snd)) w3 W) ?own ?start ?assign ?body ?done
      case kb => exact fun W l o o' hl _ _ _ => ⟨by simp [World.putObj], fun k hk => World.putObj_heap_other (by omega)⟩
      case own => exact fun s W W' row hs hg hr => hs.kept (by omega) (by omega) hg hr
      case start => exact ⟨⟨_, _, hb8, hb9, ⟨Stays.refl _ _, KeepsOthers.refl _, Nat.le_refl _, Lie.nil _ _ _ _, Lie.nil _ _ _ _, fun k hk => by cases hk⟩⟩, fun _ _ _ _ => rfl, rfl, rfl, rfl⟩
      case assign =>
        intro L x W K hK
        simp only [List.setIfInBounds_toArray, List.set_cons_zero, List.set_cons_succ] at hK ⊢
        gi_wp2
        exact hK
      case body =>
        intro L pre x W hI hlen
        simp only [List.setIfInBounds_toArray, List.set_cons_zero, List.set_cons_succ]
        have hmix : (Try.prog).follows .mixedOrders = true := by kernel_rfl
        obtain ⟨⟨v8, v9, h8, h9, hG⟩, hlow, hos, htp, hout⟩ := hI
        have c8 : W.cell? ⟨q, 0, none⟩ = some v8 := by rw [Lib.cell_of_heap h8]; rfl
        have c9 : W.cell? ⟨q + 1, 0, none⟩ = some v9 := by rw [Lib.cell_of_heap h9]; rfl
        gi_wp2
        refine head_in_round (n := 8) (S := fun w' => w'.cell? ⟨q, 0, none⟩ = some v8 ∧ w'.cell? ⟨q + 1, 0, none⟩ = some v9) hmix (fun ⟨_, _, h⟩ => h) (noDefer_of (by kernel_rfl)) 8 rfl ⟨c8, c9⟩ (fun hHeld => ?_)
        have H0 := hG.drew
        have hq0 : q < w3.heap.size := by omega
        have hq1 : q + 1 < w3.heap.size := by omega
        have hn8 : (u64Cells (pre.map Prod.fst)).length < 1099511627776 := by simp [u64Cells]; omega
        have hn9 : (u64Cells (pre.map Prod.snd)).length < 1099511627776 := by simp [u64Cells]; omega
        try simp only [Act.put, List.setIfInBounds_toArray, List.set_cons_zero, List.set_cons_succ]
        refine head_take (i := 0) (oi := _) (v := ?_) (by simp only [List.getElem?_toArray, List.getElem?_cons_succ, List.getElem?_cons_zero]; rfl) (by decide) (by kernel_rfl) (by kernel_rfl) (by kernel_rfl) (by kernel_rfl) (by exact fun _ _ _ h => h) (Or.inl ⟨by rfl, ?_⟩) (by assumption) ?_
        rotate_left
        · (intro w hSw; (try dsimp only at hSw); go_simp) <;> with_reducible rfl
        try simp only [Act.put, List.setIfInBounds_toArray, List.set_cons_zero, List.set_cons_succ]
        refine head_take (i := 1) (oi := _) (v := ?_) (by simp only [List.getElem?_toArray, List.getElem?_cons_succ, List.getElem?_cons_zero]; rfl) (by decide) (by kernel_rfl) (by kernel_rfl) (by kernel_rfl) (by kernel_rfl) (by exact fun _ _ _ h => h) (Or.inl ⟨by rfl, ?_⟩) (by assumption) ?_
        rotate_left
        · (intro w hSw; (try dsimp only at hSw); go_simp) <;> with_reducible rfl
        try simp only [Act.put, List.setIfInBounds_toArray, List.set_cons_zero, List.set_cons_succ]
        refine head_take (i := 4) (oi := _) (v := ?_) (by simp only [List.getElem?_toArray, List.getElem?_cons_succ, List.getElem?_cons_zero]; rfl) (by decide) (by kernel_rfl) (by kernel_rfl) (by kernel_rfl) (by kernel_rfl) (by exact fun _ _ _ h => h) (Or.inl ⟨by rfl, ?_⟩) (by assumption) ?_
        rotate_left
        · (intro w hSw; (try dsimp only at hSw); go_simp) <;> with_reducible rfl
        try simp only [Act.put, List.setIfInBounds_toArray, List.set_cons_zero, List.set_cons_succ]
        refine head_take (i := 5) (oi := _) (v := ?_) (by simp only [List.getElem?_toArray, List.getElem?_cons_succ, List.getElem?_cons_zero]; rfl) (by decide) (by kernel_rfl) (by kernel_rfl) (by kernel_rfl) (by kernel_rfl) (by exact fun _ _ _ h => h) (Or.inl ⟨by rfl, ?_⟩) (by assumption) ?_
        rotate_left
        · (intro w hSw; (try dsimp only at hSw); go_simp) <;> with_reducible rfl
        try simp only [Act.put, List.setIfInBounds_toArray, List.set_cons_zero, List.set_cons_succ]
        refine head_ready (rs := [2, 6]) (by kernel_rfl) (by simp) ?_
        refine HeadAll.cons (o := _) (by simp only [List.getElem?_toArray, List.getElem?_cons_succ, List.getElem?_cons_zero]; rfl) (by decide) (fun K hK => ?_) (HeadAll.cons (o := _) (by simp only [List.getElem?_toArray, List.getElem?_cons_succ, List.getElem?_cons_zero]; rfl) (by decide) (fun K hK => ?_) HeadAll.nil)
        · skip
          have H1 := H0.build (Nat.le_trans (by omega) hG.hb) (.int .u64 (x.1 : Nat))
          go_simp
          refine hK.out _ _ (H1.held c8 c9 hq0 hq1) (fun hHeld => ?_)
          clear hK K
          try simp only [Act.put, List.setIfInBounds_toArray, List.set_cons_zero, List.set_cons_succ]
          refine head_ready (rs := [3, 6]) (by kernel_rfl) (by simp) ?_
          refine HeadAll.cons (o := _) (by simp only [List.getElem?_toArray, List.getElem?_cons_succ, List.getElem?_cons_zero]; rfl) (by decide) (fun K hK => ?_) (HeadAll.cons (o := _) (by simp only [List.getElem?_toArray, List.getElem?_cons_succ, List.getElem?_cons_zero]; rfl) (by decide) (fun K hK => ?_) HeadAll.nil)
          · skip
            refine Gr.step rfl (.tmp 67) (.tmp 69) rfl (by kernel_rfl) (by kernel_rfl) (u := .int .u64 ((x.1 : Nat) : Int)) H1 rfl _ 1 rfl (rd_built W.drew (.int .u64 ((x.1 : Nat) : Int))) rfl hn8 ?_
            intro v8' W2 H2 k2
            refine hK.out _ _ (H2.held c8 c9 hq0 hq1) (fun hHeld => ?_)
            clear hK K
            try simp only [Act.put, List.setIfInBounds_toArray, List.set_cons_zero, List.set_cons_succ]
            refine head_ready (rs := [6]) (by kernel_rfl) (by simp) ?_
            refine HeadAll.cons (o := _) (by simp only [List.getElem?_toArray, List.getElem?_cons_succ, List.getElem?_cons_zero]; rfl) (by decide) (fun K hK => ?_) HeadAll.nil
            have H3 := H2.build (Nat.le_trans (by omega) hG.hb) (.int .u64 (x.2 : Nat))
            go_simp
            refine hK.out _ _ (H3.held c8 c9 hq0 hq1) (fun hHeld => ?_)
            clear hK K
            try simp only [Act.put, List.setIfInBounds_toArray, List.set_cons_zero, List.set_cons_succ]
            refine head_ready (rs := [7]) (by kernel_rfl) (by simp) ?_
            refine HeadAll.cons (o := _) (by simp only [List.getElem?_toArray, List.getElem?_cons_succ, List.getElem?_cons_zero]; rfl) (by decide) (fun K hK => ?_) HeadAll.nil
            refine Gr.step rfl (.tmp 71) (.tmp 73) rfl (by kernel_rfl) (by kernel_rfl) (u := .int .u64 ((x.2 : Nat) : Int)) H3.swap rfl _ 1 rfl (rd_built W2 (.int .u64 ((x.2 : Nat) : Int))) rfl hn9 ?_
            intro v9' W4 H4 k4
            refine hK.out _ _ (H4.swap.held c8 c9 hq0 hq1) (fun hHeld => ?_)
            clear hK K
            try simp only [Act.put, List.setIfInBounds_toArray, List.set_cons_zero, List.set_cons_succ]
            refine head_done (by kernel_rfl) ?_
            have HE := H4.swap
            obtain ⟨A8, n8, e8⟩ := HE.l8.form
            obtain ⟨A9, n9, e9⟩ := HE.l9.form
            subst e8 e9
            have fin := HE.stored hq0 hq1 (by omega) h8 h9 hlow hos htp hout
            have x8 := (HE.st.block q hq0).trans h8
            have x9 := (HE.st.block (q + 1) hq1).trans h9
            have y8 := hHeld.1
            have y9 := hHeld.2
            have f8 := Lib.frozen_of_heap x8 0
            have f9 := Lib.frozen_of_heap x9 0
            simp only [List.length_append, List.length_cons, List.length_nil, Nat.zero_add] at fin
            have Fin := Lib.hid (And.intro fin.1 fin.2)
            clear fin HE
            simp only [List.drop_succ_cons, List.drop_zero]
            go_wp2_with fail
            refine body_end (n₀ := q) (Bn := q + 2) Fin.out.1 Fin.out.2 hlow (by omega) (by omega) (by omega) ?_ ?_ <;> simp [u64Cells]
          · skip
            have H2 := H1.build (Nat.le_trans (by omega) hG.hb) (.int .u64 (x.2 : Nat))
            go_simp
            refine hK.out _ _ (H2.held c8 c9 hq0 hq1) (fun hHeld => ?_)
            clear hK K
            try simp only [Act.put, List.setIfInBounds_toArray, List.set_cons_zero, List.set_cons_succ]
            refine head_ready (rs := [3]) (by kernel_rfl) (by simp) ?_
            refine HeadAll.cons (o := _) (by simp only [List.getElem?_toArray, List.getElem?_cons_succ, List.getElem?_cons_zero]; rfl) (by decide) (fun K hK => ?_) HeadAll.nil
            refine Gr.step rfl (.tmp 67) (.tmp 69) rfl (by kernel_rfl) (by kernel_rfl) (u := .int .u64 ((x.1 : Nat) : Int)) H2 rfl _ 1 rfl ((rd_built W.drew (.int .u64 ((x.1 : Nat) : Int))).alloc (.cells #[(.int .u64 ((x.2 : Nat) : Int))] 70)) rfl hn8 ?_
            intro v8' W3 H3 k3
            refine hK.out _ _ (H3.held c8 c9 hq0 hq1) (fun hHeld => ?_)
            clear hK K
            try simp only [Act.put, List.setIfInBounds_toArray, List.set_cons_zero, List.set_cons_succ]
            refine head_ready (rs := [7]) (by kernel_rfl) (by simp) ?_
            refine HeadAll.cons (o := _) (by simp only [List.getElem?_toArray, List.getElem?_cons_succ, List.getElem?_cons_zero]; rfl) (by decide) (fun K hK => ?_) HeadAll.nil
            refine Gr.step rfl (.tmp 71) (.tmp 73) rfl (by kernel_rfl) (by kernel_rfl) (u := .int .u64 ((x.2 : Nat) : Int)) H3.swap rfl _ 1 rfl (rd_kept (rd_at (W.drew.alloc (.cells #[(.int .u64 ((x.1 : Nat) : Int))] 70)) (.int .u64 ((x.2 : Nat) : Int)) _ (by simp)) (k3 _ (by simp))) rfl hn9 ?_
            intro v9' W4 H4 k4
            refine hK.out _ _ (H4.swap.held c8 c9 hq0 hq1) (fun hHeld => ?_)
            clear hK K
            try simp only [Act.put, List.setIfInBounds_toArray, List.set_cons_zero, List.set_cons_succ]
            refine head_done (by kernel_rfl) ?_
            have HE := H4.swap
            obtain ⟨A8, n8, e8⟩ := HE.l8.form
            obtain ⟨A9, n9, e9⟩ := HE.l9.form
            subst e8 e9
            have fin := HE.stored hq0 hq1 (by omega) h8 h9 hlow hos htp hout
            have x8 := (HE.st.block q hq0).trans h8
            have x9 := (HE.st.block (q + 1) hq1).trans h9
            have y8 := hHeld.1
            have y9 := hHeld.2
            have f8 := Lib.frozen_of_heap x8 0
            have f9 := Lib.frozen_of_heap x9 0
            simp only [List.length_append, List.length_cons, List.length_nil, Nat.zero_add] at fin
            have Fin := Lib.hid (And.intro fin.1 fin.2)
            clear fin HE
            simp only [List.drop_succ_cons, List.drop_zero]
            go_wp2_with fail
            refine body_end (n₀ := q) (Bn := q + 2) Fin.out.1 Fin.out.2 hlow (by omega) (by omega) (by omega) ?_ ?_ <;> simp [u64Cells]
        · skip
          have H1 := H0.build (Nat.le_trans (by omega) hG.hb) (.int .u64 (x.2 : Nat))
          go_simp
          refine hK.out _ _ (H1.held c8 c9 hq0 hq1) (fun hHeld => ?_)
          clear hK K
          try simp only [Act.put, List.setIfInBounds_toArray, List.set_cons_zero, List.set_cons_succ]
          refine head_ready (rs := [2]) (by kernel_rfl) (by simp) ?_
          refine HeadAll.cons (o := _) (by simp only [List.getElem?_toArray, List.getElem?_cons_succ, List.getElem?_cons_zero]; rfl) (by decide) (fun K hK => ?_) HeadAll.nil
          have H2 := H1.build (Nat.le_trans (by omega) hG.hb) (.int .u64 (x.1 : Nat))
          go_simp
          refine hK.out _ _ (H2.held c8 c9 hq0 hq1) (fun hHeld => ?_)
          clear hK K
          try simp only [Act.put, List.setIfInBounds_toArray, List.set_cons_zero, List.set_cons_succ]
          refine head_ready (rs := [3]) (by kernel_rfl) (by simp) ?_
          refine HeadAll.cons (o := _) (by simp only [List.getElem?_toArray, List.getElem?_cons_succ, List.getElem?_cons_zero]; rfl) (by decide) (fun K hK => ?_) HeadAll.nil
          refine Gr.step rfl (.tmp 67) (.tmp 69) rfl (by kernel_rfl) (by kernel_rfl) (u := .int .u64 ((x.1 : Nat) : Int)) H2 rfl _ 1 rfl (rd_at (W.drew.alloc (.cells #[(.int .u64 ((x.2 : Nat) : Int))] 70)) (.int .u64 ((x.1 : Nat) : Int)) _ (by simp)) rfl hn8 ?_
          intro v8' W3 H3 k3
          refine hK.out _ _ (H3.held c8 c9 hq0 hq1) (fun hHeld => ?_)
          clear hK K
          try simp only [Act.put, List.setIfInBounds_toArray, List.set_cons_zero, List.set_cons_succ]
          refine head_ready (rs := [7]) (by kernel_rfl) (by simp) ?_
          refine HeadAll.cons (o := _) (by simp only [List.getElem?_toArray, List.getElem?_cons_succ, List.getElem?_cons_zero]; rfl) (by decide) (fun K hK => ?_) HeadAll.nil
          refine Gr.step rfl (.tmp 71) (.tmp 73) rfl (by kernel_rfl) (by kernel_rfl) (u := .int .u64 ((x.2 : Nat) : Int)) H3.swap rfl _ 1 rfl (rd_kept ((rd_built W.drew (.int .u64 ((x.2 : Nat) : Int))).alloc (.cells #[(.int .u64 ((x.1 : Nat) : Int))] 70)) (k3 _ (by simp))) rfl hn9 ?_
          intro v9' W4 H4 k4
          refine hK.out _ _ (H4.swap.held c8 c9 hq0 hq1) (fun hHeld => ?_)
          clear hK K
          try simp only [Act.put, List.setIfInBounds_toArray, List.set_cons_zero, List.set_cons_succ]
          refine head_done (by kernel_rfl) ?_
          have HE := H4.swap
          obtain ⟨A8, n8, e8⟩ := HE.l8.form
          obtain ⟨A9, n9, e9⟩ := HE.l9.form
          subst e8 e9
          have fin := HE.stored hq0 hq1 (by omega) h8 h9 hlow hos htp hout
          have x8 := (HE.st.block q hq0).trans h8
          have x9 := (HE.st.block (q + 1) hq1).trans h9
          have y8 := hHeld.1
          have y9 := hHeld.2
          have f8 := Lib.frozen_of_heap x8 0
          have f9 := Lib.frozen_of_heap x9 0
          simp only [List.length_append, List.length_cons, List.length_nil, Nat.zero_add] at fin
          have Fin := Lib.hid (And.intro fin.1 fin.2)
          clear fin HE
          simp only [List.drop_succ_cons, List.drop_zero]
          go_wp2_with fail
          refine body_end (n₀ := q) (Bn := q + 2) Fin.out.1 Fin.out.2 hlow (by omega) (by omega) (by omega) ?_ ?_ <;> simp [u64Cells]
      case done =>
        rintro D xs W hD rfl hI hDd
        obtain ⟨⟨v8, v9, h8, h9, hG⟩, hlow, hos, htp, hout⟩ := hI
        obtain ⟨A8, n8, rfl⟩ := hG.l8.form
        obtain ⟨A9, n9, rfl⟩ := hG.l9.form
        have e8 : (u64Cells ((nums l).map Prod.fst)).length = ((nums l).map Prod.fst).length := by simp [u64Cells]
        have e9 : (u64Cells ((nums l).map Prod.snd)).length = ((nums l).map Prod.snd).length := by simp [u64Cells]
        have R8 : Rd W 1 A8 ((nums l).map Prod.fst).length (u64Cells ((nums l).map Prod.fst)) := by have := hG.l8.rd; rwa [e8] at this
        have R9 : Rd W 1 A9 ((nums l).map Prod.snd).length (u64Cells ((nums l).map Prod.snd)) := by have := hG.l9.rd; rwa [e9] at this
        have c8 : W.cell? ⟨q, 0, none⟩ = some (.slice A8 ((nums l).map Prod.fst).length n8) := by rw [Lib.cell_of_heap h8, ← e8]; rfl
        have c9 : W.cell? ⟨q + 1, 0, none⟩ = some (.slice A9 ((nums l).map Prod.snd).length n9) := by rw [Lib.cell_of_heap h9, ← e9]; rfl
        obtain ⟨b8, o8, rfl, hb8W, _⟩ := R8.2 (by rw [List.length_map, nums_length]; omega)
        obtain ⟨b9, o9, rfl, hb9W, _⟩ := R9.2 (by rw [List.length_map, nums_length]; omega)
        have hqW : q < W.heap.size := (Array.getElem?_eq_some_iff.1 h8).1
        have hqW1 : q + 1 < W.heap.size := (Array.getElem?_eq_some_iff.1 h9).1
        have nlt : ∀ p ∈ nums l, p.1 < 18446744073709551616 ∧ p.2 < 18446744073709551616 := fun p hp => by
          obtain ⟨i, hi, rfl⟩ := List.getElem_of_mem hp
          rw [nums_get hi]
          rw [nums_length] at hi
          exact num_lt Hf.out (by omega)
        have len8 : ((nums l).map Prod.fst).length ≤ 5000 := by rw [List.length_map, nums_length]; omega
        have len9 : ((nums l).map Prod.snd).length ≤ 5000 := by rw [List.length_map, nums_length]; omega
        have B1 := Lib.hid (fun w hr => best_any (some ⟨b8, o8, none⟩) n8 ((nums l).map Prod.fst) w hr len8 (fun x hx => by obtain ⟨p, hp, rfl⟩ := List.mem_map.1 hx; exact (nlt p hp).1))
        have B2 := Lib.hid (fun w hr => best_any (some ⟨b9, o9, none⟩) n9 ((nums l).map Prod.snd) w hr len9 (fun x hx => by obtain ⟨p, hp, rfl⟩ := List.mem_map.1 hx; exact (nlt p hp).2))
        clear e8 e9 nlt h8 h9 len8 len9
        generalize hx8 : (nums l).map Prod.fst = xs8 at *
        generalize hx9 : (nums l).map Prod.snd = xs9 at *
        have Hx8 := Lib.hid hx8
        have Hx9 := Lib.hid hx9
        clear hx8 hx9
        go_wp2_with fail
        refine wp_region_held_drew (S := fun w' => w'.cell? ⟨q, 0, none⟩ = some (.slice (some ⟨b8, o8, none⟩) xs8.length n8) ∧ w'.cell? ⟨q + 1, 0, none⟩ = some (.slice (some ⟨b9, o9, none⟩) xs9.length n9)) (by kernel_rfl) ?_ (fun hHeld => ?_)
        · go_keep
        refine wpAnyH_take (i := 0) (oi := _) (v := ?_) (by simp only [List.getElem?_toArray, List.getElem?_cons_succ, List.getElem?_cons_zero]; rfl) (by kernel_rfl) (by kernel_rfl) (by kernel_rfl) (by exact fun _ _ _ h => h) (Or.inl ⟨by rfl, ?_⟩) (by assumption) ?_
        rotate_left
        · (intro w hSw; (try dsimp only at hSw); go_simp) <;> with_reducible rfl
        try simp only [Act.put, List.setIfInBounds_toArray, List.set_cons_zero, List.set_cons_succ]
        refine wpAnyH_take (i := 2) (oi := _) (v := ?_) (by simp only [List.getElem?_toArray, List.getElem?_cons_succ, List.getElem?_cons_zero]; rfl) (by kernel_rfl) (by kernel_rfl) (by kernel_rfl) (by exact fun _ _ _ h => h) (Or.inl ⟨by rfl, ?_⟩) (by assumption) ?_
        rotate_left
        · (intro w hSw; (try dsimp only at hSw); go_simp) <;> with_reducible rfl
        try simp only [Act.put, List.setIfInBounds_toArray, List.set_cons_zero, List.set_cons_succ]
        refine wpAnyH_ready (rs := [1]) (by kernel_rfl) (by simp) ?_
        refine AllReadyH.cons (o := _) (by simp only [List.getElem?_toArray, List.getElem?_cons_succ, List.getElem?_cons_zero]; rfl) (fun K hK => ?_) AllReadyH.nil
        go_simp
        refine (B1.out W.drew R8).mono ?_
        rintro e wy1 ⟨rfl, hy1⟩
        have Hy1 := Lib.hid hy1
        clear hy1
        go_wp2_with fail
        refine hK.out _ _ ?_ (fun hHeld => ?_)
        · exact ⟨(Hy1.out.cell (p := ⟨q, 0, none⟩) hqW).trans hHeld.1, (Hy1.out.cell (p := ⟨q + 1, 0, none⟩) hqW1).trans hHeld.2⟩
        clear hK K
        try simp only [Act.put, List.setIfInBounds_toArray, List.set_cons_zero, List.set_cons_succ]
        refine wpAnyH_ready (rs := [3]) (by kernel_rfl) (by simp) ?_
        refine AllReadyH.cons (o := _) (by simp only [List.getElem?_toArray, List.getElem?_cons_succ, List.getElem?_cons_zero]; rfl) (fun K hK => ?_) AllReadyH.nil
        go_simp
        refine (B2.out wy1 (R9.drew.below Hy1.out)).mono ?_
        rintro e wy2 ⟨rfl, hy2⟩
        have Hy2 := Lib.hid hy2
        clear hy2
        go_wp2_with fail
        refine hK.out _ _ ?_ (fun hHeld => ?_)
        · exact ⟨(Hy2.out.cell (p := ⟨q, 0, none⟩) (Nat.lt_of_lt_of_le hqW Hy1.out.size)).trans hHeld.1, (Hy2.out.cell (p := ⟨q + 1, 0, none⟩) (Nat.lt_of_lt_of_le hqW1 Hy1.out.size)).trans hHeld.2⟩
        clear hK K
        try simp only [Act.put, List.setIfInBounds_toArray, List.set_cons_zero, List.set_cons_succ]
        refine wpAnyH_take (i := 4) (oi := _) (v := ?_) (by simp only [List.getElem?_toArray, List.getElem?_cons_succ, List.getElem?_cons_zero]; rfl) (by kernel_rfl) (by kernel_rfl) (by kernel_rfl) (by exact fun _ _ _ h => h) (Or.inl ⟨by rfl, ?_⟩) (by assumption) ?_
        rotate_left
        · (intro w hSw; (try dsimp only at hSw); go_simp) <;> with_reducible rfl
        try simp only [Act.put, List.setIfInBounds_toArray, List.set_cons_zero, List.set_cons_succ]
        refine wpAnyH_take (i := 5) (oi := _) (v := ?_) (by simp only [List.getElem?_toArray, List.getElem?_cons_succ, List.getElem?_cons_zero]; rfl) (by kernel_rfl) (by kernel_rfl) (by kernel_rfl) (by exact fun _ _ _ h => h) (Or.inl ⟨by rfl, ?_⟩) (by assumption) ?_
        rotate_left
        · (intro w hSw; (try dsimp only at hSw); go_simp) <;> with_reducible rfl
        try simp only [Act.put, List.setIfInBounds_toArray, List.set_cons_zero, List.set_cons_succ]
        refine wpAnyH_done (by kernel_rfl) ?_ _
        have hyW := (Below.refl W.heap.size W).drew.trans (Hy1.out.mono (Nat.le_refl _))
        have hy2 := hyW.trans (Hy2.out.mono hyW.size)
        have HW := Lib.hid ((below_but Hall.out Hwq.out (by omega) (Nat.le_of_lt (Nat.lt_of_le_of_lt hD (Array.getElem?_eq_some_iff.1 hDd).1)) hlow hos htp hout).trans (hy2.mono (Nat.le_trans Hwq.out (Nat.le_of_lt hqW))))
        have R8y := Lib.hid (R8.below hy2)
        have R9y := Lib.hid (R9.below hy2)
        have hqy : q < wy2.heap.size := Nat.lt_of_lt_of_le hqW hy2.size
        have hqy1 : q + 1 < wy2.heap.size := Nat.lt_of_lt_of_le hqW1 hy2.size
        have cy8 := hHeld.1
        have cy9 := hHeld.2
        have hDy := Lib.hid ((hy2.block D (Array.getElem?_eq_some_iff.1 hDd).1).trans hDd)
        clear hy2 hyW R8 R9 c8 c9 hG hlow hos htp hout hDd
        go_wp2_with fail
        refine (new_any _).mono ?_
        rintro e wz ⟨rfl, hwz⟩
        have hz : WrF wy2.heap.size WSt.none (fun k => k = wy2.heap.size) wz := by rw [hwz]; exact newW wy2
        have hbz : Below wy2.heap.size wy2 wz := by rw [hwz]; exact Below.one _ _
        have cz8 := (hbz.cell (p := ⟨q, 0, none⟩) hqy).trans cy8
        have Hz := Lib.hid hz
        have Hbz := Lib.hid hbz
        clear hz hbz hwz
        have hk1 : bestN xs8 40 ≤ 40 := bestN_le _ _
        have hk2 : bestN xs9 40 ≤ 40 := bestN_le _ _
        have Hk : Hid (bestN xs8 40 = bestT l ∧ bestN xs9 40 = bestV l) := Lib.hid ⟨by rw [← Hx8.out]; rfl, by rw [← Hx9.out]; rfl⟩
        have Hl8 : xs8.length = l.length - 1 := by rw [← Hx8.out, List.length_map, nums_length]
        have Hl9 : xs9.length = l.length - 1 := by rw [← Hx9.out, List.length_map, nums_length]
        have hlen : xs8.length ≤ xs9.length ∧ xs8.length ≤ 5000 := by omega
        have Hlen := Lib.hid Hl8
        clear Hl8 Hl9 B1 B2
        generalize bestN xs8 40 = k1 at *
        generalize bestN xs9 40 = k2 at *
        have N8 := Lib.hid (fun (j : Nat) (h : j < xs8.length) (h' : j < xs9.length) => wrN_next Hx8.out Hx9.out h h' k1 k2)
        have O8 := Lib.hid (fun j => wrN_ok hk1 hk2 ((nums l).take j))
        have X8 : Hid (∀ x ∈ xs8, x < 18446744073709551616) := Lib.hid (fun x hx => by
          rw [← Hx8.out] at hx
          obtain ⟨p, hp, rfl⟩ := List.mem_map.1 hx
          obtain ⟨i, hi, rfl⟩ := List.getElem_of_mem hp
          rw [nums_get hi]
          rw [nums_length] at hi
          exact (num_lt Hf.out (by omega)).1)
        have X9 : Hid (∀ x ∈ xs9, x < 18446744073709551616) := Lib.hid (fun x hx => by
          rw [← Hx9.out] at hx
          obtain ⟨p, hp, rfl⟩ := List.mem_map.1 hx
          obtain ⟨i, hi, rfl⟩ := List.getElem_of_mem hp
          rw [nums_get hi]
          rw [nums_length] at hi
          exact (num_lt Hf.out (by omega)).2)
        go_wp2_with fail
        go_loopw [82] (fun ix wr2 => ∃ (j : Nat) (F : Nat → Prop), ix = .int .i64 j ∧ j ≤ xs8.length ∧ WrF wy2.heap.size (wrN ((nums l).take j) k1 k2) F wr2 ∧ (∀ k, F k → wy2.heap.size ≤ k) ∧ Below wy2.heap.size wy2 wr2) (fun ix _ => xs8.length - (intOf ix).toNat)
        case atStart => exact ⟨0, _, rfl, by omega, Hz.out, fun k hk => by omega, Hbz.out⟩
        case round =>
          rename World => wr2
          obtain ⟨j, F, rfl, hj, hF, hFk, hbr⟩ := hrel
          have hsz2 := hbr.size
          by_cases hlt : j < xs8.length
          · have hlt9 : j < xs9.length := by omega
            obtain ⟨b8', o8', hA', _, e8⟩ := u64_at (R8y.out.below hbr) hlt
            obtain ⟨rfl, rfl⟩ : b8 = b8' ∧ o8 = o8' := by simpa using hA'
            have hok := O8.out j
            have hn := N8.out j hlt hlt9
            have h8x := X8.out _ (List.getElem_mem hlt)
            have h9x := X9.out _ (List.getElem_mem hlt9)
            have hln : (wrN ((nums l).take j) k1 k2).L.length ≤ 200000 := by
              have h1 := hok.2
              have h2 : ((nums l).take j).length ≤ j := List.length_take_le _ _
              omega
            obtain ⟨t, ht⟩ : ∃ t, xs8[j] = t := ⟨_, rfl⟩
            obtain ⟨y, hy⟩ : ∃ y, xs9[j] = y := ⟨_, rfl⟩
            rw [ht] at e8 h8x
            rw [hy] at h9x
            rw [ht, hy] at hn
            have Hy := Lib.hid hy
            have Hn := Lib.hid hn
            have C1 := Lib.hid (riceF0 wy2.heap.size (wrN ((nums l).take j) k1 k2) F t k1 wr2 hF hok.1 h8x hk1 (by omega))
            have hok1 := rice_ok (n := t) hok.1 hk1
            have C2 := Lib.hid (fun F' w' h => riceF0 wy2.heap.size ((wrN ((nums l).take j) k1 k2).rice t k1) F' y k2 w' h hok1.1 h9x hk2 (by omega))
            have HF := Lib.hid hF
            have HFk := Lib.hid hFk
            have Hbr := Lib.hid hbr
            clear hA' hok hn hy ht h8x h9x hok1 hF hFk hbr
            go_wp2_with fail
            refine C1.out.mono ?_
            rintro e wr3 ⟨rfl, F3, hF3, hf3⟩
            have hb3 : Below wy2.heap.size wy2 wr3 := Hbr.out.trans (hf3.below hsz2 HFk.out)
            obtain ⟨b9', o9', hA', _, e9⟩ := u64_at (R9y.out.below hb3) hlt9
            obtain ⟨rfl, rfl⟩ : b9 = b9' ∧ o9 = o9' := by simpa using hA'
            rw [Hy.out] at e9
            have c9r := (hb3.cell (p := ⟨q + 1, 0, none⟩) hqy1).trans cy9
            have HF3 := Lib.hid hF3
            have Hf3 := Lib.hid hf3
            have Hb3 := Lib.hid hb3
            clear hA' hF3 hf3 hb3
            go_wp2_with fail
            refine (C2.out _ _ HF3.out).mono ?_
            rintro e wr4 ⟨rfl, F4, hF4, hf4⟩
            have hFk3 : ∀ k, F3 k → wy2.heap.size ≤ k := fun k hk => (Hf3.out.new k hk).elim (HFk.out k) (fun h => Nat.le_trans hsz2 h)
            have hFk4 := Lib.hid (show ∀ k, F4 k → wy2.heap.size ≤ k from fun k hk => (hf4.new k hk).elim (hFk3 k) (fun h => Nat.le_trans Hb3.out.size h))
            have Hb4 := Lib.hid (Hb3.out.trans (hf4.below Hb3.out.size hFk3))
            have HF4 := Lib.hid hF4
            clear hF4 hf4 hFk3
            go_wp2_with fail
            go_roundw
            case rel => exact ⟨j + 1, F4, by go_num, by omega, by rw [Hn.out]; exact HF4.out, hFk4.out, Hb4.out⟩
            case measure => simp [intOf]; omega
          · obtain rfl : j = xs8.length := by omega
            have etk : (nums l).take xs8.length = nums l := List.take_of_length_le (by rw [nums_length, Hlen.out]; exact Nat.le_refl _)
            have hok := O8.out xs8.length
            rw [etk] at hF hok
            have hln : (wrN (nums l) k1 k2).L.length ≤ 200000 := by
              have h1 := hok.2
              have h2 := nums_length l
              have h3 := Hlen.out
              omega
            have hFlt := Lib.hid hF.lt
            have hout := Lib.hid (out_len (wrN (nums l) k1 k2))
            have z4 : (S (wrN (nums l) k1 k2).out).size ≤ 300000 := by rw [S_size]; have := hout.out; omega
            have z3 : (S [UInt8.ofNat k1, UInt8.ofNat k2]).size = 2 := by rw [S_size]; rfl
            have z0 : (S (uint l.length)).size ≤ 10 := by rw [S_size]; exact uint_len_ten (by omega)
            have z1 : (S (uint t0)).size ≤ 10 := by rw [S_size]; exact uint_len_ten (by omega)
            have z2 : (S (uint (foldN v0))).size ≤ 10 := by
              have hv1 := (Hok.out _ (List.getElem_mem (show 0 < l.length by omega))).2
              rw [Hv0.out] at hv1
              rw [S_size]; exact uint_len_ten (foldN_lt hv1.1 hv1.2)
            have BF := Lib.hid (fun w' (h : WrF wy2.heap.size (wrN (nums l) k1 k2) F w') => bytesF wy2.heap.size (wrN (nums l) k1 k2) F w' h hok.1 (by omega))
            have u1 : IntKind.u8.wrap (k1 : Int) = (k1 : Int) := by rw [IntKind.wrap_u8]; omega
            have u2 : IntKind.u8.wrap (k2 : Int) = (k2 : Int) := by rw [IntKind.wrap_u8]; omega
            have hcv := run_two_at (P := Try.prog) (src := 62) (dst := 9) (k1 : Int) (k2 : Int) (UInt8.ofNat k1) (UInt8.ofNat k2) (by rw [UInt8.toNat_ofNat']; omega) (by rw [UInt8.toNat_ofNat']; omega) Try.underlying62 Try.underlying5 Try.underlying9
            have Henc : Hid (S (uint l.length) ++ (S (uint t0) ++ S (uint (foldN v0))) ++ S [UInt8.ofNat k1, UInt8.ofNat k2] ++ S (wrN (nums l) k1 k2).out = S (encB l)) := Lib.hid (by
              have e1 : (sAt l 0).T.toNat = t0 := by rw [sAt_get (show 0 < l.length by omega), Ht0.out]; rfl
              have e2 : (sAt l 0).V = v0 := by rw [sAt_get (show 0 < l.length by omega), Hv0.out]
              unfold encB firstB bodyB
              rw [if_neg (by omega), if_neg (by omega), e1, e2, ← Hk.out.1, ← Hk.out.2]
              simp only [S_append, List.append_assoc])
            have HF := Lib.hid hF
            have HFk := Lib.hid hFk
            have Hbr := Lib.hid hbr
            clear etk hok hF hFk hbr hln N8 O8 X8 X9
            go_wp2_with fail
            have HFd : Hid (WrF wy2.heap.size (wrN (nums l) k1 k2) F wr2.drew) := Lib.hid (InF.below (wr_local _ _) HF.out (Below.refl _ _).drew)
            have HFa : Hid (WrF wy2.heap.size (wrN (nums l) k1 k2) F (wr2.alloc (.cells #[.int .u8 (k1 : Int), .int .u8 (k2 : Int)] 5)).drew) := Lib.hid (InF.below (wr_local _ _) HF.out (Below.one _ _).drew)
            go_region_with (first | (go_at_call 43; refine (BF.out _ HFd.out).mono ?_; rintro e w5 ⟨rfl, hs5⟩) | (go_at_call 43; refine (BF.out _ HFa.out).mono ?_; rintro e w5 ⟨rfl, hs5⟩; obtain ⟨q5, q6⟩ := cells_kept hs5 hFlt.out))
            all_goals
              have hb5 : Below wy2.heap.size wy2 w5 := by
                first
                  | exact Hbr.out.trans ((Stays.drewl hs5).below (fun k hk => ⟨Nat.lt_of_lt_of_le hk hsz2, .inl fun e => absurd (HFk.out k e) (by omega)⟩))
                  | exact (Hbr.out.trans ((Below.one _ _).drew.mono hsz2)).trans (hs5.below (fun k hk => ⟨by simp; omega, .inl fun e => absurd (HFk.out k e) (by omega)⟩))
              have hDlt := (Array.getElem?_eq_some_iff.1 hDy.out).1
              have hK := (hb5.block D hDlt).trans hDy.out
              have hK2 := fun o => ((hb5.trans ((Below.one w5 o).mono hb5.size)).block D hDlt).trans hDy.out
              have HK := Lib.hid hK
              have HK2 := Lib.hid hK2
              have Hb5 := Lib.hid hb5
              clear hK hK2 hb5
              go_wp2_with fail
              first
                | refine ⟨by simp, .inl ⟨_, _, rfl, run_takeDeferred HK.out, ?_⟩⟩
                | refine ⟨by simp, .inl ⟨_, _, rfl, run_takeDeferred (HK2.out _), ?_⟩⟩
              refine ⟨_, results_tmp2 rfl _ _ _, ?_, ?_⟩
              · have e2 : Ending.returned (.tuple #[.string (S (uint l.length) ++ (S (uint t0) ++ S (uint (foldN v0))) ++ S [UInt8.ofNat k1, UInt8.ofNat k2] ++ S (wrN (nums l) k1 k2).out), .int .i64 0]) = .returned (.tuple #[.string (S (encB l)), .int .i64 0]) := by rw [Henc.out]
                exact e2
              · have hw5 := HW.out.trans (Hb5.out.mono HW.out.size)
                have hw6 := fun o => hw5.trans ((Below.one w5 o).mono hw5.size)
                have hq := Hwq.out
                first
                  | exact below_put hw5 (by omega)
                  | exact below_put (hw6 _) (by omega)
end Go.Proofs.Ytmafdbdmmfpeeaa
