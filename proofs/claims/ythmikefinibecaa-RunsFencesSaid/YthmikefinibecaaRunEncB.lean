/-
  runs.Encode: rows that are right.
-/
import Derived.Test.YthmikefinibecaaRunEncA
import Derived.Test.YthmikefinibecaaStrW
namespace Go.Proofs.Ythmikefinibecaa
open Go Go.RowKit Go.Shelf
attribute [local go_sem] Oper.semAt_some

/-- as 'bodyPostM', of a body that does not panic -/
def bodyPostN (F : Fence) (n : Nat) (P : Program) (fn : Func) (R : Ending → World → Prop) : Exit → Act → World → Prop
  | .normal, a, w | .ret, a, w => LeavesInM F n P fn a.tmps R a.defers .returning w
  | _, _, _ => False
theorem bodyPostN.marks {F : Fence} {n : Nat} {P : Program} {fn : Func} {R : Ending → World → Prop} (e : Exit) (a : Act) (w : World) (h : bodyPostN F n P fn R e a w) : bodyPostM F n P fn R e a w := by
  cases e <;> first | exact h | exact False.elim h

/-- the fourth law, for one loop variable that is taken over into a slot of the body's -/
theorem range_one {P : Program} {n : Nat} {α : Type} {g : Operand} {p1 : Tmp} {assign body : Code} {Q : Exit → Act → World → Prop} {a : Act} {w : World} (d1 : Tmp)
    (h1 : 1 ≤ n) {gf : Nat} {lb : Array Value} (hg : a.eval g = .func (.func gf) #[] lb) (eg : ∀ args w, (callFunc gf args).run P w = .ok (.enter gf args) w)
    {e1 : α → Value} {Kp : World → World → Prop} {S Sp : List α → Prop} {N : Nat} (hseq : SeqStopsK Fence.wide (n - 1) P gf lb (fun x => #[e1 x]) Kp S Sp N w)
    (hKt : ∀ {A B C : World}, Kp A B → Kp B C → Kp A C) (hKb : ∀ (W : World) (l : Nat) (o o' : Obj), w.heap.size ≤ l → W.heap[l]? = some o → o.isCells = false → o.isWalk = false → Kp W (W.putObj l o'))
    (I : List α → World → Prop) (hI : OwnFrom w.heap.size I) (h0 : I [] w)
    (hassign : ∀ (l : Nat) (x : α) (W : World) (K : Act → World → Prop), K { tmps := (a.tmps.setIfInBounds p1 (e1 x)).setIfInBounds d1 (e1 x), defers := [] } W →
      assign.wpIn (Rnd l) (n - 1 - 1) P (Exit.then K (fun _ _ _ => False)) { tmps := a.tmps.setIfInBounds p1 (e1 x), defers := [] } W)
    (hbody : ∀ (l : Nat) (pre : List α) (x : α) (W : World), I pre W → pre.length < N →
      body.wpIn (Rnd l) (n - 1 - 1) P (ownPostK Kp I (fun _ _ _ => False) (pre ++ [x]) W) { tmps := (a.tmps.setIfInBounds p1 (e1 x)).setIfInBounds d1 (e1 x), defers := [] } W)
    (hdone : ∀ (D : Nat) (xs : List α) (W : World), w.heap.size ≤ D → S xs → I xs W → W.heap[D]? = some (.deferred (some [])) → Q .normal { a with defers := { target := .collected D, args := #[] } :: a.defers } W) :
    (Code.rangeFunc g #[p1] assign body).wp P Q a w :=
  wpIn_wide.1 (wpIn_rangeFunc_ownF (F := Fence.wide) rfl h1 hg trivial eg hseq hKt hKb (Below.refl _ _) (fun _ => rfl) I (fun _ _ _ => False) hI (fun _ _ _ _ _ hs _ _ => hs) h0
    (fun x => { tmps := (a.tmps.setIfInBounds p1 (e1 x)).setIfInBounds d1 (e1 x), defers := [] }) (fun l x W K hk => by have := hassign l x W K hk; simpa using this) hbody hdone (fun _ _ _ _ _ _ h _ => h.elim))
theorem call_in {P : Program} {l n : Nat} {f : FuncId} {args : Array Value} {w : World} {R R' : Ending → World → Prop} (h : Calls P f args w R) (hr : ∀ e w', R e w' → R' e w') : CallsIn (Rnd l) n P f args w R' :=
  (CallsIn.inRound l (callsIn_wide.2 h)).mono hr
theorem Bld2.more {R R' : Nat → Prop} {p q : Nat} {l m : List UInt8} {W : World} (h : Bld2 R p q l m W) (hr : ∀ k, k < W.heap.size → R' k → R k) : Bld2 R' p q l m W := by
  have hlt := h.lt
  obtain ⟨⟨u, v, a, b, h1, h2, h3, h4, h5, h6⟩, h7, h8, h9⟩ := h
  refine ⟨⟨u, v, a, b, h1, h2, h3, h4, h5.shift fun g hg hp => ?_, h6.shift fun g hg hp => ?_⟩, h7, fun e => h8 (hr p hlt.1 e), fun e => h9 (hr q hlt.2 e)⟩
  · exact h5.2 g hg (hp.imp (hr g (h5.1.lt g hg).2) id)
  · exact h6.2 g hg (hp.imp (hr g (h6.1.lt g hg).2) id)
/-- what is no cells is none of its -/
theorem Bld2.aside {R : Nat → Prop} {p q D : Nat} {l m : List UInt8} {W : World} {o : Obj} (h : Bld2 R p q l m W) (hD : W.heap[D]? = some o) (ho : o.isCells = false) : Bld2 (fun k => R k ∨ k = D) p q l m W := by
  obtain ⟨⟨u, v, a, b, h1, h2, h3, h4, h5, h6⟩, h7, h8, h9⟩ := h
  have ne : ∀ {k : Nat} {cs : Array Value} {t : TypeId} {f : Nat × Nat}, W.heap[k]? = some (.cells cs t f) → k ≠ D := fun hk e => by
    subst e
    rw [hk] at hD
    obtain rfl := Option.some.inj hD
    cases ho
  have nl : ∀ {v : Value} {n : Nat} {zs : List Value} {Pr : Nat → Prop}, Lie Pr 5 1 v n zs W → ∀ k, v.ownBlock = some k → k ≠ D := fun {v n zs Pr} hl k hk => by
    rcases hl.1.2 with ⟨e, _⟩ | ⟨g', cap, cur, e, _, hgg, _⟩
    · rw [e] at hk; simp [Value.ownBlock] at hk
    · rw [e] at hk
      obtain rfl : g' = k := by simpa [Value.ownBlock] using hk
      exact ne hgg
  refine ⟨⟨u, v, a, b, h1, h2, h3, h4, h5.shift fun g hg hp => ?_, h6.shift fun g hg hp => ?_⟩, h7, fun e => e.elim h8 (ne h3), fun e => e.elim h9 (ne h4)⟩
  · rcases hp with (h | h) | h
    · exact h5.2 g hg (.inl h)
    · exact nl h5 g hg h
    · exact h5.2 g hg (.inr h)
  · rcases hp with (h | h) | h
    · exact h6.2 g hg (.inl h)
    · exact nl h6 g hg h
    · exact h6.2 g hg (.inr h)
theorem below_put {B D : Nat} {o : Obj} {w w' : World} (h : Below B w w') (hD : B ≤ D) : Below B w (w'.putObj D o) :=
  ⟨h.os, h.tape, h.output, by simp [World.putObj]; exact h.size, fun k hk => (World.putObj_heap_other (by omega)).trans (h.block k hk)⟩
/-- what holds between two rounds -/
def EncI (R : Nat → Prop) (q : Nat) (rows : List Row) (w5 : World) (pre : List Nat) (W : World) : Prop :=
  Bld2 R q (q + 1) (uint rows.length ++ headsB rows (pre.map fun i => min i (chN rows.length - 1))) (bodiesB rows (pre.map fun i => min i (chN rows.length - 1))) W ∧ Stays R w5 W
theorem encI_own {R : Nat → Prop} {q : Nat} {rows : List Row} {w5 : World} (hR : Old R w5) : OwnFrom w5.heap.size (EncI R q rows w5) := by
  intro pre W W' row hs hg hr
  have low : ∀ k, k < w5.heap.size → W'.heap[k]? = W.heap[k]? := fun k hk => hg.block k (Nat.lt_of_lt_of_le hk hs.2.size) fun e => by have := (hr k e.symm).1; omega
  refine ⟨hs.1.later fun k cs t f hk _ => ?_, ⟨hg.os.trans hs.2.os, hg.tape.trans hs.2.tape, hg.output.trans hs.2.output, Nat.le_trans hs.2.size hg.size, fun k hk => (low k (hR k hk)).trans (hs.2.block k hk)⟩⟩
  refine hg.block k (Array.getElem?_eq_some_iff.1 hk).1 fun e => ?_
  obtain ⟨-, o, ho, hc⟩ := hr k e.symm
  rw [hk] at ho
  obtain rfl := Option.some.inj ho
  cases hc

set_option linter.unusedSimpArgs false in
set_option maxRecDepth 100000 in
set_option maxHeartbeats 4000000 in
theorem enc_yes (A : Option Addr) (c : Nat) (rows : List Row) (w : World) (hrd : Rd w 3 A rows.length (rows.flatMap rowCells)) (hok : ∀ x ∈ rows, Row.ok x) (hl : rows.length ≤ 5000) (hc : rows.length ≤ c) (hcm : c ≤ maxLen) (hg : goodR rows = true) :
    Calls Try.prog 15 #[.slice A rows.length c] w fun e w' => e = .returned (.tuple #[.string (S (encR rows)), .int .i64 0]) ∧ Below w.heap.size w w' := by
  have Hrd := Lib.hid hrd
  have Hok := Lib.hid hok
  have Hg := Lib.hid hg
  have Hcm := Lib.hid hcm
  have Hgood := Lib.hid (fun j hj => good_at hg (j := j) hj)
  obtain ⟨b, off, hA⟩ : ∃ b off, 0 < rows.length → A = some ⟨b, off, none⟩ ∧ b < w.heap.size := by
    by_cases h0 : 0 < rows.length
    · obtain ⟨b, off, h1, h2, -⟩ := hrd.2 h0
      exact ⟨b, off, fun _ => ⟨h1, h2⟩⟩
    · exact ⟨0, 0, fun h => absurd h h0⟩
  have HA := Lib.hid hA
  have k9 : decide ((5000 : Int) < (rows.length : Int)) = false := decide_eq_false (by omega)
  have k10 : decide (5000 < rows.length) = false := decide_eq_false (by omega)
  clear hrd hg hok hcm hA
  refine (callsIn_wide (n := 4)).1 (callsIn_of_wp_marks Try.func15 rfl trivial (wpIn_mono ?_ bodyPostN.marks))
  simp only [Try.ntmps15, List.size_toArray, List.length_cons, List.length_nil, Nat.reduceAdd, Nat.reduceSub, Array.replicate_succ, Array.replicate_zero, List.push_toArray, List.append_toArray, List.nil_append, List.cons_append]
  refine wpIn_wide.2 ?_
  go_wp2_with fail
  go_loopw [16] (fun ix wr => ∃ i : Nat, ix = .int .i64 i ∧ i ≤ rows.length ∧ Below w.heap.size w wr) (fun ix _ => rows.length - (intOf ix).toNat)
  case atStart => exact ⟨0, rfl, by omega, Below.refl _ _⟩
  case round =>
    obtain ⟨i, rfl, him, hbel⟩ := hrel
    have Hbel := Lib.hid hbel
    clear hbel
    by_cases hlt : i < rows.length
    · obtain ⟨hA0, hb⟩ := HA.out (by omega)
      subst hA0
      have hil : i < rows.length := hlt
      obtain ⟨b', off', hA', hgb, f0, f1, f2⟩ := row_at (Hrd.out.below Hbel.out) hil
      obtain ⟨rfl, rfl⟩ : b = b' ∧ off = off' := by simpa using hA'
      obtain ⟨x, hx⟩ : ∃ x, rows[i] = x := ⟨_, rfl⟩
      rw [hx] at f0 f1 f2
      have hrx : rAt rows i = x := by rw [rAt_get hil, hx]
      have hi1 : (i : Int) < rows.length := by omega
      have hsz := Hbel.out.size
      have Hb1 := Lib.hid (Hbel.out.alloc hsz (.cells #[.int .i64 x.T, .int .i64 x.ID, .int .i64 x.V] 36))
      have hrow := heap_alloc_new wr (.cells #[.int .i64 x.T, .int .i64 x.ID, .int .i64 x.V] 36)
      have hglt : wr.heap.size < (wr.alloc (.cells #[.int .i64 x.T, .int .i64 x.ID, .int .i64 x.V] 36)).heap.size := by simp
      obtain ⟨T, I, V⟩ := x
      simp only at f0 f1 f2 Hb1 hrow hglt
      go_wp2_with fail
      generalize wr.alloc (.cells #[.int .i64 T, .int .i64 I, .int .i64 V] 36) = w6 at *
      generalize wr.heap.size = g at *
      have r0 : w6.cell? ⟨g, 0, none⟩ = some (.int .i64 T) := (Lib.cell_of_heap hrow 0).trans rfl
      have r1 : w6.cell? ⟨g, 1, none⟩ = some (.int .i64 I) := (Lib.cell_of_heap hrow 1).trans rfl
      have r2 : w6.cell? ⟨g, 2, none⟩ = some (.int .i64 V) := (Lib.cell_of_heap hrow 2).trans rfl
      clear hA' f0 f1 f2 hrow hgb
      have hgd := Hgood.out i hlt
      unfold GoodAt at hgd
      rw [hrx, rngB_iff] at hgd
      simp only at hgd
      obtain ⟨⟨h1, h2, h3, h4⟩, h55⟩ := hgd
      have k1 : decide (T < 0) = false := decide_eq_false (by omega)
      have k2 : decide ((1099511627776 : Int) ≤ T) = false := decide_eq_false (by omega)
      have k3 : decide (I < 0) = false := decide_eq_false (by omega)
      have k4 : decide ((200 : Int) ≤ I) = false := decide_eq_false (by omega)
      clear h1 h2 h3 h4
      by_cases h0 : i = 0
      · subst h0
        have k5 : decide ((0 : Int) < ((0 : Nat) : Int)) = false := by decide
        have k6 : decide (0 < 0) = false := by decide
        have k7 : decide ((0 : Int) < 0) = false := by decide
        go_quiet (fail)
        go_wp2_with fail
        go_roundw
        case rel => exact ⟨0 + 1, by go_num, by omega, below_drewN Hb1.out _⟩
        case measure => simp [intOf]; omega
      · have hip : 0 < i := by omega
        obtain ⟨b', off', hA', -, s0, s1, s2⟩ := row_at (Hrd.out.below Hb1.out) (show i - 1 < rows.length by omega)
        obtain ⟨rfl, rfl⟩ : b = b' ∧ off = off' := by simpa using hA'
        obtain ⟨y, hy⟩ : ∃ y, rows[i - 1] = y := ⟨_, rfl⟩
        rw [hy] at s0 s1 s2
        have hry : rAt rows (i - 1) = y := by rw [rAt_get (show i - 1 < rows.length by omega), hy]
        have k5 : decide ((0 : Int) < (i : Int)) = true := decide_eq_true (by omega)
        have k6 : decide (0 < i) = true := decide_eq_true hip
        have q1 : (0 : Int) ≤ (i : Int) - 1 := by omega
        have q2 : (i : Int) - 1 < rows.length := by omega
        have q3 : IntKind.i64.wrap ((i : Int) - 1) = (i : Int) - 1 := by rw [IntKind.wrap_i64]; omega
        have q4 : ((i : Int) - 1).toNat = i - 1 := by omega
        have q5 : (1 : Int) ≤ i := by omega
        have CB : ∀ ww, Calls Try.prog 26 #[rowVal ⟨T, I, V⟩, rowVal y] ww fun e w' => e = .returned (.bool (behR ⟨T, I, V⟩ y)) ∧ Below ww.heap.size ww w' := fun ww => behind_any _ _ ww
        have hbe : behR ⟨T, I, V⟩ y = true := by
          rw [hry] at h55
          exact h55.resolve_left h0
        rw [hbe] at CB
        have HCB := Lib.hid CB
        clear CB h55 hbe h0 hy hry hrx hx hA' hip
        refine wp_region_held_drew (S := fun w' => w'.cell? ⟨g, 0, none⟩ = some (.int .i64 T) ∧ w'.cell? ⟨g, 1, none⟩ = some (.int .i64 I) ∧ w'.cell? ⟨g, 2, none⟩ = some (.int .i64 V) ∧ w'.cell? ⟨b, off + (i - 1) * 3, none⟩ = some (.int .i64 y.T) ∧ w'.cell? ⟨b, off + (i - 1) * 3 + 1, none⟩ = some (.int .i64 y.ID) ∧ w'.cell? ⟨b, off + (i - 1) * 3 + 2, none⟩ = some (.int .i64 y.V)) (by kernel_rfl) ?_ (fun hHeld => ?_)
        · exact ⟨r0, r1, r2, s0, s1, s2⟩
        refine wpAnyH_take (i := 0) (oi := _) (v := ?_) (by simp only [List.getElem?_toArray, List.getElem?_cons_succ, List.getElem?_cons_zero]; rfl) (by kernel_rfl) (by kernel_rfl) (by kernel_rfl) (by exact fun _ _ _ h => h) (Or.inl ⟨by rfl, ?_⟩) (by assumption) ?_
        rotate_left
        · (intro w hSw; (try dsimp only at hSw); go_simp) <;> with_reducible rfl
        try simp only [Act.put, List.setIfInBounds_toArray, List.set_cons_zero, List.set_cons_succ]
        refine wpAnyH_take (i := 1) (oi := _) (v := ?_) (by simp only [List.getElem?_toArray, List.getElem?_cons_succ, List.getElem?_cons_zero]; rfl) (by kernel_rfl) (by kernel_rfl) (by kernel_rfl) (by exact fun _ _ _ h => h) (Or.inl ⟨by rfl, ?_⟩) (by assumption) ?_
        rotate_left
        · (intro w hSw; (try dsimp only at hSw); go_simp) <;> with_reducible rfl
        try simp only [Act.put, List.setIfInBounds_toArray, List.set_cons_zero, List.set_cons_succ]
        refine wpAnyH_take (i := 2) (oi := _) (v := ?_) (by simp only [List.getElem?_toArray, List.getElem?_cons_succ, List.getElem?_cons_zero]; rfl) (by kernel_rfl) (by kernel_rfl) (by kernel_rfl) (by exact fun _ _ _ h => h) (Or.inl ⟨by rfl, ?_⟩) (by assumption) ?_
        rotate_left
        · (intro w hSw; (try dsimp only at hSw); go_simp) <;> with_reducible rfl
        try simp only [Act.put, List.setIfInBounds_toArray, List.set_cons_zero, List.set_cons_succ]
        refine wpAnyH_take (i := 3) (oi := _) (v := ?_) (by simp only [List.getElem?_toArray, List.getElem?_cons_succ, List.getElem?_cons_zero]; rfl) (by kernel_rfl) (by kernel_rfl) (by kernel_rfl) (by exact fun _ _ _ h => h) (Or.inl ⟨by rfl, ?_⟩) (by assumption) ?_
        rotate_left
        · (intro w hSw; (try dsimp only at hSw); go_simp) <;> with_reducible rfl
        try simp only [Act.put, List.setIfInBounds_toArray, List.set_cons_zero, List.set_cons_succ]
        refine wpAnyH_take (i := 4) (oi := _) (v := ?_) (by simp only [List.getElem?_toArray, List.getElem?_cons_succ, List.getElem?_cons_zero]; rfl) (by kernel_rfl) (by kernel_rfl) (by kernel_rfl) (by exact fun _ _ _ h => h) (Or.inl ⟨by rfl, ?_⟩) (by assumption) ?_
        rotate_left
        · (intro w hSw; (try dsimp only at hSw); go_simp) <;> with_reducible rfl
        try simp only [Act.put, List.setIfInBounds_toArray, List.set_cons_zero, List.set_cons_succ]
        refine wpAnyH_take (i := 5) (oi := _) (v := ?_) (by simp only [List.getElem?_toArray, List.getElem?_cons_succ, List.getElem?_cons_zero]; rfl) (by kernel_rfl) (by kernel_rfl) (by kernel_rfl) (by exact fun _ _ _ h => h) (Or.inl ⟨by rfl, ?_⟩) (by assumption) ?_
        rotate_left
        · (intro w hSw; (try dsimp only at hSw); go_simp) <;> with_reducible rfl
        try simp only [Act.put, List.setIfInBounds_toArray, List.set_cons_zero, List.set_cons_succ]
        refine wpAnyH_take (i := 6) (oi := _) (v := ?_) (by simp only [List.getElem?_toArray, List.getElem?_cons_succ, List.getElem?_cons_zero]; rfl) (by kernel_rfl) (by kernel_rfl) (by kernel_rfl) (by exact fun _ _ _ h => h) (Or.inl ⟨by rfl, ?_⟩) (by assumption) ?_
        rotate_left
        · (intro w hSw; (try dsimp only at hSw); go_simp) <;> with_reducible rfl
        try simp only [Act.put, List.setIfInBounds_toArray, List.set_cons_zero, List.set_cons_succ]
        refine wpAnyH_take (i := 7) (oi := _) (v := ?_) (by simp only [List.getElem?_toArray, List.getElem?_cons_succ, List.getElem?_cons_zero]; rfl) (by kernel_rfl) (by kernel_rfl) (by kernel_rfl) (by exact fun _ _ _ h => h) (Or.inl ⟨by rfl, ?_⟩) (by assumption) ?_
        rotate_left
        · (intro w hSw; (try dsimp only at hSw); go_simp) <;> with_reducible rfl
        try simp only [Act.put, List.setIfInBounds_toArray, List.set_cons_zero, List.set_cons_succ]
        refine wpAnyH_take (i := 8) (oi := _) (v := ?_) (by simp only [List.getElem?_toArray, List.getElem?_cons_succ, List.getElem?_cons_zero]; rfl) (by kernel_rfl) (by kernel_rfl) (by kernel_rfl) (by exact fun _ _ _ h => h) (Or.inl ⟨by rfl, ?_⟩) (by assumption) ?_
        rotate_left
        · (intro w hSw; (try dsimp only at hSw); go_simp) <;> with_reducible rfl
        try simp only [Act.put, List.setIfInBounds_toArray, List.set_cons_zero, List.set_cons_succ]
        refine wpAnyH_take (i := 9) (oi := _) (v := ?_) (by simp only [List.getElem?_toArray, List.getElem?_cons_succ, List.getElem?_cons_zero]; rfl) (by kernel_rfl) (by kernel_rfl) (by kernel_rfl) (by exact fun _ _ _ h => h) (Or.inl ⟨by rfl, ?_⟩) (by assumption) ?_
        rotate_left
        · (intro w hSw; (try dsimp only at hSw); go_simp) <;> with_reducible rfl
        try simp only [Act.put, List.setIfInBounds_toArray, List.set_cons_zero, List.set_cons_succ]
        refine wpAnyH_take (i := 10) (oi := _) (v := ?_) (by simp only [List.getElem?_toArray, List.getElem?_cons_succ, List.getElem?_cons_zero]; rfl) (by kernel_rfl) (by kernel_rfl) (by kernel_rfl) (by exact fun _ _ _ h => h) (Or.inl ⟨by rfl, ?_⟩) (by assumption) ?_
        rotate_left
        · (intro w hSw; (try dsimp only at hSw); go_simp) <;> with_reducible rfl
        try simp only [Act.put, List.setIfInBounds_toArray, List.set_cons_zero, List.set_cons_succ]
        refine wpAnyH_take (i := 11) (oi := _) (v := ?_) (by simp only [List.getElem?_toArray, List.getElem?_cons_succ, List.getElem?_cons_zero]; rfl) (by kernel_rfl) (by kernel_rfl) (by kernel_rfl) (by exact fun _ _ _ h => h) (Or.inl ⟨by rfl, ?_⟩) (by assumption) ?_
        rotate_left
        · (intro w hSw; (try dsimp only at hSw); go_simp) <;> with_reducible rfl
        try simp only [Act.put, List.setIfInBounds_toArray, List.set_cons_zero, List.set_cons_succ]
        refine wpAnyH_take (i := 12) (oi := _) (v := ?_) (by simp only [List.getElem?_toArray, List.getElem?_cons_succ, List.getElem?_cons_zero]; rfl) (by kernel_rfl) (by kernel_rfl) (by kernel_rfl) (by exact fun _ _ _ h => h) (Or.inl ⟨by rfl, ?_⟩) (by assumption) ?_
        rotate_left
        · (intro w hSw; (try dsimp only at hSw); go_simp) <;> with_reducible rfl
        try simp only [Act.put, List.setIfInBounds_toArray, List.set_cons_zero, List.set_cons_succ]
        refine wpAnyH_take (i := 13) (oi := _) (v := ?_) (by simp only [List.getElem?_toArray, List.getElem?_cons_succ, List.getElem?_cons_zero]; rfl) (by kernel_rfl) (by kernel_rfl) (by kernel_rfl) (by exact fun _ _ _ h => h) (Or.inl ⟨by rfl, ?_⟩) (by assumption) ?_
        rotate_left
        · (intro w hSw; (try dsimp only at hSw); go_simp) <;> with_reducible rfl
        try simp only [Act.put, List.setIfInBounds_toArray, List.set_cons_zero, List.set_cons_succ]
        refine wpAnyH_take (i := 14) (oi := _) (v := ?_) (by simp only [List.getElem?_toArray, List.getElem?_cons_succ, List.getElem?_cons_zero]; rfl) (by kernel_rfl) (by kernel_rfl) (by kernel_rfl) (by exact fun _ _ _ h => h) (Or.inl ⟨by rfl, ?_⟩) (by assumption) ?_
        rotate_left
        · (intro w hSw; (try dsimp only at hSw); go_simp) <;> with_reducible rfl
        try simp only [Act.put, List.setIfInBounds_toArray, List.set_cons_zero, List.set_cons_succ]
        refine wpAnyH_take (i := 15) (oi := _) (v := ?_) (by simp only [List.getElem?_toArray, List.getElem?_cons_succ, List.getElem?_cons_zero]; rfl) (by kernel_rfl) (by kernel_rfl) (by kernel_rfl) (by exact fun _ _ _ h => h) (Or.inl ⟨by rfl, ?_⟩) (by assumption) ?_
        rotate_left
        · (intro w hSw; (try dsimp only at hSw); go_simp) <;> with_reducible rfl
        try simp only [Act.put, List.setIfInBounds_toArray, List.set_cons_zero, List.set_cons_succ]
        refine wpAnyH_take (i := 16) (oi := _) (v := ?_) (by simp only [List.getElem?_toArray, List.getElem?_cons_succ, List.getElem?_cons_zero]; rfl) (by kernel_rfl) (by kernel_rfl) (by kernel_rfl) (by exact fun _ _ _ h => h) (Or.inl ⟨by rfl, ?_⟩) (by assumption) ?_
        rotate_left
        · (intro w hSw; (try dsimp only at hSw); go_simp) <;> with_reducible rfl
        try simp only [Act.put, List.setIfInBounds_toArray, List.set_cons_zero, List.set_cons_succ]
        refine wpAnyH_take (i := 17) (oi := _) (v := ?_) (by simp only [List.getElem?_toArray, List.getElem?_cons_succ, List.getElem?_cons_zero]; rfl) (by kernel_rfl) (by kernel_rfl) (by kernel_rfl) (by exact fun _ _ _ h => h) (Or.inl ⟨by rfl, ?_⟩) (by assumption) ?_
        rotate_left
        · (intro w hSw; (try dsimp only at hSw); go_simp) <;> with_reducible rfl
        try simp only [Act.put, List.setIfInBounds_toArray, List.set_cons_zero, List.set_cons_succ]
        refine wpAnyH_take (i := 18) (oi := _) (v := ?_) (by simp only [List.getElem?_toArray, List.getElem?_cons_succ, List.getElem?_cons_zero]; rfl) (by kernel_rfl) (by kernel_rfl) (by kernel_rfl) (by exact fun _ _ _ h => h) (Or.inl ⟨by rfl, ?_⟩) (by assumption) ?_
        rotate_left
        · (intro w hSw; (try dsimp only at hSw); go_simp) <;> with_reducible rfl
        try simp only [Act.put, List.setIfInBounds_toArray, List.set_cons_zero, List.set_cons_succ]
        refine wpAnyH_take (i := 19) (oi := _) (v := ?_) (by simp only [List.getElem?_toArray, List.getElem?_cons_succ, List.getElem?_cons_zero]; rfl) (by kernel_rfl) (by kernel_rfl) (by kernel_rfl) (by exact fun _ _ _ h => h) (Or.inl ⟨by rfl, ?_⟩) (by assumption) ?_
        rotate_left
        · (intro w hSw; (try dsimp only at hSw); go_simp) <;> with_reducible rfl
        try simp only [Act.put, List.setIfInBounds_toArray, List.set_cons_zero, List.set_cons_succ]
        refine wpAnyH_take (i := 20) (oi := _) (v := ?_) (by simp only [List.getElem?_toArray, List.getElem?_cons_succ, List.getElem?_cons_zero]; rfl) (by kernel_rfl) (by kernel_rfl) (by kernel_rfl) (by exact fun _ _ _ h => h) (Or.inl ⟨by rfl, ?_⟩) (by assumption) ?_
        rotate_left
        · (intro w hSw; (try dsimp only at hSw); go_simp) <;> with_reducible rfl
        try simp only [Act.put, List.setIfInBounds_toArray, List.set_cons_zero, List.set_cons_succ]
        refine wpAnyH_take (i := 21) (oi := _) (v := ?_) (by simp only [List.getElem?_toArray, List.getElem?_cons_succ, List.getElem?_cons_zero]; rfl) (by kernel_rfl) (by kernel_rfl) (by kernel_rfl) (by exact fun _ _ _ h => h) (Or.inl ⟨by rfl, ?_⟩) (by assumption) ?_
        rotate_left
        · (intro w hSw; (try dsimp only at hSw); go_simp) <;> with_reducible rfl
        try simp only [Act.put, List.setIfInBounds_toArray, List.set_cons_zero, List.set_cons_succ]
        refine wpAnyH_take (i := 22) (oi := _) (v := ?_) (by simp only [List.getElem?_toArray, List.getElem?_cons_succ, List.getElem?_cons_zero]; rfl) (by kernel_rfl) (by kernel_rfl) (by kernel_rfl) (by exact fun _ _ _ h => h) (Or.inl ⟨by rfl, ?_⟩) (by assumption) ?_
        rotate_left
        · (intro w hSw; (try dsimp only at hSw); go_simp) <;> with_reducible rfl
        try simp only [Act.put, List.setIfInBounds_toArray, List.set_cons_zero, List.set_cons_succ]
        refine wpAnyH_take (i := 23) (oi := _) (v := ?_) (by simp only [List.getElem?_toArray, List.getElem?_cons_succ, List.getElem?_cons_zero]; rfl) (by kernel_rfl) (by kernel_rfl) (by kernel_rfl) (by exact fun _ _ _ h => h) (Or.inl ⟨by rfl, ?_⟩) (by assumption) ?_
        rotate_left
        · (intro w hSw; (try dsimp only at hSw); go_simp) <;> with_reducible rfl
        try simp only [Act.put, List.setIfInBounds_toArray, List.set_cons_zero, List.set_cons_succ]
        refine wpAnyH_take (i := 24) (oi := _) (v := ?_) (by simp only [List.getElem?_toArray, List.getElem?_cons_succ, List.getElem?_cons_zero]; rfl) (by kernel_rfl) (by kernel_rfl) (by kernel_rfl) (by exact fun _ _ _ h => h) (Or.inl ⟨by rfl, ?_⟩) (by assumption) ?_
        rotate_left
        · (intro w hSw; (try dsimp only at hSw); go_simp) <;> with_reducible rfl
        try simp only [Act.put, List.setIfInBounds_toArray, List.set_cons_zero, List.set_cons_succ]
        refine wpAnyH_take (i := 25) (oi := _) (v := ?_) (by simp only [List.getElem?_toArray, List.getElem?_cons_succ, List.getElem?_cons_zero]; rfl) (by kernel_rfl) (by kernel_rfl) (by kernel_rfl) (by exact fun _ _ _ h => h) (Or.inl ⟨by rfl, ?_⟩) (by assumption) ?_
        rotate_left
        · (intro w hSw; (try dsimp only at hSw); go_simp) <;> with_reducible rfl
        try simp only [Act.put, List.setIfInBounds_toArray, List.set_cons_zero, List.set_cons_succ]
        refine wpAnyH_take (i := 26) (oi := _) (v := ?_) (by simp only [List.getElem?_toArray, List.getElem?_cons_succ, List.getElem?_cons_zero]; rfl) (by kernel_rfl) (by kernel_rfl) (by kernel_rfl) (by exact fun _ _ _ h => h) (Or.inl ⟨by rfl, ?_⟩) (by assumption) ?_
        rotate_left
        · (intro w hSw; (try dsimp only at hSw); go_simp) <;> with_reducible rfl
        try simp only [Act.put, List.setIfInBounds_toArray, List.set_cons_zero, List.set_cons_succ]
        refine wpAnyH_take (i := 27) (oi := _) (v := ?_) (by simp only [List.getElem?_toArray, List.getElem?_cons_succ, List.getElem?_cons_zero]; rfl) (by kernel_rfl) (by kernel_rfl) (by kernel_rfl) (by exact fun _ _ _ h => h) (Or.inl ⟨by rfl, ?_⟩) (by assumption) ?_
        rotate_left
        · (intro w hSw; (try dsimp only at hSw); go_simp) <;> with_reducible rfl
        try simp only [Act.put, List.setIfInBounds_toArray, List.set_cons_zero, List.set_cons_succ]
        refine wpAnyH_ready (rs := [28]) (by kernel_rfl) (by simp) ?_
        refine AllReadyH.cons (o := _) (by simp only [List.getElem?_toArray, List.getElem?_cons_succ, List.getElem?_cons_zero]; rfl) (fun K hK => ?_) AllReadyH.nil
        go_simp
        refine (HCB.out _).mono ?_
        rintro e wx1 ⟨rfl, hx1⟩
        have Hx1 := Lib.hid hx1
        clear hx1
        go_wp2_with fail
        refine hK.out _ _ ?_ (fun hHeld => ?_)
        · exact ⟨keepc Hx1.out hHeld.1, keepc Hx1.out hHeld.2.1, keepc Hx1.out hHeld.2.2.1, keepc Hx1.out hHeld.2.2.2.1, keepc Hx1.out hHeld.2.2.2.2.1, keepc Hx1.out hHeld.2.2.2.2.2⟩
        clear hK K
        try simp only [Act.put, List.setIfInBounds_toArray, List.set_cons_zero, List.set_cons_succ]
        refine wpAnyH_take (i := 29) (oi := _) (v := ?_) (by simp only [List.getElem?_toArray, List.getElem?_cons_succ, List.getElem?_cons_zero]; rfl) (by kernel_rfl) (by kernel_rfl) (by kernel_rfl) (by exact fun _ _ _ h => h) (Or.inl ⟨by rfl, ?_⟩) (by assumption) ?_
        rotate_left
        · (intro w hSw; (try dsimp only at hSw); go_simp) <;> with_reducible rfl
        try simp only [Act.put, List.setIfInBounds_toArray, List.set_cons_zero, List.set_cons_succ]
        refine wpAnyH_take (i := 30) (oi := _) (v := ?_) (by simp only [List.getElem?_toArray, List.getElem?_cons_succ, List.getElem?_cons_zero]; rfl) (by kernel_rfl) (by kernel_rfl) (by kernel_rfl) (by exact fun _ _ _ h => h) (Or.inl ⟨by rfl, ?_⟩) (by assumption) ?_
        rotate_left
        · (intro w hSw; (try dsimp only at hSw); go_simp) <;> with_reducible rfl
        try simp only [Act.put, List.setIfInBounds_toArray, List.set_cons_zero, List.set_cons_succ]
        refine wpAnyH_take (i := 31) (oi := _) (v := ?_) (by simp only [List.getElem?_toArray, List.getElem?_cons_succ, List.getElem?_cons_zero]; rfl) (by kernel_rfl) (by kernel_rfl) (by kernel_rfl) (by exact fun _ _ _ h => h) (Or.inl ⟨by rfl, ?_⟩) (by assumption) ?_
        rotate_left
        · (intro w hSw; (try dsimp only at hSw); go_simp) <;> with_reducible rfl
        try simp only [Act.put, List.setIfInBounds_toArray, List.set_cons_zero, List.set_cons_succ]
        refine wpAnyH_done (by kernel_rfl) ?_ _
        go_wp2_with fail
        go_roundw
        case rel => exact ⟨i + 1, by go_num, by omega, Hb1.out.trans (Hx1.out.drewl.mono Hb1.out.size)⟩
        case measure => simp [intOf]; omega
    · obtain rfl : i = rows.length := by omega
      have hsz := Hbel.out.size
      have Hq := Lib.hid (bld2_new (R := fun k => k < wr.heap.size) wr fun k hk => hk)
      have Hb2 := Lib.hid (Hbel.out.trans ((below_two wr (.cells #[.pointer none, .slice none 0 0] 61) (.cells #[.pointer none, .slice none 0 0] 61)).mono hsz))
      have HS2 := Lib.hid (show Stays (fun k => k < wr.heap.size) wr ((wr.alloc (.cells #[.pointer none, .slice none 0 0] 61)).alloc (.cells #[.pointer none, .slice none 0 0] 61)) from Stays.of (below_two wr (.cells #[.pointer none, .slice none 0 0] 61) (.cells #[.pointer none, .slice none 0 0] 61)) fun k hk => hk)
      have U0 := Lib.hid (fun w => uint_any rows.length w (by omega))
      have hcv : IntKind.u64.wrap (rows.length : Int) = rows.length := by rw [IntKind.wrap_u64]; omega
      clear hlt him Hgood
      go_wp2_with fail
      generalize (wr.alloc (.cells #[.pointer none, .slice none 0 0] 61)).alloc (.cells #[.pointer none, .slice none 0 0] 61) = w2 at *
      refine (U0.out _).mono ?_
      rintro e w3 ⟨rfl, hb3⟩
      have Hq3 := Lib.hid (Hq.out.below hb3)
      have Hb3 := Lib.hid (Hb2.out.trans (hb3.mono Hb2.out.size))
      have hs3 := Lib.hid (HS2.out.trans (Stays.of hb3 fun k hk => Nat.lt_of_lt_of_le hk HS2.out.size))
      have z0 : (S (uint rows.length)).size ≤ 10 := by rw [S_size]; exact uint_len_ten (by omega)
      have HW := Lib.hid (Hq3.out.write (S (uint rows.length)) (by simp; omega) fun k hk => Nat.lt_of_lt_of_le hk hs3.out.size)
      clear hb3 Hq Hb2 HS2 U0
      go_wp2_with fail
      refine HW.out.mono ?_
      rintro e w4 ⟨⟨v4, rfl⟩, hq4, hev4⟩
      have Hq4 := Lib.hid hq4
      have Hs4 := Lib.hid (hs3.out.trans hev4.st)
      clear hq4 hev4 HW Hq3
      go_wp2_with fail
      refine (chunk_any _ _ _ _).mono ?_
      rintro e w5 ⟨rfl, hw5⟩
      obtain ⟨q, hqe⟩ : ∃ q, wr.heap.size = q := ⟨_, rfl⟩
      obtain ⟨Bs, hBs⟩ : ∃ Bs, w4.heap.size = Bs := ⟨_, rfl⟩
      have hbl5 : Below w4.heap.size w4 w5 := by rw [hw5]; exact below_two _ _ _
      have hs5 : w5.heap.size = Bs + 2 := by rw [hw5, ← hBs]; simp
      have n1 : w5.heap[Bs]? = some (.cells #[.slice A rows.length c] 28 (0, 0)) := by
        rw [hw5, ← hBs]
        exact (Lib.alloc_old _ _ _ (by simp)).trans (heap_alloc_new w4 _)
      have n2 : w5.heap[Bs + 1]? = some (.cells #[.int .i64 16] 3 (0, 0)) := by
        have := heap_alloc_new (w4.alloc (.cells #[.slice A rows.length c] 28)) (.cells #[.int .i64 16] 3)
        rw [World.size_alloc, ← hw5, hBs] at this
        exact this
      have hlt5 := Hq4.out.lt
      rw [hBs, hqe] at hlt5
      have Hq5 := Lib.hid ((Hq4.out.more (R' := fun k => k < q ∨ k = Bs ∨ k = Bs + 1) fun k hk hp => by rw [hBs] at hk; rw [hqe]; omega).below hbl5)
      have HS5 := Lib.hid (Hs4.out.trans (Stays.of hbl5 fun k hk => by rw [hBs]; rw [hqe] at hk; omega))
      have c0 : w5.cell? ⟨Bs, 0, none⟩ = some (.slice A rows.length c) := (Lib.cell_of_heap n1 0).trans rfl
      have c1 : w5.cell? ⟨Bs + 1, 0, none⟩ = some (.int .i64 16) := (Lib.cell_of_heap n2 0).trans rfl
      have hR5 : Old (fun k => k < q ∨ k = Bs ∨ k = Bs + 1) w5 := fun k hk => by omega
      have HA1 := Lib.hid (show 0 < rows.length → A = some ⟨b, off, none⟩ from fun h => (HA.out h).1)
      rw [hqe] at Hq5 HS5
      have HR5 := Lib.hid hR5
      have Hqe := Lib.hid hqe
      clear hw5 hbl5 n1 n2 hR5 Hq4 Hs4
      simp only [hBs]
      rw [hqe]
      clear hBs hqe
      go_wp2_with fail
      refine range_one 8 (n := 4) (by decide) (gf := 42) (lb := #[.pointer (some ⟨Bs, 0, none⟩), .pointer (some ⟨Bs + 1, 0, none⟩)]) rfl (enters_of Try.func42 (by kernel_rfl) rfl)
        (chunk_stops 3 (fun k => k < q ∨ k = Bs ∨ k = Bs + 1) A Bs (Bs + 1) b off rows.length c w5 (.inr (.inl rfl)) (.inr (.inr rfl)) (by omega) (by omega) c0 HA1.out c1 hl hc Hcm.out) (fun h k => h.trans k) ?kb
        (EncI (fun k => k < q ∨ k = Bs ∨ k = Bs + 1) q rows w5) (encI_own HR5.out) ?start ?assign ?body ?done
      case kb => exact fun W l o o' hl _ _ _ => ⟨by simp [World.putObj], fun k hk => World.putObj_heap_other (by omega)⟩
      case start => exact ⟨by have := Hq5.out; rw [List.nil_append, S_toList] at this; simpa [headsB, bodiesB] using this, Stays.refl _ _⟩
      case assign =>
        intro L x W K hK
        simp only [List.setIfInBounds_toArray, List.set_cons_zero, List.set_cons_succ] at hK ⊢
        gi_wp2
        exact hK
      case body =>
        intro L pre x W hI hlen
        simp only [List.setIfInBounds_toArray, List.set_cons_zero, List.set_cons_succ]
        obtain ⟨i, hi⟩ : ∃ i, min x (chN rows.length - 1) = i := ⟨_, rfl⟩
        rw [hi]
        have hiN : i < chN rows.length := by omega
        obtain ⟨hB0, hS0⟩ := hI
        have hn0 : 0 < rows.length := by unfold chN at hiN; omega
        obtain ⟨hA0, hbw⟩ := HA.out hn0
        subst hA0
        have hpre : ∀ j ∈ pre.map (fun i => min i (chN rows.length - 1)), j < chN rows.length := fun j hj => by
          obtain ⟨j', -, rfl⟩ := List.mem_map.1 hj
          omega
        obtain ⟨hHl, hMl⟩ := heads_len Hg.out Hok.out _ hpre
        rw [List.length_map] at hHl hMl
        have hcN : chN rows.length ≤ 313 := by unfold chN; omega
        have hbn := body_len Hg.out Hok.out i
        have hhn := head_len Hg.out Hok.out hiN
        have hlr := last_rng Hg.out hiN
        have hkl := ch_len rows i
        obtain ⟨H, hH⟩ : ∃ H, uint rows.length ++ headsB rows (pre.map fun i => min i (chN rows.length - 1)) = H := ⟨_, rfl⟩
        obtain ⟨M, hM⟩ : ∃ M, bodiesB rows (pre.map fun i => min i (chN rows.length - 1)) = M := ⟨_, rfl⟩
        have hHle : H.length ≤ 20000 := by rw [← hH, List.length_append]; rw [S_size] at z0; omega
        have hMle : M.length ≤ 200000 := by rw [← hM]; omega
        rw [hH, hM] at hB0
        have Hpost := Lib.hid (show ∀ W', Bld2 (fun k => k < q ∨ k = Bs ∨ k = Bs + 1) q (q + 1) (H ++ headB (chOf rows i)) (M ++ bodyR (chOf rows i)) W' → Stays (fun k => k < q ∨ k = Bs ∨ k = Bs + 1) w5 W' → EncI (fun k => k < q ∨ k = Bs ∨ k = Bs + 1) q rows w5 (pre ++ [x]) W' from fun W' h1 h2 => by
          refine ⟨?_, h2⟩
          rw [List.map_append, List.map_cons, List.map_nil, hi]
          have e1 : uint rows.length ++ headsB rows (pre.map (fun i => min i (chN rows.length - 1)) ++ [i]) = H ++ headB (chOf rows i) := by rw [← hH]; simp [headsB]
          have e2 : bodiesB rows (pre.map (fun i => min i (chN rows.length - 1)) ++ [i]) = M ++ bodyR (chOf rows i) := by rw [← hM]; simp [bodiesB]
          rw [e1, e2]
          exact h1)
        have hrs := fun (r : Nat) (h : r < (chOf rows i).length) => ch_row (i := i) Hg.out h
        obtain ⟨rs, hrse⟩ : ∃ rs, chOf rows i = rs := ⟨_, rfl⟩
        rw [hrse] at hbn hhn hlr hkl Hpost hrs
        obtain ⟨k, hk⟩ : ∃ k, chLen rows.length i = k := ⟨_, rfl⟩
        have hk1 : 1 ≤ k ∧ k ≤ 16 ∧ i * 16 + k ≤ rows.length := by unfold chLen at hk; unfold chN at hiN; omega
        rw [hk] at hkl
        unfold chVal
        rw [hk]
        obtain ⟨t0, ht0⟩ : ∃ t0 : Nat, firstT rs = t0 := ⟨(firstT rs).toNat, by omega⟩
        have HdW := Lib.hid (show Rd W 3 (some ⟨b, off, none⟩) rows.length (rows.flatMap rowCells) from ⟨Hrd.out.1, fun hp => by
          obtain ⟨b', o', e, hbb, hcc⟩ := Hrd.out.2 hp
          obtain ⟨rfl, rfl⟩ : b = b' ∧ off = o' := by simpa using e
          have hbq : b < q := by have := Hbel.out.size; have := Hqe.out; omega
          refine ⟨b, off, rfl, Nat.lt_of_lt_of_le (HR5.out b (.inl hbq)) hS0.size, fun j u hu => ?_⟩
          rw [World.cell?_of_block (a := ⟨b, off + j, none⟩) (hS0.block b (.inl hbq)), World.cell?_of_block (a := ⟨b, off + j, none⟩) (HS5.out.block b hbq)]
          exact (Hbel.out.cell (p := ⟨b, off + j, none⟩) hbw).trans (hcc j u hu)⟩)
        have hbq : b < q := by have := Hbel.out.size; have := Hqe.out; omega
        obtain ⟨h0', e0, -⟩ := hrs 0 (by omega)
        have hf0 : rows[i * 16].T = t0 := by
          rw [← ht0]; unfold firstT; rw [rAt_get (show 0 < rs.length by omega), e0]; rfl
        obtain ⟨b', off', hA', -, f0, -, -⟩ := row_at HdW.out (show i * 16 < rows.length by omega)
        obtain ⟨rfl, rfl⟩ : b = b' ∧ off = off' := by simpa using hA'
        rw [hf0] at f0
        have HoldW := Lib.hid (show Old (fun k => k < q ∨ k = Bs ∨ k = Bs + 1) W from fun k hk => Nat.lt_of_lt_of_le (HR5.out k hk) hS0.size)
        have HB0 := Lib.hid hB0
        have HS0 := Lib.hid hS0
        have Hrs := Lib.hid (show ∀ r, r < rs.length → ∃ h' : i * 16 + r < rows.length, rs[r]? = some rows[i * 16 + r] ∧ 0 ≤ lastOf (firstT rs) (rs.take r) ∧ lastOf (firstT rs) (rs.take r) ≤ rows[i * 16 + r].T ∧ rows[i * 16 + r].T < 1099511627776 ∧ 0 ≤ rows[i * 16 + r].ID ∧ rows[i * 16 + r].ID < 200 from fun r hr => by
          obtain ⟨h', e, g1, g2, g3, g4, g5, -⟩ := hrs r hr
          exact ⟨h', by rw [List.getElem?_eq_getElem hr, e], g1, g2, g3, g4, g5⟩)
        have hmix : (Try.prog).follows .mixedOrders = true := by kernel_rfl
        have hk2 : (0 : Int) < k := by omega
        have hk3 : 0 < k := by omega
        have Hlr := Lib.hid hlr
        have Hht := Lib.hid (show lastOf (firstT rs) (rs.take 0) = t0 from ht0)
        have Hft := Lib.hid ht0
        have Hbn := Lib.hid hbn
        have Hhn := Lib.hid hhn
        have Hkl := Lib.hid hkl
        clear hB0 hS0 hrs hlr ht0 hbn hhn hkl hA' e0 hf0 hHl hMl hpre hi hlen hH hM hrse hk
        gi_wp2
        refine ⟨trivial, call_in HB0.out.swap.len ?_⟩
        rintro e W1 ⟨rfl, rfl⟩
        gi_wp2
        gi_loopw [11, 73] (fun tv ix wr2 => ∃ r : Nat, ix = .int .i64 r ∧ r ≤ k ∧ tv = .int .i64 (lastOf (firstT rs) (rs.take r)) ∧ Bld2 (fun k => k < q ∨ k = Bs ∨ k = Bs + 1) q (q + 1) H (M ++ blockB (firstT rs) (rs.take r)) wr2 ∧ (blockB (firstT rs) (rs.take r)).length ≤ 30 * r ∧ Ev (fun k => k < q ∨ k = Bs ∨ k = Bs + 1) W wr2) (fun _ ix _ => k - (intOf ix).toNat)
        case atStart => exact ⟨0, rfl, by omega, by rw [Hht.out], by simpa [blockB] using HB0.out, by simp [blockB], Ev.refl _ _⟩
        case round =>
          rename World => wr2
          obtain ⟨r, rfl, hr, rfl, hq2, hbl, hev⟩ := hrel
          by_cases hlt2 : r < k
          · have hrk : r < rs.length := by have := Hkl.out; omega
            obtain ⟨h', ex, g1, g2, g3, g4, g5⟩ := Hrs.out r hrk
            obtain ⟨b', off', hA', -, f0', f1', f2'⟩ := row_at HdW.out h'
            obtain ⟨rfl, rfl⟩ : b = b' ∧ off = off' := by simpa using hA'
            have hvk := (Hok.out _ (List.getElem_mem h')).2.2
            have hbb : wr2.heap[b]? = W.heap[b]? := hev.st.block b (.inl hbq)
            obtain ⟨hT1, hT2⟩ := take_block (t := firstT rs) hrk
            rw [show rs[r] = rows[i * 16 + r] by rw [List.getElem?_eq_getElem hrk] at ex; exact Option.some.inj ex] at hT1 hT2
            obtain ⟨xr, hxr⟩ : ∃ xr, rows[i * 16 + r] = xr := ⟨_, rfl⟩
            obtain ⟨tp, htp⟩ : ∃ tp, lastOf (firstT rs) (rs.take r) = tp := ⟨_, rfl⟩
            obtain ⟨blk, hblk⟩ : ∃ blk, blockB (firstT rs) (rs.take r) = blk := ⟨_, rfl⟩
            rw [hxr] at f0' f1' f2' g2 g3 g4 g5 hvk hT1 hT2
            rw [htp] at g1 g2 hT1 ⊢
            rw [hblk] at hbl hq2 hT1
            have c0' := (World.cell?_of_block (a := ⟨b, off + (i * 16 + r) * 3, none⟩) hbb).trans f0'
            have c1' := (World.cell?_of_block (a := ⟨b, off + (i * 16 + r) * 3 + 1, none⟩) hbb).trans f1'
            have c2' := (World.cell?_of_block (a := ⟨b, off + (i * 16 + r) * 3 + 2, none⟩) hbb).trans f2'
            rw [show off + (i * 16 + r) * 3 = off + i * 16 * 3 + r * 3 by omega] at c0' c1' c2'
            obtain ⟨T, I, V⟩ := xr
            simp only at c0' c1' c2' g2 g3 g4 g5 hvk hT1 hT2
            obtain ⟨n2, rfl⟩ : ∃ n2 : Nat, I = n2 := ⟨I.toNat, by omega⟩
            obtain ⟨n1, hn1⟩ : ∃ n1 : Nat, T - tp = n1 := ⟨(T - tp).toNat, by omega⟩
            have hrowB : rowB tp ⟨T, n2, V⟩ = uint n1 ++ uint n2 ++ uint (foldN V) := by unfold rowB; simp only [hn1, Int.toNat_natCast]
            have m1 : IntKind.i64.wrap (T - tp) = n1 := by rw [IntKind.wrap_i64]; omega
            have m2 : IntKind.u64.wrap (n1 : Int) = n1 := by rw [IntKind.wrap_u64]; omega
            have m3 : IntKind.u64.wrap (n2 : Int) = n2 := by rw [IntKind.wrap_u64]; omega
            have UA := Lib.hid (fun w => uint_any n1 w (by omega))
            have UB := Lib.hid (fun w => uint_any n2 w (by omega))
            have UC := Lib.hid (fun w => int_any V w hvk.1 hvk.2)
            obtain ⟨p1, hp1⟩ : ∃ p1, uint n1 = p1 := ⟨_, rfl⟩
            obtain ⟨p2, hp2⟩ : ∃ p2, uint n2 = p2 := ⟨_, rfl⟩
            obtain ⟨p3, hp3⟩ : ∃ p3, uint (foldN V) = p3 := ⟨_, rfl⟩
            have a1 : (S p1).size ≤ 10 := by rw [S_size, ← hp1]; exact uint_len_ten (by omega)
            have a2 : (S p2).size ≤ 10 := by rw [S_size, ← hp2]; exact uint_len_ten (by omega)
            have a3 : (S p3).size ≤ 10 := by rw [S_size, ← hp3]; exact uint_len_ten (foldN_lt hvk.1 hvk.2)
            have happ : S p1 ++ S p2 ++ S p3 = S (p1 ++ p2 ++ p3) := by simp only [S_append]
            have hsz3 : (S p1 ++ S p2 ++ S p3).size ≤ 30 := by
              rw [happ, S_size, List.length_append, List.length_append]
              rw [S_size] at a1 a2 a3
              omega
            have y1 : ¬ 9223372036854775807 < (S p1).size + (S p2).size := by omega
            have y2 : ¬ 9223372036854775807 < (S p1).size + (S p2).size + (S p3).size := by omega
            rw [hp1, hp2, hp3] at hrowB
            rw [hp1] at UA
            rw [hp2] at UB
            rw [hp3] at UC
            have hg0 : wr2.heap.size < (wr2.alloc (.cells #[.int .i64 T, .int .i64 ((n2 : Nat) : Int), .int .i64 V] 36)).heap.size := by simp
            have hoW : ∀ k, k < q ∨ k = Bs ∨ k = Bs + 1 → k < wr2.heap.size := fun k hk => Nat.lt_of_lt_of_le (HoldW.out k hk) hev.st.size
            have HqG := Lib.hid ((hq2.more (R' := fun k => (k < q ∨ k = Bs ∨ k = Bs + 1) ∨ k = wr2.heap.size) fun k hk hp => hp.resolve_right (by omega)).below (Below.one wr2 (.cells #[.int .i64 T, .int .i64 ((n2 : Nat) : Int), .int .i64 V] 36)))
            have HoldG := Lib.hid (show Old (fun k => (k < q ∨ k = Bs ∨ k = Bs + 1) ∨ k = wr2.heap.size) (wr2.alloc (.cells #[.int .i64 T, .int .i64 ((n2 : Nat) : Int), .int .i64 V] 36)) from fun k hk => by
              rcases hk with h | h
              · have := hoW k h; omega
              · omega)
            have HevG := Lib.hid (hev.trans (Ev.below hoW (Below.one wr2 (.cells #[.int .i64 T, .int .i64 ((n2 : Nat) : Int), .int .i64 V] 36))))
            have HboxG := Lib.hid (heap_alloc_new wr2 (.cells #[.int .i64 T, .int .i64 ((n2 : Nat) : Int), .int .i64 V] 36))
            have HT1 := Lib.hid hT1
            have HT2 := Lib.hid hT2
            have HrowB := Lib.hid hrowB
            have Happ := Lib.hid happ
            have hr1 : (r : Int) < k := by omega
            clear hT1 hT2 hrowB happ hq2 hev hbb hxr htp hblk ex hA' f0' f1' f2' g1 g2 g3 g4 g5 hvk hn1 hp1 hp2 hp3 hrk h' hg0 hoW
            gi_wp2
            generalize wr2.alloc (.cells #[.int .i64 T, .int .i64 ((n2 : Nat) : Int), .int .i64 V] 36) = wG at *
            generalize wr2.heap.size = g at *
            have r0 : wG.cell? ⟨g, 0, none⟩ = some (.int .i64 T) := (Lib.cell_of_heap HboxG.out 0).trans rfl
            have r1 : wG.cell? ⟨g, 1, none⟩ = some (.int .i64 ((n2 : Nat) : Int)) := (Lib.cell_of_heap HboxG.out 1).trans rfl
            have r2 : wG.cell? ⟨g, 2, none⟩ = some (.int .i64 V) := (Lib.cell_of_heap HboxG.out 2).trans rfl
            clear c0' c1' c2'
            refine drawn_in (S := fun w' => w'.cell? ⟨g, 0, none⟩ = some (.int .i64 T) ∧ w'.cell? ⟨g, 1, none⟩ = some (.int .i64 ((n2 : Nat) : Int)) ∧ w'.cell? ⟨g, 2, none⟩ = some (.int .i64 V)) hmix (fun ⟨_, _, h⟩ => h) (noDefer_of (by kernel_rfl)) ?_ (fun hHeld => ?_)
            · exact ⟨r0, r1, r2⟩
            refine wpAnyH_take (i := 0) (oi := _) (v := ?_) (by simp only [List.getElem?_toArray, List.getElem?_cons_succ, List.getElem?_cons_zero]; rfl) (by kernel_rfl) (by kernel_rfl) (by kernel_rfl) (by exact fun _ _ _ h => h) (Or.inl ⟨by rfl, ?_⟩) (by assumption) ?_
            rotate_left
            · (intro w hSw; (try dsimp only at hSw); go_simp) <;> with_reducible rfl
            try simp only [Act.put, List.setIfInBounds_toArray, List.set_cons_zero, List.set_cons_succ]
            refine wpAnyH_take (i := 1) (oi := _) (v := ?_) (by simp only [List.getElem?_toArray, List.getElem?_cons_succ, List.getElem?_cons_zero]; rfl) (by kernel_rfl) (by kernel_rfl) (by kernel_rfl) (by exact fun _ _ _ h => h) (Or.inl ⟨by rfl, ?_⟩) (by assumption) ?_
            rotate_left
            · (intro w hSw; (try dsimp only at hSw); go_simp) <;> with_reducible rfl
            try simp only [Act.put, List.setIfInBounds_toArray, List.set_cons_zero, List.set_cons_succ]
            refine wpAnyH_take (i := 2) (oi := _) (v := ?_) (by simp only [List.getElem?_toArray, List.getElem?_cons_succ, List.getElem?_cons_zero]; rfl) (by kernel_rfl) (by kernel_rfl) (by kernel_rfl) (by exact fun _ _ _ h => h) (Or.inl ⟨by rfl, ?_⟩) (by assumption) ?_
            rotate_left
            · (intro w hSw; (try dsimp only at hSw); go_simp) <;> with_reducible rfl
            try simp only [Act.put, List.setIfInBounds_toArray, List.set_cons_zero, List.set_cons_succ]
            refine wpAnyH_take (i := 3) (oi := _) (v := ?_) (by simp only [List.getElem?_toArray, List.getElem?_cons_succ, List.getElem?_cons_zero]; rfl) (by kernel_rfl) (by kernel_rfl) (by kernel_rfl) (by exact fun _ _ _ h => h) (Or.inl ⟨by rfl, ?_⟩) (by assumption) ?_
            rotate_left
            · (intro w hSw; (try dsimp only at hSw); go_simp) <;> with_reducible rfl
            try simp only [Act.put, List.setIfInBounds_toArray, List.set_cons_zero, List.set_cons_succ]
            refine wpAnyH_take (i := 4) (oi := _) (v := ?_) (by simp only [List.getElem?_toArray, List.getElem?_cons_succ, List.getElem?_cons_zero]; rfl) (by kernel_rfl) (by kernel_rfl) (by kernel_rfl) (by exact fun _ _ _ h => h) (Or.inl ⟨by rfl, ?_⟩) (by assumption) ?_
            rotate_left
            · (intro w hSw; (try dsimp only at hSw); go_simp) <;> with_reducible rfl
            try simp only [Act.put, List.setIfInBounds_toArray, List.set_cons_zero, List.set_cons_succ]
            refine wpAnyH_take (i := 6) (oi := _) (v := ?_) (by simp only [List.getElem?_toArray, List.getElem?_cons_succ, List.getElem?_cons_zero]; rfl) (by kernel_rfl) (by kernel_rfl) (by kernel_rfl) (by exact fun _ _ _ h => h) (Or.inl ⟨by rfl, ?_⟩) (by assumption) ?_
            rotate_left
            · (intro w hSw; (try dsimp only at hSw); go_simp) <;> with_reducible rfl
            try simp only [Act.put, List.setIfInBounds_toArray, List.set_cons_zero, List.set_cons_succ]
            refine wpAnyH_take (i := 7) (oi := _) (v := ?_) (by simp only [List.getElem?_toArray, List.getElem?_cons_succ, List.getElem?_cons_zero]; rfl) (by kernel_rfl) (by kernel_rfl) (by kernel_rfl) (by exact fun _ _ _ h => h) (Or.inl ⟨by rfl, ?_⟩) (by assumption) ?_
            rotate_left
            · (intro w hSw; (try dsimp only at hSw); go_simp) <;> with_reducible rfl
            try simp only [Act.put, List.setIfInBounds_toArray, List.set_cons_zero, List.set_cons_succ]
            refine wpAnyH_take (i := 8) (oi := _) (v := ?_) (by simp only [List.getElem?_toArray, List.getElem?_cons_succ, List.getElem?_cons_zero]; rfl) (by kernel_rfl) (by kernel_rfl) (by kernel_rfl) (by exact fun _ _ _ h => h) (Or.inl ⟨by rfl, ?_⟩) (by assumption) ?_
            rotate_left
            · (intro w hSw; (try dsimp only at hSw); go_simp) <;> with_reducible rfl
            try simp only [Act.put, List.setIfInBounds_toArray, List.set_cons_zero, List.set_cons_succ]
            refine wpAnyH_take (i := 11) (oi := _) (v := ?_) (by simp only [List.getElem?_toArray, List.getElem?_cons_succ, List.getElem?_cons_zero]; rfl) (by kernel_rfl) (by kernel_rfl) (by kernel_rfl) (by exact fun _ _ _ h => h) (Or.inl ⟨by rfl, ?_⟩) (by assumption) ?_
            rotate_left
            · (intro w hSw; (try dsimp only at hSw); go_simp) <;> with_reducible rfl
            try simp only [Act.put, List.setIfInBounds_toArray, List.set_cons_zero, List.set_cons_succ]
            refine wpAnyH_take (i := 12) (oi := _) (v := ?_) (by simp only [List.getElem?_toArray, List.getElem?_cons_succ, List.getElem?_cons_zero]; rfl) (by kernel_rfl) (by kernel_rfl) (by kernel_rfl) (by exact fun _ _ _ h => h) (Or.inl ⟨by rfl, ?_⟩) (by assumption) ?_
            rotate_left
            · (intro w hSw; (try dsimp only at hSw); go_simp) <;> with_reducible rfl
            try simp only [Act.put, List.setIfInBounds_toArray, List.set_cons_zero, List.set_cons_succ]
            refine wpAnyH_ready (rs := [5]) (by kernel_rfl) (by simp) ?_
            refine AllReadyH.cons (o := _) (by simp only [List.getElem?_toArray, List.getElem?_cons_succ, List.getElem?_cons_zero]; rfl) (fun K hK => ?_) AllReadyH.nil
            go_simp
            refine (UA.out _).mono ?_
            rintro e wx1 ⟨rfl, hx1⟩
            have Hx1 := Lib.hid hx1
            clear hx1
            go_wp2_with fail
            refine hK.out _ _ ?_ (fun hHeld => ?_)
            · exact ⟨keepc Hx1.out hHeld.1, keepc Hx1.out hHeld.2.1, keepc Hx1.out hHeld.2.2⟩
            clear hK K
            try simp only [Act.put, List.setIfInBounds_toArray, List.set_cons_zero, List.set_cons_succ]
            refine wpAnyH_ready (rs := [9]) (by kernel_rfl) (by simp) ?_
            refine AllReadyH.cons (o := _) (by simp only [List.getElem?_toArray, List.getElem?_cons_succ, List.getElem?_cons_zero]; rfl) (fun K hK => ?_) AllReadyH.nil
            go_simp
            refine (UB.out _).mono ?_
            rintro e wx2 ⟨rfl, hx2⟩
            have Hx2 := Lib.hid hx2
            clear hx2
            go_wp2_with fail
            refine hK.out _ _ ?_ (fun hHeld => ?_)
            · exact ⟨keepc Hx2.out hHeld.1, keepc Hx2.out hHeld.2.1, keepc Hx2.out hHeld.2.2⟩
            clear hK K
            try simp only [Act.put, List.setIfInBounds_toArray, List.set_cons_zero, List.set_cons_succ]
            refine wpAnyH_take (i := 10) (oi := _) (v := ?_) (by simp only [List.getElem?_toArray, List.getElem?_cons_succ, List.getElem?_cons_zero]; rfl) (by kernel_rfl) (by kernel_rfl) (by kernel_rfl) (by exact fun _ _ _ h => h) (Or.inl ⟨by rfl, ?_⟩) (by assumption) ?_
            rotate_left
            · (intro w hSw; (try dsimp only at hSw); go_simp) <;> with_reducible rfl
            try simp only [Act.put, List.setIfInBounds_toArray, List.set_cons_zero, List.set_cons_succ]
            refine wpAnyH_ready (rs := [13]) (by kernel_rfl) (by simp) ?_
            refine AllReadyH.cons (o := _) (by simp only [List.getElem?_toArray, List.getElem?_cons_succ, List.getElem?_cons_zero]; rfl) (fun K hK => ?_) AllReadyH.nil
            go_simp
            refine (UC.out _).mono ?_
            rintro e wx3 ⟨rfl, hx3⟩
            have Hx3 := Lib.hid hx3
            clear hx3
            go_wp2_with fail
            refine hK.out _ _ ?_ (fun hHeld => ?_)
            · exact ⟨keepc Hx3.out hHeld.1, keepc Hx3.out hHeld.2.1, keepc Hx3.out hHeld.2.2⟩
            clear hK K
            try simp only [Act.put, List.setIfInBounds_toArray, List.set_cons_zero, List.set_cons_succ]
            refine wpAnyH_take (i := 14) (oi := _) (v := ?_) (by simp only [List.getElem?_toArray, List.getElem?_cons_succ, List.getElem?_cons_zero]; rfl) (by kernel_rfl) (by kernel_rfl) (by kernel_rfl) (by exact fun _ _ _ h => h) (Or.inl ⟨by rfl, ?_⟩) (by assumption) ?_
            rotate_left
            · (intro w hSw; (try dsimp only at hSw); go_simp) <;> with_reducible rfl
            try simp only [Act.put, List.setIfInBounds_toArray, List.set_cons_zero, List.set_cons_succ]
            refine wpAnyH_ready (rs := [15]) (by kernel_rfl) (by simp) ?_
            refine AllReadyH.cons (o := _) (by simp only [List.getElem?_toArray, List.getElem?_cons_succ, List.getElem?_cons_zero]; rfl) (fun K hK => ?_) AllReadyH.nil
            go_simp
            have Hy := Lib.hid ((Below.refl _ _).drew.trans ((Hx1.out.then Hx2.out).then Hx3.out))
            have HqY := Lib.hid (HqG.out.below Hy.out)
            refine (HqY.out.swap.write (S p1 ++ S p2 ++ S p3) (by have := hsz3; simp only [List.length_append]; omega) (fun k hk => Nat.lt_of_lt_of_le (HoldG.out k hk) Hy.out.size)).mono ?_
            rintro e wx4 ⟨⟨v9, rfl⟩, hq9, hev9⟩
            have Hq9 := Lib.hid hq9.swap
            have Hev := Lib.hid hev9
            clear hq9 hev9
            go_wp2_with fail
            refine hK.out _ _ ?_ (fun hHeld => ?_)
            · exact ⟨(World.cell?_of_block (a := ⟨g, 0, none⟩) (Hev.out.st.block g (.inr rfl))).trans hHeld.1, (World.cell?_of_block (a := ⟨g, 1, none⟩) (Hev.out.st.block g (.inr rfl))).trans hHeld.2.1, (World.cell?_of_block (a := ⟨g, 2, none⟩) (Hev.out.st.block g (.inr rfl))).trans hHeld.2.2⟩
            clear hK K
            try simp only [Act.put, List.setIfInBounds_toArray, List.set_cons_zero, List.set_cons_succ]
            refine wpAnyH_done (by kernel_rfl) ?_ _
            have e0 := hHeld.1
            have HevF := Lib.hid ((HevG.out.trans (Ev.below (fun k hk => HoldG.out k (.inl hk)) Hy.out)).trans ⟨Hev.out.st.mono fun k hk => .inl hk, Hev.out.kp⟩)
            have HqF := Lib.hid (show Bld2 (fun k => k < q ∨ k = Bs ∨ k = Bs + 1) q (q + 1) H (M ++ blockB (firstT rs) (rs.take (r + 1))) wx4 by
              have := Hq9.out.more (R' := fun k => k < q ∨ k = Bs ∨ k = Bs + 1) fun k _ hk => .inl hk
              rw [Happ.out, S_toList, List.append_assoc, ← HrowB.out, ← HT1.out] at this
              exact this)
            have HblF := Lib.hid (show (blockB (firstT rs) (rs.take (r + 1))).length ≤ 30 * (r + 1) by
              rw [HT1.out, HrowB.out, List.length_append]
              have := hsz3
              rw [Happ.out, S_size] at this
              omega)
            clear hHeld Hx1 Hx2 Hx3 Hy HqY Hq9 Hev r0 r1 r2 UA UB UC HqG HoldG HevG y1 y2 a1 a2 a3
            gi_wp2
            refine ⟨⟨r + 1, by go_num, by omega, by rw [HT2.out], HqF.out, HblF.out, HevF.out⟩, ?_⟩
            simp [intOf]
            omega
          · obtain rfl : r = k := by omega
            have htk : rs.take r = rs := List.take_of_length_le (by rw [Hkl.out]; exact Nat.le_refl _)
            rw [htk] at hq2 hbl ⊢
            obtain ⟨t9, ht9⟩ : ∃ t9, lastOf (firstT rs) rs = t9 := ⟨_, rfl⟩
            have hlr := Hlr.out
            rw [ht9] at hlr ⊢
            rw [Hft.out] at hlr
            obtain ⟨n3, hn3⟩ : ∃ n3 : Nat, t9 - t0 = n3 := ⟨(t9 - t0).toNat, by omega⟩
            have hbe : bodyR rs = blockB (firstT rs) rs := rfl
            have Hhb : Hid (headB rs = uint t0 ++ uint n3 ++ uint (bodyR rs).length) := Lib.hid (by unfold headB; rw [ht9, Hft.out, hn3, Int.toNat_natCast, Int.toNat_natCast])
            rw [← hbe] at hq2 hbl
            have Hpo := Lib.hid Hpost.out
            obtain ⟨N, hN⟩ : ∃ N, bodyR rs = N := ⟨_, rfl⟩
            have hNl : N.length ≤ 480 := by rw [← hN]; exact Hbn.out
            rw [hN] at hq2 Hhb Hpo
            have m1 : IntKind.u64.wrap (t0 : Int) = t0 := by rw [IntKind.wrap_u64]; omega
            have m2 : IntKind.i64.wrap (t9 - (t0 : Int)) = n3 := by rw [IntKind.wrap_i64]; omega
            have m3 : IntKind.u64.wrap (n3 : Int) = n3 := by rw [IntKind.wrap_u64]; omega
            have m4 : wrap64 (t9 - (t0 : Int)) = n3 := by rw [IntWalk.wrap64_in _ ⟨by omega, by omega⟩]; exact hn3
            have m5 : ((M ++ N).length : Int) - M.length = N.length := by rw [List.length_append]; omega
            have m6 : IntKind.u64.wrap (N.length : Int) = N.length := by rw [IntKind.wrap_u64]; omega
            have UA := Lib.hid (fun w => uint_any t0 w (by omega))
            have UB := Lib.hid (fun w => uint_any n3 w (by omega))
            have UC := Lib.hid (fun w => uint_any N.length w (by omega))
            have Hq2 := Lib.hid hq2
            have Hev := Lib.hid hev
            obtain ⟨p1, hp1⟩ : ∃ p1, uint t0 = p1 := ⟨_, rfl⟩
            obtain ⟨p2, hp2⟩ : ∃ p2, uint n3 = p2 := ⟨_, rfl⟩
            obtain ⟨p3, hp3⟩ : ∃ p3, uint N.length = p3 := ⟨_, rfl⟩
            have a1 : (S p1).size ≤ 10 := by rw [S_size, ← hp1]; exact uint_len_ten (by omega)
            have a2 : (S p2).size ≤ 10 := by rw [S_size, ← hp2]; exact uint_len_ten (by omega)
            have a3 : (S p3).size ≤ 10 := by rw [S_size, ← hp3]; exact uint_len_ten (by omega)
            have happ : S p1 ++ S p2 ++ S p3 = S (p1 ++ p2 ++ p3) := by simp only [S_append]
            have hsz3 : (S p1 ++ S p2 ++ S p3).size ≤ 30 := by
              rw [happ, S_size, List.length_append, List.length_append]
              rw [S_size] at a1 a2 a3
              omega
            have y1 : ¬ 9223372036854775807 < (S p1).size + (S p2).size := by omega
            have y2 : ¬ 9223372036854775807 < (S p1).size + (S p2).size + (S p3).size := by omega
            rw [hp1, hp2, hp3] at Hhb
            rw [hp1] at UA
            rw [hp2] at UB
            rw [hp3] at UC
            have Happ := Lib.hid happ
            have hMN : (M ++ N).length = M.length + N.length := List.length_append
            have m7 : IntKind.i64.wrap (((M ++ N).length : Int) - M.length) = N.length := by rw [IntKind.wrap_i64]; omega
            have m8 : IntKind.i64.wrap (((M.length : Int) + N.length) - M.length) = N.length := by rw [IntKind.wrap_i64]; omega
            have m9 : (M.length : Int) + N.length - M.length = N.length := by omega
            clear hq2 hev hbl htk hbe hN Hpost hp1 hp2 hp3 happ hn3 ht9 hlr
            gi_wp2
            refine ⟨trivial, call_in (UA.out _) ?_⟩
            rintro e W2 ⟨rfl, hx2⟩
            have Hq3 := Lib.hid (Hq2.out.below hx2)
            have Hx2 := Lib.hid hx2
            clear hx2
            gi_wp2
            refine ⟨trivial, call_in (UB.out _) ?_⟩
            rintro e W3 ⟨rfl, hx3⟩
            have Hq4 := Lib.hid (Hq3.out.below hx3)
            have Hx3 := Lib.hid (Hx2.out.then hx3)
            clear hx3
            gi_wp2
            refine ⟨trivial, call_in Hq4.out.swap.len ?_⟩
            rintro e W4 ⟨rfl, rfl⟩
            gi_wp2
            refine ⟨trivial, call_in (UC.out _) ?_⟩
            rintro e W4 ⟨rfl, hx4⟩
            have Hq5' := Lib.hid (Hq4.out.below hx4)
            have Hx4 := Lib.hid (Hx3.out.then hx4)
            have hoW : Old (fun k => k < q ∨ k = Bs ∨ k = Bs + 1) wr2 := fun k hk => Nat.lt_of_lt_of_le (HoldW.out k hk) Hev.out.st.size
            have HevX := Lib.hid (Hev.out.trans (Ev.below hoW Hx4.out))
            clear hx4 Hq3 Hq4 Hx2 Hx3
            gi_wp2
            refine ⟨trivial, call_in (Hq5'.out.write (S p1 ++ S p2 ++ S p3) (by omega) (fun k hk => Nat.lt_of_lt_of_le (hoW k hk) Hx4.out.size)) ?_⟩
            rintro e W5 ⟨⟨v9, rfl⟩, hq9, hev9⟩
            have HqF := Lib.hid (show Bld2 (fun k => k < q ∨ k = Bs ∨ k = Bs + 1) q (q + 1) (H ++ headB rs) (M ++ N) W5 by
              rw [Hhb.out]
              rw [Happ.out, S_toList] at hq9
              exact hq9)
            have HevF := Lib.hid (HevX.out.trans hev9)
            clear hq9 hev9 HevX Hq5' Hx4
            gi_wp2
            exact ⟨HevF.out.kp, ⟨HevF.out.st.size, fun k hk => HevF.out.st.block k hk⟩, Hpo.out _ HqF.out (HS0.out.trans HevF.out.st)⟩
      case done =>
        intro D xs W hD hS hI hDd
        obtain rfl := hS
        obtain ⟨hB0, hS0⟩ := hI
        have hmap : (List.range (chN rows.length)).map (fun i => min i (chN rows.length - 1)) = List.range (chN rows.length) := by
          refine (List.map_congr_left fun i hi => ?_).trans (List.map_id _)
          have := List.mem_range.1 hi
          simp only [id]
          omega
        rw [hmap] at hB0
        obtain ⟨P, hP⟩ : ∃ P, uint rows.length ++ headsB rows (List.range (chN rows.length)) = P := ⟨_, rfl⟩
        obtain ⟨N, hN⟩ : ∃ N, bodiesB rows (List.range (chN rows.length)) = N := ⟨_, rfl⟩
        have henc : S P ++ S N = S (encR rows) := by simp only [S_append]; rw [← hP, ← hN]; rfl
        have hsz2 : (S P).size ≤ 1000000 ∧ (S N).size ≤ 1000000 := by
          obtain ⟨hHl, hMl⟩ := heads_len Hg.out Hok.out (List.range (chN rows.length)) fun j hj => List.mem_range.1 hj
          rw [List.length_range] at hHl hMl
          have hcN : chN rows.length ≤ 313 := by unfold chN; omega
          have hz := z0
          rw [S_size] at hz
          rw [S_size, S_size, ← hP, ← hN, List.length_append]
          omega
        rw [hP, hN] at hB0
        have Henc := Lib.hid henc
        have HB := Lib.hid (hB0.aside hDd rfl)
        have hDlt : D < W.heap.size := (Array.getElem?_eq_some_iff.1 hDd).1
        have HO := Lib.hid (show Old (fun k => (k < q ∨ k = Bs ∨ k = Bs + 1) ∨ k = D) W from fun k hk => by
          rcases hk with h | h
          · exact Nat.lt_of_lt_of_le (HR5.out k h) hS0.size
          · omega)
        have HSt := Lib.hid (HS5.out.trans (hS0.mono fun k hk => .inl hk))
        have HDd := Lib.hid hDd
        have y1 : ¬ 9223372036854775807 < (S P).size + (S N).size := by omega
        clear hB0 hS0 hmap hP hN henc hDd
        go_wp2_with fail
        refine (HB.out.str HO.out).mono ?_
        rintro e W1 ⟨rfl, hs1, R1, hb1, hold1, hsub⟩
        have Hs1 := Lib.hid hs1
        have Hb1 := Lib.hid hb1
        have Ho1 := Lib.hid hold1
        have Hsub := Lib.hid hsub
        clear hs1 hb1 hold1 hsub
        go_wp2_with fail
        refine (string_any R1 (q + 1) 61 [] N W1 Hb1.out Ho1.out).mono ?_
        rintro e W2 ⟨rfl, hs2⟩
        have HK := Lib.hid (show W2.heap[D]? = some (.deferred (some [])) from (hs2.block D (Hsub.out D (.inr rfl))).trans ((Hs1.out.block D (.inr rfl)).trans HDd.out))
        have HF := Lib.hid (show Below w.heap.size w W2 from Hbel.out.trans (((HSt.out.trans (Hs1.out.mono fun k hk => .inl (.inl hk))).trans (hs2.mono fun k hk => Hsub.out k (.inl (.inl hk)))).below fun k hk => by have := hsz; have := Hqe.out; omega))
        clear hs2
        go_wp2_with fail
        refine ⟨by simp, .inl ⟨_, _, rfl, run_takeDeferred HK.out, ?_⟩⟩
        refine ⟨_, results_tmp2 rfl _ _ _, ?_, below_put HF.out (by have := hsz; have := Hqe.out; omega)⟩
        have e2 : Ending.returned (.tuple #[.string (S P ++ S N), .int .i64 0]) = .returned (.tuple #[.string (S (encR rows)), .int .i64 0]) := by rw [Henc.out]
        exact e2
end Go.Proofs.Ythmikefinibecaa
