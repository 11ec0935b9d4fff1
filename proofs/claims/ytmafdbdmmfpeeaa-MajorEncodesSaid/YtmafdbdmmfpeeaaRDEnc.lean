/-
  The document's Encode of samples.
-/
import Derived.Test.YtmafdbdmmfpeeaaDEnc1
namespace Go.Proofs.Ytmafdbdmmfpeeaa
open Go Go.RowKit Go.Shelf

theorem bits2_next {ps : List (Nat × Nat)} {xs ys : List Nat} (hx : ps.map Prod.fst = xs) (hy : ps.map Prod.snd = ys) {j : Nat} (h : j < xs.length) (h' : j < ys.length) (a b : Nat) :
    bits2 (ps.take (j + 1)) a b = bits2 (ps.take j) a b ++ codeL xs[j] a ++ codeL ys[j] b := by
  subst hx hy
  rw [List.take_succ_eq_append_getElem (by simpa using h)]
  simp only [bits2, List.flatMap_append, List.flatMap_cons, List.flatMap_nil, List.append_nil, List.append_assoc, List.getElem_map]
theorem bits2_len {a b : Nat} (ha : a ≤ 40) (hb : b ≤ 40) (ps : List (Nat × Nat)) : (bits2 ps a b).length ≤ 176 * ps.length := by
  induction ps with
  | nil => simp [bits2]
  | cons p ps ih =>
    have h1 := costOne_le (n := p.1) ha
    have h2 := costOne_le (n := p.2) hb
    simp only [bits2, List.flatMap_cons, List.length_append, codeL_length, List.length_cons] at ih ⊢
    omega
/-- a number's code put behind -/
def RDoesOk (c : Nat) (L : List Bool) (F : Nat → Prop) (w : World) (e : Ending) (w' : World) : Prop := e = .returned (.int .i64 0) ∧ ∃ F', RefF c L F' w' ∧ Frm F F' w w'
theorem rriceF0 (c : Nat) (L : List Bool) (F : Nat → Prop) (n k : Nat) (w : World) (h : RefF c L F w) (hn : n < 18446744073709551616) (hk : k ≤ 40) (hl : L.length < 1099511626000) :
    Calls Try.prog 49 #[.pointer (some ⟨c, 0, none⟩), .int .u64 n, .int .i64 k] w (RDoesOk c (L ++ codeL n k) F w) := by
  have h1 : riceE (k : Int) = 0 := by unfold riceE; rw [if_pos (by omega)]
  have h2 : riceB L n (k : Int) = L ++ codeL n k := by unfold riceB; rw [if_pos (by omega)]; rfl
  have := rriceF c L F n k w h hn hl
  rw [h1, h2] at this
  exact this
theorem rbytesF (c : Nat) (L : List Bool) (s : WSt) (F : Nat → Prop) (w : World) (h : RefF c L F w) (hs : s.bits = L) (hm : s.m < 8) (hl : L.length < 1099511626000) :
    Calls Try.prog 50 #[.pointer (some ⟨c, 0, none⟩)] w fun e w' => e = .returned (.string (S s.out)) ∧ Below w.heap.size w w' := by
  subst hs
  refine (rbytes_any _ c s.bits w h.says hl).mono ?_
  rintro e w' ⟨⟨M, rfl, hM⟩, hb⟩
  obtain rfl := pack_out hm hM
  exact ⟨rfl, hb⟩
theorem rnewW (w : World) : RefF w.heap.size [] (fun k => k = w.heap.size) (w.alloc (.cells #[.slice none 0 0] 113)) :=
  newF w _ _ _ fun _ hR => new_ref (heap_alloc_new w _) hR

theorem gr_made (w : World) : Gr w.heap.size [] (.slice (some ⟨w.heap.size, 0, none⟩) 0 0) (.slice (some ⟨w.heap.size + 1, 0, none⟩) 0 0) [] [] ((w.alloc (.cells #[] 70)).alloc (.cells #[] 70)) ((w.alloc (.cells #[] 70)).alloc (.cells #[] 70)) := by
  have h1 : Lie (fun k => k < w.heap.size ∨ w.heap.size + 1 = k) 70 1 (.slice (some ⟨w.heap.size, 0, none⟩) 0 0) 0 [] (w.alloc (.cells #[] 70)) :=
    (Lie.made (fun k => k < w.heap.size) w 70 1 fun _ h => h).shift fun g hg h => by
      have : w.heap.size = g := by simpa [Value.ownBlock] using hg
      omega
  have h2 : Lie (fun k => k < w.heap.size ∨ w.heap.size = k) 70 1 (.slice (some ⟨(w.alloc (.cells #[] 70)).heap.size, 0, none⟩) 0 0) 0 [] ((w.alloc (.cells #[] 70)).alloc (.cells #[] 70)) :=
    Lie.made _ _ _ _ fun k h => by simp; omega
  simp only [World.size_alloc] at h2
  refine ⟨Stays.refl _ _, KeepsOthers.refl _, by simp; omega, (h1.below (Below.one _ _)).shift fun g hg h => ?_, h2.shift fun g hg h => ?_, fun k hk => by cases hk⟩
  · rcases h with h | h | h
    · exact h1.2 g hg (.inl h)
    · exact h1.2 g hg (.inr (by simpa [Value.ownBlock] using h))
    · cases h
  · rcases h with h | h | h
    · exact h2.2 g hg (.inl h)
    · exact h2.2 g hg (.inr (by simpa [Value.ownBlock] using h))
    · cases h
theorem Gr.drewN {base : Nat} {g : List Nat} {v8 v9 : Value} {xs ys : List Value} {W0 W : World} (h : Gr base g v8 v9 xs ys W0 W) (n : Nat) : Gr base g v8 v9 xs ys W0 (W.drewN n) :=
  ⟨⟨h.st.os, h.st.tape, h.st.output, h.st.size, h.st.block⟩, ⟨h.kp.size, h.kp.same⟩, h.hb, h.l8, h.l9, h.gl⟩
theorem Gr.forget {base : Nat} {g : List Nat} {v8 v9 : Value} {xs ys : List Value} {W0 W : World} (h : Gr base g v8 v9 xs ys W0 W) : Gr base [] v8 v9 xs ys W0 W :=
  ⟨h.st, h.kp, h.hb, h.l8.shift (fun k hk hp => h.l8.2 k hk (by rcases hp with h | h | h; exact .inl h; exact .inr (.inl h); cases h)), h.l9.shift (fun k hk hp => h.l9.2 k hk (by rcases hp with h | h | h; exact .inl h; exact .inr (.inl h); cases h)), fun k hk => by cases hk⟩
theorem u64Inf' : (Try.prog.info? 70).map (fun i => (i.zero, i.size, i.bytes)) = some (some (.int .u64 0), 1, 8) := by kernel_rfl

set_option linter.unusedSimpArgs false in
set_option maxRecDepth 100000 in
set_option maxHeartbeats 2000000 in
theorem rdenc_any (A : Option Addr) (c : Nat) (l : List Sample) (w : World) (hrd : Rd w 2 A l.length (l.flatMap sampleCells)) (hf : Fine l) (hok : ∀ x ∈ l, Sample.ok x) (hl : l.length ≤ 5000) :
    Calls Try.prog 31 #[.slice A l.length c] w fun e w' => e = .returned (.tuple #[.string (S (encB l)), .int .i64 0]) ∧ Below w.heap.size w w' := by
  have Hrd := Lib.hid hrd
  have Hf := Lib.hid hf
  have Hok := Lib.hid hok
  clear hrd hf hok
  go_enter Try.func31, Try.ntmps31
  go_wp2_with fail
  go_loopw [4] (fun ix wr => ∃ j : Nat, ix = .int .i64 j ∧ j ≤ l.length ∧ Below w.heap.size w wr) (fun ix _ => l.length - (intOf ix).toNat)
  case atStart => exact ⟨0, rfl, by omega, Below.refl _ _⟩
  case round =>
    obtain ⟨j, rfl, hj, hbel⟩ := hrel
    have Hb := Lib.hid hbel
    by_cases hlt : j < l.length
    · obtain ⟨b, off, rfl, hb, f0, f1⟩ := sample_at (Hrd.out.below hbel) hlt
      clear f1
      obtain ⟨g1, g2⟩ := fine_good Hf.out hlt
      have g0 := Hf.out.1 _ (List.getElem_mem hlt)
      rw [← sAt_get hlt] at f0 g0
      have hil : (j : Int) < (l.length : Int) := by omega
      have hi0 : (0 : Int) ≤ (j : Int) := by omega
      rcases Nat.eq_zero_or_pos j with hz | hz
      · subst hz
        clear g1
        generalize (sAt l 0).T = tj at *
        have d0 : decide (tj < 0) = false := decide_eq_false (by omega)
        have d1 : decide (1099511627776 ≤ tj) = false := decide_eq_false (by omega)
        have d1' : decide (tj ≥ 1099511627776) = false := decide_eq_false (by omega)
        rw [Nat.zero_mul, Nat.add_zero] at f0
        clear g0 g2 hbel
        go_wp2_with fail
        go_quiet (fail)
        go_wp2_with fail
        go_roundw
        case rel => exact ⟨1, rfl, by omega, below_drewN Hb.out _⟩
        case measure => simp [intOf]; omega
      · obtain ⟨i, hi⟩ : ∃ i, i + 1 = j := ⟨j - 1, by omega⟩
        obtain ⟨b', off', hA', _, e0, e1⟩ := sample_at (Hrd.out.below hbel) (show i < l.length by omega)
        clear e1
        obtain ⟨rfl, rfl⟩ : b = b' ∧ off = off' := by simpa using hA'
        rw [← sAt_get (show i < l.length by omega)] at e0
        have hp : prevT l j = (sAt l i).T := by rw [← hi]; rfl
        rw [hp] at g1
        generalize (sAt l j).T = tj at *
        generalize (sAt l i).T = ti at *
        have d0 : decide (tj < 0) = false := decide_eq_false (by omega)
        have d1 : decide (1099511627776 ≤ tj) = false := decide_eq_false (by omega)
        have d1' : decide (tj ≥ 1099511627776) = false := decide_eq_false (by omega)
        have d2 : decide ((0 : Int) < (j : Int)) = true := decide_eq_true (by omega)
        have d2' : decide (0 < j) = true := decide_eq_true (by omega)
        have d3 : decide (tj ≤ ti) = false := decide_eq_false (by omega)
        have w1 : IntKind.i64.wrap ((j : Int) - 1) = (i : Int) := by rw [IntKind.wrap_i64]; omega
        have hi1 : (0 : Int) ≤ (i : Int) := by omega
        have hi2 : (i : Int) < (l.length : Int) := by omega
        clear g0 g1 g2 hbel hp hi hz hA'
        go_wp2_with fail
        go_quiet (fail)
        go_wp2_with fail
        go_roundw
        case rel => exact ⟨j + 1, by go_num, by omega, below_drewN Hb.out _⟩
        case measure => simp [intOf]; omega
    · obtain rfl : j = l.length := by omega
      clear hlt hj hbel
      have U0 := Lib.hid (fun w => ruint_any l.length w (by omega))
      have hle : l.length = 0 ∨ 0 < l.length := by omega
      rcases hle with h0 | h0
      · obtain rfl : l = [] := List.eq_nil_of_length_eq_zero h0
        clear h0
        have Henc : Hid (S (uint ([] : List Sample).length) = S (encB [])) := Lib.hid (by simp [encB])
        go_wp2_with fail
        refine (U0.out _).mono ?_
        rintro e w0 ⟨rfl, hx0⟩
        have Hx0 := Lib.hid (Hb.out.trans (hx0.mono Hb.out.size))
        clear hx0
        go_wp2_with fail
        go_ret2
        exact ⟨by rw [← Henc.out]; rfl, Hx0.out⟩
      obtain ⟨b, off, rfl, hb, f0, f1⟩ := sample_at (Hrd.out.below Hb.out) h0
      have hblt := hb
      have hT := Hf.out.1 _ (List.getElem_mem h0)
      have hV := Hok.out _ (List.getElem_mem h0)
      rw [Nat.zero_mul, Nat.add_zero] at f0 f1
      obtain ⟨t0, ht0⟩ : ∃ n : Nat, l[0].T = n := ⟨l[0].T.toNat, by omega⟩
      obtain ⟨v0, hv0⟩ : ∃ v, l[0].V = v := ⟨_, rfl⟩
      rw [ht0] at f0 hT
      rw [hv0] at f1
      have hv1 : In64 v0 := hv0 ▸ hV.2
      have U1 := Lib.hid (fun w => ruint_any t0 w (by omega))
      have U2 := Lib.hid (fun w => rint_any v0 w hv1.1 hv1.2)
      have hwr : IntKind.u64.wrap (t0 : Int) = t0 := by rw [IntKind.wrap_u64]; omega
      have z0 : (S (uint l.length)).size ≤ 10 := by rw [S_size]; exact uint_len_ten (by omega)
      have z1 : (S (uint t0)).size ≤ 10 := by rw [S_size]; exact uint_len_ten (by omega)
      have z2 : (S (uint (foldN v0))).size ≤ 10 := by rw [S_size]; exact uint_len_ten (foldN_lt hv1.1 hv1.2)
      have y1 : ¬ 9223372036854775807 < (S (uint l.length)).size + (S (uint t0)).size := by omega
      have y2 : ¬ 9223372036854775807 < (S (uint l.length)).size + (S (uint t0)).size + (S (uint (foldN v0))).size := by omega
      have Hfirst : Hid (uint t0 ++ uint (foldN v0) = firstB l) := Lib.hid (by
        have e1 : (sAt l 0).T.toNat = t0 := by rw [sAt_get h0, ht0]; rfl
        have e2 : (sAt l 0).V = v0 := by rw [sAt_get h0, hv0]
        unfold firstB
        rw [e1, e2])
      have Ht0 := Lib.hid ht0
      have Hv0 := Lib.hid hv0
      clear hV hv1 ht0 hv0
      go_wp2_with fail
      refine (U0.out _).mono ?_
      rintro e w0 ⟨rfl, hx0⟩
      have q0 := (hx0.cell (p := ⟨b, off, none⟩) hblt).trans f0
      have q1 := (hx0.cell (p := ⟨b, off + 1, none⟩) hblt).trans f1
      have hblt0 : b < w0.heap.size := Nat.lt_of_lt_of_le hblt hx0.size
      have Hx0 := Lib.hid hx0
      clear hx0 f0 f1 hblt
      have hblt := hblt0
      clear hblt0
      go_wp2_with fail
      refine wp_region_held_drew (S := fun w' => w'.cell? ⟨b, off, none⟩ = some (.int .i64 (t0 : Int)) ∧ w'.cell? ⟨b, off + 1, none⟩ = some (.int .i64 v0)) (by kernel_rfl) ?_ (fun hHeld => ?_)
      · go_keep
      refine wpAnyH_take (i := 0) (oi := _) (v := ?_) (by simp only [List.getElem?_toArray, List.getElem?_cons_succ, List.getElem?_cons_zero]; rfl) (by kernel_rfl) (by kernel_rfl) (by kernel_rfl) (by exact fun _ _ _ h => h) (Or.inl ⟨by rfl, ?_⟩) (by assumption) ?_
      rotate_left
      · (intro w hSw; (try dsimp only at hSw); go_simp) <;> with_reducible rfl
      try simp only [Act.put, List.setIfInBounds_toArray, List.set_cons_zero, List.set_cons_succ]
      refine wpAnyH_take (i := 1) (oi := _) (v := ?_) (by simp only [List.getElem?_toArray, List.getElem?_cons_succ, List.getElem?_cons_zero]; rfl) (by kernel_rfl) (by kernel_rfl) (by kernel_rfl) (by exact fun _ _ _ h => h) (Or.inl ⟨by rfl, ?_⟩) (by assumption) ?_
      rotate_left
      · (intro w hSw; (try dsimp only at hSw); go_simp) <;> with_reducible rfl
      try simp only [Act.put, List.setIfInBounds_toArray, List.set_cons_zero, List.set_cons_succ]
      refine wpAnyH_take (i := 2) (oi := _) (v := ?_) (by simp only [List.getElem?_toArray, List.getElem?_cons_succ, List.getElem?_cons_zero]; rfl) (by kernel_rfl) (by kernel_rfl) (by kernel_rfl) (by exact fun _ _ _ h => h) (Or.inl ⟨by rfl, ?_⟩) (by assumption) ?_
      rotate_left
      · (intro w hSw; (try dsimp only at hSw); go_simp) <;> with_reducible rfl
      try simp only [Act.put, List.setIfInBounds_toArray, List.set_cons_zero, List.set_cons_succ]
      refine wpAnyH_take (i := 3) (oi := _) (v := ?_) (by simp only [List.getElem?_toArray, List.getElem?_cons_succ, List.getElem?_cons_zero]; rfl) (by kernel_rfl) (by kernel_rfl) (by kernel_rfl) (by exact fun _ _ _ h => h) (Or.inl ⟨by rfl, ?_⟩) (by assumption) ?_
      rotate_left
      · (intro w hSw; (try dsimp only at hSw); go_simp) <;> with_reducible rfl
      try simp only [Act.put, List.setIfInBounds_toArray, List.set_cons_zero, List.set_cons_succ]
      refine wpAnyH_take (i := 4) (oi := _) (v := ?_) (by simp only [List.getElem?_toArray, List.getElem?_cons_succ, List.getElem?_cons_zero]; rfl) (by kernel_rfl) (by kernel_rfl) (by kernel_rfl) (by exact fun _ _ _ h => h) (Or.inl ⟨by rfl, ?_⟩) (by assumption) ?_
      rotate_left
      · (intro w hSw; (try dsimp only at hSw); go_simp) <;> with_reducible rfl
      try simp only [Act.put, List.setIfInBounds_toArray, List.set_cons_zero, List.set_cons_succ]
      refine wpAnyH_take (i := 5) (oi := _) (v := ?_) (by simp only [List.getElem?_toArray, List.getElem?_cons_succ, List.getElem?_cons_zero]; rfl) (by kernel_rfl) (by kernel_rfl) (by kernel_rfl) (by exact fun _ _ _ h => h) (Or.inl ⟨by rfl, ?_⟩) (by assumption) ?_
      rotate_left
      · (intro w hSw; (try dsimp only at hSw); go_simp) <;> with_reducible rfl
      try simp only [Act.put, List.setIfInBounds_toArray, List.set_cons_zero, List.set_cons_succ]
      refine wpAnyH_take (i := 8) (oi := _) (v := ?_) (by simp only [List.getElem?_toArray, List.getElem?_cons_succ, List.getElem?_cons_zero]; rfl) (by kernel_rfl) (by kernel_rfl) (by kernel_rfl) (by exact fun _ _ _ h => h) (Or.inl ⟨by rfl, ?_⟩) (by assumption) ?_
      rotate_left
      · (intro w hSw; (try dsimp only at hSw); go_simp) <;> with_reducible rfl
      try simp only [Act.put, List.setIfInBounds_toArray, List.set_cons_zero, List.set_cons_succ]
      refine wpAnyH_take (i := 9) (oi := _) (v := ?_) (by simp only [List.getElem?_toArray, List.getElem?_cons_succ, List.getElem?_cons_zero]; rfl) (by kernel_rfl) (by kernel_rfl) (by kernel_rfl) (by exact fun _ _ _ h => h) (Or.inl ⟨by rfl, ?_⟩) (by assumption) ?_
      rotate_left
      · (intro w hSw; (try dsimp only at hSw); go_simp) <;> with_reducible rfl
      try simp only [Act.put, List.setIfInBounds_toArray, List.set_cons_zero, List.set_cons_succ]
      refine wpAnyH_take (i := 10) (oi := _) (v := ?_) (by simp only [List.getElem?_toArray, List.getElem?_cons_succ, List.getElem?_cons_zero]; rfl) (by kernel_rfl) (by kernel_rfl) (by kernel_rfl) (by exact fun _ _ _ h => h) (Or.inl ⟨by rfl, ?_⟩) (by assumption) ?_
      rotate_left
      · (intro w hSw; (try dsimp only at hSw); go_simp) <;> with_reducible rfl
      try simp only [Act.put, List.setIfInBounds_toArray, List.set_cons_zero, List.set_cons_succ]
      refine wpAnyH_take (i := 11) (oi := _) (v := ?_) (by simp only [List.getElem?_toArray, List.getElem?_cons_succ, List.getElem?_cons_zero]; rfl) (by kernel_rfl) (by kernel_rfl) (by kernel_rfl) (by exact fun _ _ _ h => h) (Or.inl ⟨by rfl, ?_⟩) (by assumption) ?_
      rotate_left
      · (intro w hSw; (try dsimp only at hSw); go_simp) <;> with_reducible rfl
      try simp only [Act.put, List.setIfInBounds_toArray, List.set_cons_zero, List.set_cons_succ]
      refine wpAnyH_ready (rs := [6]) (by kernel_rfl) (by simp) ?_
      refine AllReadyH.cons (o := _) (by simp only [List.getElem?_toArray, List.getElem?_cons_succ, List.getElem?_cons_zero]; rfl) (fun K hK => ?_) AllReadyH.nil
      go_simp
      refine (U1.out _).mono ?_
      rintro e wx1 ⟨rfl, hx1⟩
      have Hx1 := Lib.hid hx1
      clear hx1
      go_wp2_with fail
      refine hK.out _ _ ?_ (fun hHeld => ?_)
      · exact ⟨(Hx1.out.cell (p := ⟨b, off, none⟩) hblt).trans hHeld.1, (Hx1.out.cell (p := ⟨b, off + 1, none⟩) hblt).trans hHeld.2⟩
      clear hK K
      try simp only [Act.put, List.setIfInBounds_toArray, List.set_cons_zero, List.set_cons_succ]
      refine wpAnyH_take (i := 7) (oi := _) (v := ?_) (by simp only [List.getElem?_toArray, List.getElem?_cons_succ, List.getElem?_cons_zero]; rfl) (by kernel_rfl) (by kernel_rfl) (by kernel_rfl) (by exact fun _ _ _ h => h) (Or.inl ⟨by rfl, ?_⟩) (by assumption) ?_
      rotate_left
      · (intro w hSw; (try dsimp only at hSw); go_simp) <;> with_reducible rfl
      try simp only [Act.put, List.setIfInBounds_toArray, List.set_cons_zero, List.set_cons_succ]
      refine wpAnyH_ready (rs := [12]) (by kernel_rfl) (by simp) ?_
      refine AllReadyH.cons (o := _) (by simp only [List.getElem?_toArray, List.getElem?_cons_succ, List.getElem?_cons_zero]; rfl) (fun K hK => ?_) AllReadyH.nil
      go_simp
      have hblt1 : b < wx1.heap.size := Nat.lt_of_lt_of_le hblt Hx1.out.size
      refine (U2.out _).mono ?_
      rintro e wx2 ⟨rfl, hx2⟩
      have Hx2 := Lib.hid hx2
      clear hx2
      go_wp2_with fail
      refine hK.out _ _ ?_ (fun hHeld => ?_)
      · exact ⟨(Hx2.out.cell (p := ⟨b, off, none⟩) hblt1).trans hHeld.1, (Hx2.out.cell (p := ⟨b, off + 1, none⟩) hblt1).trans hHeld.2⟩
      clear hK K
      try simp only [Act.put, List.setIfInBounds_toArray, List.set_cons_zero, List.set_cons_succ]
      refine wpAnyH_take (i := 13) (oi := _) (v := ?_) (by simp only [List.getElem?_toArray, List.getElem?_cons_succ, List.getElem?_cons_zero]; rfl) (by kernel_rfl) (by kernel_rfl) (by kernel_rfl) (by exact fun _ _ _ h => h) (Or.inl ⟨by rfl, ?_⟩) (by assumption) ?_
      rotate_left
      · (intro w hSw; (try dsimp only at hSw); go_simp) <;> with_reducible rfl
      try simp only [Act.put, List.setIfInBounds_toArray, List.set_cons_zero, List.set_cons_succ]
      refine wpAnyH_take (i := 14) (oi := _) (v := ?_) (by simp only [List.getElem?_toArray, List.getElem?_cons_succ, List.getElem?_cons_zero]; rfl) (by kernel_rfl) (by kernel_rfl) (by kernel_rfl) (by exact fun _ _ _ h => h) (Or.inl ⟨by rfl, ?_⟩) (by assumption) ?_
      rotate_left
      · (intro w hSw; (try dsimp only at hSw); go_simp) <;> with_reducible rfl
      try simp only [Act.put, List.setIfInBounds_toArray, List.set_cons_zero, List.set_cons_succ]
      refine wpAnyH_done (by kernel_rfl) ?_ _
      have hall : Below w.heap.size w wx2 := by
        have hx0 := Hx0.out.mono Hb.out.size
        have b1 := (Hb.out.trans hx0).drew
        have b2 := b1.trans (Hx1.out.mono b1.size)
        exact b2.trans (Hx2.out.mono b2.size)
      have Hall := Lib.hid hall
      clear hall Hx1 Hx2
      by_cases h2 : l.length < 2
      · have Henc : Hid (S (uint l.length) ++ S (uint t0) ++ S (uint (foldN v0)) = S (encB l)) := Lib.hid (by
          unfold encB
          rw [if_neg (by omega), if_pos (by omega), ← Hfirst.out]
          simp only [S_append, List.append_assoc, List.append_nil])
        have hd1 : ((l.length : Int) == 1) = true := by rw [beq_iff_eq]; omega
        go_wp2_with fail
        go_ret2
        exact ⟨by rw [Henc.out]; rfl, Hall.out⟩
      · have hd1 : ((l.length : Int) == 1) = false := by rw [beq_eq_false_iff_ne]; omega
        have hG0 := gr_made wx2
        have hW1 : Below w.heap.size w ((wx2.alloc (.cells #[] 70)).alloc (.cells #[] 70)) := Hall.out.trans ((below_two wx2 _ _).mono Hall.out.size)
        have hps : w.heap.size ≤ wx2.heap.size := Hall.out.size
        have Hpw : Hid (wx2.heap.size ≤ ((wx2.alloc (.cells #[] 70)).alloc (.cells #[] 70)).heap.size) := Lib.hid (by simp; omega)
        have HG0 := Lib.hid hG0
        have HW1 := Lib.hid hW1
        clear hG0 hW1
        go_wp2_with fail
        generalize ((wx2.alloc (.cells #[] 70)).alloc (.cells #[] 70)) = W1 at *
        generalize wx2.heap.size = p at *
        have hbp : b < p := by
          obtain ⟨b', off', hA', hbb, _⟩ := sample_at Hrd.out h0
          obtain ⟨rfl, rfl⟩ : b = b' ∧ off = off' := by simpa using hA'
          omega
        clear q0 q1 hblt hblt1 hb U0 U1 U2
        go_loopw [6, 7, 8, 9] (fun v6 v7 av ix wr => ∃ j : Nat, ix = .int .i64 (j + 1 : Nat) ∧ j ≤ l.length - 1 ∧ av = .int .i64 (ahead l j) ∧ Gr p [] v6 v7 (u64Cells (((nums l).take j).map Prod.fst)) (u64Cells (((nums l).take j).map Prod.snd)) W1 wr) (fun _ _ _ ix _ => l.length - (intOf ix).toNat)
        case atStart => exact ⟨0, rfl, by omega, rfl, HG0.out⟩
        case round =>
          rename World => wr2
          obtain ⟨j, rfl, hj, rfl, hG⟩ := hrel
          have hbw : Below w.heap.size w wr2 := HW1.out.trans (hG.st.below (fun k hk => by omega))
          obtain ⟨n, hn⟩ : ∃ n, n = j + 1 := ⟨_, rfl⟩
          rw [← hn]
          by_cases hlt : j < l.length - 1
          · obtain ⟨b', off', hA', hbl, e0, e1⟩ := sample_at (Hrd.out.below hbw) (show n < l.length by omega)
            obtain ⟨rfl, rfl⟩ : b = b' ∧ off = off' := by simpa using hA'
            obtain ⟨b', off', hA', _, f0, f1⟩ := sample_at (Hrd.out.below hbw) (show j < l.length by omega)
            obtain ⟨rfl, rfl⟩ : b = b' ∧ off = off' := by simpa using hA'
            rw [← sAt_get] at e0 e1 f0 f1
            have hd := dist_lt Hf.out (show j + 1 < l.length by omega)
            have ha := ahead_lt Hf.out (show j < l.length by omega)
            have w2 : IntKind.i64.wrap ((sAt l n).T - (sAt l j).T) = dist l j := by
              have : dist l j = (sAt l (j + 1)).T - (sAt l j).T := rfl
              rw [← hn] at this
              rw [IntKind.wrap_i64]
              omega
            have hnum : numAt l j = (foldN (dist l j - ahead l j), foldN (wrapV ((sAt l n).V - (sAt l j).V))) := by rw [hn]; rfl
            have hv := wrapV_in ((sAt l n).V - (sAt l j).V)
            have w4 : IntKind.i64.wrap ((sAt l n).V - (sAt l j).V) = wrapV ((sAt l n).V - (sAt l j).V) := rfl
            have hah : ahead l n = dist l j := by rw [hn]; rfl
            have Hnt := Lib.hid (nums_take (show j + 1 < l.length by omega))
            have Hnum := Lib.hid hnum
            have Hah := Lib.hid hah
            have w1 : IntKind.i64.wrap ((n : Int) - 1) = (j : Int) := by rw [IntKind.wrap_i64]; omega
            have hi1 : (0 : Int) ≤ (j : Int) := by omega
            have hi2 : (j : Int) < (l.length : Int) := by omega
            have hi3 : (0 : Int) ≤ (n : Int) := by omega
            have hi4 : (n : Int) < (l.length : Int) := by omega
            have Hn := Lib.hid hn
            clear hnum hah hn hA' hbl
            generalize wrapV ((sAt l n).V - (sAt l j).V) = y2 at *
            generalize (sAt l n).T = tn at *
            generalize (sAt l n).V = vn at *
            generalize (sAt l j).T = tj at *
            generalize (sAt l j).V = vj at *
            generalize dist l j = d at *
            generalize ahead l j = a at *
            have HG := Lib.hid hG
            have Hbw := Lib.hid hbw
            clear hG hbw
            go_wp2_with fail
            go_quiet (fail)
            have HG2 := Lib.hid (HG.out.drewN nq)
            generalize wr2.drewN nq = wq at *
            have hl8 : (u64Cells (((nums l).take j).map Prod.fst)).length ≤ 5000 := by simp [u64Cells]; omega
            have hl9 : (u64Cells (((nums l).take j).map Prod.snd)).length ≤ 5000 := by simp [u64Cells]; omega
            have Hc8 := Lib.hid (show u64Cells (((nums l).take (j + 1)).map Prod.fst) = u64Cells (((nums l).take j).map Prod.fst) ++ [.int .u64 (foldN (d - a) : Nat)] by rw [Hnt.out, Hnum.out]; simp [u64Cells])
            have Hc9 := Lib.hid (show u64Cells (((nums l).take (j + 1)).map Prod.snd) = u64Cells (((nums l).take j).map Prod.snd) ++ [.int .u64 (foldN y2 : Nat)] by rw [Hnt.out, Hnum.out]; simp [u64Cells])
            generalize u64Cells (((nums l).take j).map Prod.fst) = zs8 at *
            generalize u64Cells (((nums l).take j).map Prod.snd) = zs9 at *
            go_wp2_with fail
            refine (rfold_any (d - a) _ (by omega) (by omega)).mono ?_
            rintro e wq' ⟨rfl, rfl⟩
            go_wp2_with (at_builtin; go_must (refine wpList_append_elem_row rfl _ _ 82 (by rfl) 70 (.int .u64 0) 1 8 Try.underlying82 u64Inf' rfl (by decide) _ zs8.length zs8 _ wq #[.int .u64 (foldN (d - a) : Nat)] rfl (by intro u hu; simp at hu; subst hu; rfl) HG2.out.l8 (by rfl) HG2.out.old8 (by rfl) (by unfold maxLen; omega) (by omega) ?_); intro v8 w5 hown5 hst5 hgr5 hat5)
            have HG5 := Lib.hid (HG2.out.append hown5 hst5 hgr5 hat5)
            have hw25 : w5.heap[b]? = wr2.heap[b]? := (HG5.out.st.block b hbp).trans (HG.out.st.block b hbp).symm
            have e1' := (World.cell?_of_block (a := ⟨b, off + n * 2 + 1, none⟩) hw25).trans e1
            have f1' := (World.cell?_of_block (a := ⟨b, off + j * 2 + 1, none⟩) hw25).trans f1
            have F2 := Lib.hid (fun w => (rfold_any y2 w hv.1 hv.2).mono fun e w' (h : e = _ ∧ w = w') => (⟨h.1, h.2.symm⟩ : e = _ ∧ w' = w))
            clear hown5 hst5 hgr5 hat5 hw25 e0 e1 f0 f1 w2 hd ha
            go_wp2_with fail
            refine wp_region_held_drew (S := fun w' => w'.cell? ⟨b, off + n * 2 + 1, none⟩ = some (.int .i64 vn) ∧ w'.cell? ⟨b, off + j * 2 + 1, none⟩ = some (.int .i64 vj)) (by kernel_rfl) ?_ (fun hHeld => ?_)
            · go_keep
            refine wpAnyH_take (i := 0) (oi := _) (v := ?_) (by simp only [List.getElem?_toArray, List.getElem?_cons_succ, List.getElem?_cons_zero]; rfl) (by kernel_rfl) (by kernel_rfl) (by kernel_rfl) (by exact fun _ _ _ h => h) (Or.inl ⟨by rfl, ?_⟩) (by assumption) ?_
            rotate_left
            · (intro w hSw; (try dsimp only at hSw); go_simp) <;> with_reducible rfl
            try simp only [Act.put, List.setIfInBounds_toArray, List.set_cons_zero, List.set_cons_succ]
            refine wpAnyH_take (i := 1) (oi := _) (v := ?_) (by simp only [List.getElem?_toArray, List.getElem?_cons_succ, List.getElem?_cons_zero]; rfl) (by kernel_rfl) (by kernel_rfl) (by kernel_rfl) (by exact fun _ _ _ h => h) (Or.inl ⟨by rfl, ?_⟩) (by assumption) ?_
            rotate_left
            · (intro w hSw; (try dsimp only at hSw); go_simp) <;> with_reducible rfl
            try simp only [Act.put, List.setIfInBounds_toArray, List.set_cons_zero, List.set_cons_succ]
            refine wpAnyH_take (i := 2) (oi := _) (v := ?_) (by simp only [List.getElem?_toArray, List.getElem?_cons_succ, List.getElem?_cons_zero]; rfl) (by kernel_rfl) (by kernel_rfl) (by kernel_rfl) (by exact fun _ _ _ h => h) (Or.inl ⟨by rfl, ?_⟩) (by assumption) ?_
            rotate_left
            · (intro w hSw; (try dsimp only at hSw); go_simp) <;> with_reducible rfl
            try simp only [Act.put, List.setIfInBounds_toArray, List.set_cons_zero, List.set_cons_succ]
            refine wpAnyH_take (i := 3) (oi := _) (v := ?_) (by simp only [List.getElem?_toArray, List.getElem?_cons_succ, List.getElem?_cons_zero]; rfl) (by kernel_rfl) (by kernel_rfl) (by kernel_rfl) (by exact fun _ _ _ h => h) (Or.inl ⟨by rfl, ?_⟩) (by assumption) ?_
            rotate_left
            · (intro w hSw; (try dsimp only at hSw); go_simp) <;> with_reducible rfl
            try simp only [Act.put, List.setIfInBounds_toArray, List.set_cons_zero, List.set_cons_succ]
            refine wpAnyH_take (i := 4) (oi := _) (v := ?_) (by simp only [List.getElem?_toArray, List.getElem?_cons_succ, List.getElem?_cons_zero]; rfl) (by kernel_rfl) (by kernel_rfl) (by kernel_rfl) (by exact fun _ _ _ h => h) (Or.inl ⟨by rfl, ?_⟩) (by assumption) ?_
            rotate_left
            · (intro w hSw; (try dsimp only at hSw); go_simp) <;> with_reducible rfl
            try simp only [Act.put, List.setIfInBounds_toArray, List.set_cons_zero, List.set_cons_succ]
            refine wpAnyH_take (i := 5) (oi := _) (v := ?_) (by simp only [List.getElem?_toArray, List.getElem?_cons_succ, List.getElem?_cons_zero]; rfl) (by kernel_rfl) (by kernel_rfl) (by kernel_rfl) (by exact fun _ _ _ h => h) (Or.inl ⟨by rfl, ?_⟩) (by assumption) ?_
            rotate_left
            · (intro w hSw; (try dsimp only at hSw); go_simp) <;> with_reducible rfl
            try simp only [Act.put, List.setIfInBounds_toArray, List.set_cons_zero, List.set_cons_succ]
            refine wpAnyH_take (i := 6) (oi := _) (v := ?_) (by simp only [List.getElem?_toArray, List.getElem?_cons_succ, List.getElem?_cons_zero]; rfl) (by kernel_rfl) (by kernel_rfl) (by kernel_rfl) (by exact fun _ _ _ h => h) (Or.inl ⟨by rfl, ?_⟩) (by assumption) ?_
            rotate_left
            · (intro w hSw; (try dsimp only at hSw); go_simp) <;> with_reducible rfl
            try simp only [Act.put, List.setIfInBounds_toArray, List.set_cons_zero, List.set_cons_succ]
            refine wpAnyH_take (i := 7) (oi := _) (v := ?_) (by simp only [List.getElem?_toArray, List.getElem?_cons_succ, List.getElem?_cons_zero]; rfl) (by kernel_rfl) (by kernel_rfl) (by kernel_rfl) (by exact fun _ _ _ h => h) (Or.inl ⟨by rfl, ?_⟩) (by assumption) ?_
            rotate_left
            · (intro w hSw; (try dsimp only at hSw); go_simp) <;> with_reducible rfl
            try simp only [Act.put, List.setIfInBounds_toArray, List.set_cons_zero, List.set_cons_succ]
            refine wpAnyH_take (i := 8) (oi := _) (v := ?_) (by simp only [List.getElem?_toArray, List.getElem?_cons_succ, List.getElem?_cons_zero]; rfl) (by kernel_rfl) (by kernel_rfl) (by kernel_rfl) (by exact fun _ _ _ h => h) (Or.inl ⟨by rfl, ?_⟩) (by assumption) ?_
            rotate_left
            · (intro w hSw; (try dsimp only at hSw); go_simp) <;> with_reducible rfl
            try simp only [Act.put, List.setIfInBounds_toArray, List.set_cons_zero, List.set_cons_succ]
            refine wpAnyH_take (i := 9) (oi := _) (v := ?_) (by simp only [List.getElem?_toArray, List.getElem?_cons_succ, List.getElem?_cons_zero]; rfl) (by kernel_rfl) (by kernel_rfl) (by kernel_rfl) (by exact fun _ _ _ h => h) (Or.inl ⟨by rfl, ?_⟩) (by assumption) ?_
            rotate_left
            · (intro w hSw; (try dsimp only at hSw); go_simp) <;> with_reducible rfl
            try simp only [Act.put, List.setIfInBounds_toArray, List.set_cons_zero, List.set_cons_succ]
            refine wpAnyH_take (i := 10) (oi := _) (v := ?_) (by simp only [List.getElem?_toArray, List.getElem?_cons_succ, List.getElem?_cons_zero]; rfl) (by kernel_rfl) (by kernel_rfl) (by kernel_rfl) (by exact fun _ _ _ h => h) (Or.inl ⟨by rfl, ?_⟩) (by assumption) ?_
            rotate_left
            · (intro w hSw; (try dsimp only at hSw); go_simp) <;> with_reducible rfl
            try simp only [Act.put, List.setIfInBounds_toArray, List.set_cons_zero, List.set_cons_succ]
            refine wpAnyH_take (i := 11) (oi := _) (v := ?_) (by simp only [List.getElem?_toArray, List.getElem?_cons_succ, List.getElem?_cons_zero]; rfl) (by kernel_rfl) (by kernel_rfl) (by kernel_rfl) (by exact fun _ _ _ h => h) (Or.inl ⟨by rfl, ?_⟩) (by assumption) ?_
            rotate_left
            · (intro w hSw; (try dsimp only at hSw); go_simp) <;> with_reducible rfl
            try simp only [Act.put, List.setIfInBounds_toArray, List.set_cons_zero, List.set_cons_succ]
            refine wpAnyH_take (i := 12) (oi := _) (v := ?_) (by simp only [List.getElem?_toArray, List.getElem?_cons_succ, List.getElem?_cons_zero]; rfl) (by kernel_rfl) (by kernel_rfl) (by kernel_rfl) (by exact fun _ _ _ h => h) (Or.inl ⟨by rfl, ?_⟩) (by assumption) ?_
            rotate_left
            · (intro w hSw; (try dsimp only at hSw); go_simp) <;> with_reducible rfl
            try simp only [Act.put, List.setIfInBounds_toArray, List.set_cons_zero, List.set_cons_succ]
            refine wpAnyH_ready (rs := [13]) (by kernel_rfl) (by simp) ?_
            refine AllReadyH.cons (o := _) (by simp only [List.getElem?_toArray, List.getElem?_cons_succ, List.getElem?_cons_zero]; rfl) (fun K hK => ?_) AllReadyH.nil
            go_simp
            refine (F2.out _).mono ?_
            rintro e wz ⟨rfl, rfl⟩
            go_wp2_with fail
            refine hK.out _ _ ?_ (fun hHeld => ?_)
            · exact hHeld
            clear hK K
            try simp only [Act.put, List.setIfInBounds_toArray, List.set_cons_zero, List.set_cons_succ]
            refine wpAnyH_ready (rs := [14]) (by kernel_rfl) (by simp) ?_
            refine AllReadyH.cons (o := _) (by simp only [List.getElem?_toArray, List.getElem?_cons_succ, List.getElem?_cons_zero]; rfl) (fun K hK => ?_) AllReadyH.nil
            have H6 := HG5.out.drew.build (Nat.le_trans (Nat.le_refl _) Hpw.out) (.int .u64 (foldN y2 : Nat))
            go_simp
            refine hK.out _ _ ?_ (fun hHeld => ?_)
            · exact ⟨Lib.cell?_alloc_some _ hHeld.1, Lib.cell?_alloc_some _ hHeld.2⟩
            clear hK K
            try simp only [Act.put, List.setIfInBounds_toArray, List.set_cons_zero, List.set_cons_succ]
            refine wpAnyH_ready (rs := [15]) (by kernel_rfl) (by simp) ?_
            refine AllReadyH.cons (o := _) (by simp only [List.getElem?_toArray, List.getElem?_cons_succ, List.getElem?_cons_zero]; rfl) (fun K hK => ?_) AllReadyH.nil
            refine Gr.step rfl (.tmp 109) (.tmp 123) rfl (by kernel_rfl) (by kernel_rfl) (u := .int .u64 (foldN y2 : Nat)) H6.swap rfl _ 1 rfl (rd_built w5.drew (.int .u64 (foldN y2 : Nat))) rfl (by omega) ?_
            intro v9 w7 H7 _
            have hw7 := H7.st.block b hbp
            have hw5 := HG5.out.st.block b hbp
            refine hK.out _ _ ?_ (fun hHeld => ?_)
            · exact ⟨(World.cell?_of_block (a := ⟨b, off + n * 2 + 1, none⟩) (hw7.trans hw5.symm)).trans e1', (World.cell?_of_block (a := ⟨b, off + j * 2 + 1, none⟩) (hw7.trans hw5.symm)).trans f1'⟩
            clear hK K
            try simp only [Act.put, List.setIfInBounds_toArray, List.set_cons_zero, List.set_cons_succ]
            refine wpAnyH_take (i := 16) (oi := _) (v := ?_) (by simp only [List.getElem?_toArray, List.getElem?_cons_succ, List.getElem?_cons_zero]; rfl) (by kernel_rfl) (by kernel_rfl) (by kernel_rfl) (by exact fun _ _ _ h => h) (Or.inl ⟨by rfl, ?_⟩) (by assumption) ?_
            rotate_left
            · (intro w hSw; (try dsimp only at hSw); go_simp) <;> with_reducible rfl
            try simp only [Act.put, List.setIfInBounds_toArray, List.set_cons_zero, List.set_cons_succ]
            refine wpAnyH_done (by kernel_rfl) ?_ _
            have HG7 := Lib.hid (Gr.forget H7).swap
            clear H6 H7 hw7 hw5
            go_wp2_with fail
            go_roundw
            case rel => exact ⟨n, by go_num, by have := Hn.out; omega, by rw [Hah.out], by rw [Hn.out, Hc8.out, Hc9.out]; exact HG7.out⟩
            case measure => simp [intOf]; omega
          · obtain rfl : j = l.length - 1 := by omega
            have etk : (nums l).take (l.length - 1) = nums l := List.take_of_length_le (by rw [nums_length]; exact Nat.le_refl _)
            rw [etk] at hG
            obtain ⟨A8, n8, rfl⟩ := hG.l8.form
            obtain ⟨A9, n9, rfl⟩ := hG.l9.form
            have e8 : (u64Cells ((nums l).map Prod.fst)).length = ((nums l).map Prod.fst).length := by simp [u64Cells]
            have e9 : (u64Cells ((nums l).map Prod.snd)).length = ((nums l).map Prod.snd).length := by simp [u64Cells]
            have R8 : Rd wr2 1 A8 ((nums l).map Prod.fst).length (u64Cells ((nums l).map Prod.fst)) := by have := hG.l8.rd; rwa [e8] at this
            have R9 : Rd wr2 1 A9 ((nums l).map Prod.snd).length (u64Cells ((nums l).map Prod.snd)) := by have := hG.l9.rd; rwa [e9] at this
            obtain ⟨b8, o8, rfl, _, _⟩ := R8.2 (by rw [List.length_map, nums_length]; omega)
            obtain ⟨b9, o9, rfl, _, _⟩ := R9.2 (by rw [List.length_map, nums_length]; omega)
            rw [e8, e9]
            have nlt : ∀ p ∈ nums l, p.1 < 18446744073709551616 ∧ p.2 < 18446744073709551616 := fun p hp => by
              obtain ⟨i, hi, rfl⟩ := List.getElem_of_mem hp
              rw [nums_get hi]
              rw [nums_length] at hi
              exact num_lt Hf.out (by omega)
            have X8 : Hid (∀ x ∈ (nums l).map Prod.fst, x < 18446744073709551616) := Lib.hid (fun x hx => by obtain ⟨p, hp, rfl⟩ := List.mem_map.1 hx; exact (nlt p hp).1)
            have X9 : Hid (∀ x ∈ (nums l).map Prod.snd, x < 18446744073709551616) := Lib.hid (fun x hx => by obtain ⟨p, hp, rfl⟩ := List.mem_map.1 hx; exact (nlt p hp).2)
            have hl8 : ((nums l).map Prod.fst).length = l.length - 1 := by rw [List.length_map, nums_length]
            have hl9 : ((nums l).map Prod.snd).length = l.length - 1 := by rw [List.length_map, nums_length]
            have Hn := Lib.hid hn
            have hnl : ¬ n < l.length := by omega
            have Hbw := Lib.hid hbw
            clear e8 e9 nlt hn hbw hG etk hj
            generalize hx8 : (nums l).map Prod.fst = xs8 at R8 X8 hl8 ⊢
            generalize hx9 : (nums l).map Prod.snd = xs9 at R9 X9 hl9 ⊢
            have Hx8 := Lib.hid hx8
            have Hx9 := Lib.hid hx9
            have hlen : xs8.length ≤ xs9.length ∧ xs8.length ≤ 5000 ∧ xs9.length ≤ 5000 := by omega
            have Hlen := Lib.hid hl8
            have B1 := Lib.hid (fun w hr => rbest_any (some ⟨b8, o8, none⟩) n8 xs8 w hr hlen.2.1 X8.out)
            have B2 := Lib.hid (fun w hr => rbest_any (some ⟨b9, o9, none⟩) n9 xs9 w hr hlen.2.2 X9.out)
            clear hx8 hx9 hl8 hl9
            go_wp2_with fail
            refine (B1.out _ R8).mono ?_
            rintro e wy1 ⟨rfl, hy1⟩
            have R9' := R9.below hy1
            have Hy1 := Lib.hid hy1
            clear hy1
            go_wp2_with fail
            refine (B2.out _ R9').mono ?_
            rintro e wy2 ⟨rfl, hy2⟩
            have R8y := Lib.hid ((R8.below Hy1.out).below hy2)
            have R9y := Lib.hid (R9'.below hy2)
            have HW := Lib.hid (Hbw.out.trans ((Hy1.out.then hy2).mono Hbw.out.size))
            clear hy2 R8 R9 R9' Hy1 B1 B2
            have hk1 : bestN xs8 40 ≤ 40 := bestN_le _ _
            have hk2 : bestN xs9 40 ≤ 40 := bestN_le _ _
            have Hk : Hid (bestN xs8 40 = bestT l ∧ bestN xs9 40 = bestV l) := Lib.hid ⟨by rw [← Hx8.out]; rfl, by rw [← Hx9.out]; rfl⟩
            generalize bestN xs8 40 = k1 at *
            generalize bestN xs9 40 = k2 at *
            go_wp2_with fail
            refine (rnew_any _).mono ?_
            rintro e wz ⟨rfl, hwz⟩
            have hz : RefF wy2.heap.size [] (fun k => k = wy2.heap.size) wz := by rw [hwz]; exact rnewW wy2
            have hbz : Below wy2.heap.size wy2 wz := by rw [hwz]; exact Below.one _ _
            have Hz := Lib.hid hz
            have Hbz := Lib.hid hbz
            clear hz hbz hwz
            have N8 := Lib.hid (fun (j : Nat) (h : j < xs8.length) (h' : j < xs9.length) => bits2_next Hx8.out Hx9.out h h' k1 k2)
            have O8 := Lib.hid (fun j => bits2_len hk1 hk2 ((nums l).take j))
            go_wp2_with fail
            go_loopw [14] (fun ix wr3 => ∃ (j : Nat) (F : Nat → Prop), ix = .int .i64 j ∧ j ≤ xs8.length ∧ RefF wy2.heap.size (bits2 ((nums l).take j) k1 k2) F wr3 ∧ (∀ k, F k → wy2.heap.size ≤ k) ∧ Below wy2.heap.size wy2 wr3) (fun ix _ => xs8.length - (intOf ix).toNat)
            case atStart => exact ⟨0, _, rfl, by omega, Hz.out, fun k hk => by omega, Hbz.out⟩
            case round =>
              rename World => wr3
              obtain ⟨j, F, rfl, hj, hF, hFk, hbr⟩ := hrel
              have hsz2 := hbr.size
              by_cases hlt : j < xs8.length
              · have hlt9 : j < xs9.length := by omega
                obtain ⟨b8', o8', hA', _, e8⟩ := u64_at (R8y.out.below hbr) hlt
                obtain ⟨rfl, rfl⟩ : b8 = b8' ∧ o8 = o8' := by simpa using hA'
                have hok := O8.out j
                have hn := N8.out j hlt hlt9
                have h8x := X8.out _ (List.getElem_mem hlt)
                have h9x := X9.out _ (List.getElem_mem hlt9)
                have hln : (bits2 ((nums l).take j) k1 k2).length ≤ 900000 := by
                  have h2 : ((nums l).take j).length ≤ j := List.length_take_le _ _
                  omega
                obtain ⟨t, ht⟩ : ∃ t, xs8[j] = t := ⟨_, rfl⟩
                obtain ⟨y, hy⟩ : ∃ y, xs9[j] = y := ⟨_, rfl⟩
                rw [ht] at e8 h8x
                rw [hy] at h9x
                rw [ht, hy] at hn
                have Hy := Lib.hid hy
                have Hn2 := Lib.hid hn
                have C1 := Lib.hid (rriceF0 wy2.heap.size (bits2 ((nums l).take j) k1 k2) F t k1 wr3 hF h8x hk1 (by omega))
                have hct := costOne_le (n := t) hk1
                have C2 := Lib.hid (fun F' w' h => rriceF0 wy2.heap.size (bits2 ((nums l).take j) k1 k2 ++ codeL t k1) F' y k2 w' h h9x hk2 (by rw [List.length_append, codeL_length]; omega))
                have HF := Lib.hid hF
                have HFk := Lib.hid hFk
                have Hbr := Lib.hid hbr
                clear hA' hok hn hy ht h8x h9x hct hF hFk hbr
                go_wp2_with fail
                refine C1.out.mono ?_
                rintro e wr4 ⟨rfl, F3, hF3, hf3⟩
                have hb3 : Below wy2.heap.size wy2 wr4 := Hbr.out.trans (hf3.below hsz2 HFk.out)
                obtain ⟨b9', o9', hA', _, e9⟩ := u64_at (R9y.out.below hb3) hlt9
                obtain ⟨rfl, rfl⟩ : b9 = b9' ∧ o9 = o9' := by simpa using hA'
                rw [Hy.out] at e9
                have HF3 := Lib.hid hF3
                have Hf3 := Lib.hid hf3
                have Hb3 := Lib.hid hb3
                clear hA' hF3 hf3 hb3
                go_wp2_with fail
                refine (C2.out _ _ HF3.out).mono ?_
                rintro e wr5 ⟨rfl, F4, hF4, hf4⟩
                have hFk3 : ∀ k, F3 k → wy2.heap.size ≤ k := fun k hk => (Hf3.out.new k hk).elim (HFk.out k) (fun h => Nat.le_trans hsz2 h)
                have hFk4 := Lib.hid (show ∀ k, F4 k → wy2.heap.size ≤ k from fun k hk => (hf4.new k hk).elim (hFk3 k) (fun h => Nat.le_trans Hb3.out.size h))
                have Hb4 := Lib.hid (Hb3.out.trans (hf4.below Hb3.out.size hFk3))
                have HF4 := Lib.hid hF4
                clear hF4 hf4 hFk3
                go_wp2_with fail
                go_roundw
                case rel => exact ⟨j + 1, F4, by go_num, by omega, by rw [Hn2.out]; exact HF4.out, hFk4.out, Hb4.out⟩
                case measure => simp [intOf]; omega
              · obtain rfl : j = xs8.length := by omega
                have etk : (nums l).take xs8.length = nums l := List.take_of_length_le (by rw [nums_length, Hlen.out]; exact Nat.le_refl _)
                have hok := O8.out xs8.length
                rw [etk] at hF hok
                have hwo := wrN_ok hk1 hk2 (nums l)
                have hln : (wrN (nums l) k1 k2).L.length ≤ 200000 ∧ (bits2 (nums l) k1 k2).length ≤ 900000 := by
                  have h1 := hwo.2
                  have h2 := nums_length l
                  have h3 := Hlen.out
                  omega
                have hFlt := Lib.hid hF.lt
                have hout := Lib.hid (out_len (wrN (nums l) k1 k2))
                have z4 : (S (wrN (nums l) k1 k2).out).size ≤ 300000 := by rw [S_size]; have := hout.out; omega
                have z3 : (S [UInt8.ofNat k1, UInt8.ofNat k2]).size = 2 := by rw [S_size]; rfl
                have BF := Lib.hid (fun w' (h : RefF wy2.heap.size (bits2 (nums l) k1 k2) F w') => rbytesF wy2.heap.size (bits2 (nums l) k1 k2) (wrN (nums l) k1 k2) F w' h (wrN_bits _ _ _) hwo.1.1 (by omega))
                have u1 : IntKind.u8.wrap (k1 : Int) = (k1 : Int) := by rw [IntKind.wrap_u8]; omega
                have u2 : IntKind.u8.wrap (k2 : Int) = (k2 : Int) := by rw [IntKind.wrap_u8]; omega
                have hcv := run_two_at (P := Try.prog) (src := 62) (dst := 9) (k1 : Int) (k2 : Int) (UInt8.ofNat k1) (UInt8.ofNat k2) (by rw [UInt8.toNat_ofNat']; omega) (by rw [UInt8.toNat_ofNat']; omega) Try.underlying62 Try.underlying5 Try.underlying9
                have Henc : Hid (S (uint l.length) ++ S (uint t0) ++ S (uint (foldN v0)) ++ S [UInt8.ofNat k1, UInt8.ofNat k2] ++ S (wrN (nums l) k1 k2).out = S (encB l)) := Lib.hid (by
                  unfold encB bodyB
                  rw [if_neg (by omega), if_neg (by omega), ← Hfirst.out, ← Hk.out.1, ← Hk.out.2]
                  simp only [S_append, List.append_assoc])
                have HFd : Hid (RefF wy2.heap.size (bits2 (nums l) k1 k2) F wr3.drew) := Lib.hid (InF.below (ref_local _ _) hF (Below.refl _ _).drew)
                have HFa : Hid (RefF wy2.heap.size (bits2 (nums l) k1 k2) F (wr3.alloc (.cells #[.int .u8 (k1 : Int), .int .u8 (k2 : Int)] 5)).drew) := Lib.hid (InF.below (ref_local _ _) hF (Below.one _ _).drew)
                have HFk := Lib.hid hFk
                have Hbr := Lib.hid hbr
                clear etk hok hF hFk hbr hln hwo N8 O8 X8 X9
                go_wp2_with fail
                go_region_with (first | (go_at_call 50; refine (BF.out _ HFd.out).mono ?_; rintro e w5 ⟨rfl, hs5⟩; obtain ⟨hbc, _⟩ := bcell hs5) | (go_at_call 50; refine (BF.out _ HFa.out).mono ?_; rintro e w5 ⟨rfl, hs5⟩; obtain ⟨hbc, _⟩ := bcell hs5))
                all_goals
                  have hb5 : Below wy2.heap.size wy2 w5 := by
                    first
                      | exact Hbr.out.trans (hs5.drewl.mono hsz2)
                      | exact (Hbr.out.trans ((Below.one _ _).drew.mono hsz2)).trans (hs5.mono (by simp; omega))
                  have Hb5 := Lib.hid hb5
                  clear hb5 hbc
                  go_wp2_with fail
                  go_ret2
                  refine ⟨?_, ?_⟩
                  · have e2 : Ending.returned (.tuple #[.string (S (uint l.length) ++ S (uint t0) ++ S (uint (foldN v0)) ++ S [UInt8.ofNat k1, UInt8.ofNat k2] ++ S (wrN (nums l) k1 k2).out), .int .i64 0]) = .returned (.tuple #[.string (S (encB l)), .int .i64 0]) := by rw [Henc.out]
                    exact e2
                  · have hw5 := HW.out.trans (Hb5.out.mono HW.out.size)
                    have hw6 := fun o => hw5.trans ((Below.one w5 o).mono hw5.size)
                    first
                      | exact hw5
                      | exact hw6 _
end Go.Proofs.Ytmafdbdmmfpeeaa
