/-
  delta.Encode, of no sample, of one, of samples that are refused.
-/
import Derived.Test.YtmafdbdmmfpeeaaDEnc
namespace Go.Proofs.Ytmafdbdmmfpeeaa
open Go Go.RowKit Go.Shelf
attribute [local go_sem] Oper.semAt_some

theorem uint_zero_enc : S (encB []) = S (uint 0) := by simp [encB]
set_option maxRecDepth 100000 in
set_option maxHeartbeats 1000000 in
theorem denc_nil (A : Option Addr) (c : Nat) (w : World) :
    Calls Try.prog 27 #[.slice A 0 c] w fun e w' => e = .returned (.tuple #[.string (S (encB [])), .int .i64 0]) ∧ Below w.heap.size w w' := by
  have U0 := Lib.hid (fun w => uint_any 0 w (by omega))
  rw [uint_zero_enc]
  go_enter Try.func27, Try.ntmps27
  go_wp2_with fail
  go_loop [22] (fun ix => ix = .int .i64 0) (fun _ => 0)
  case atStart => rfl
  case round =>
    subst hrel
    go_wp2_with fail
    refine (U0.out _).mono ?_
    rintro e w0 ⟨rfl, hx0⟩
    go_wp2_with fail
    go_ret2
    exact ⟨rfl, hx0⟩

set_option linter.unusedSimpArgs false in
set_option maxRecDepth 100000 in
set_option maxHeartbeats 2000000 in
theorem denc_one (A : Option Addr) (c : Nat) (l : List Sample) (w : World) (hrd : Rd w 2 A l.length (l.flatMap sampleCells)) (hf : Fine l) (hok : ∀ x ∈ l, Sample.ok x) (hl : l.length ≤ 5000) (h1 : 1 ≤ l.length) (h2 : l.length < 2) (hcm : c ≤ maxLen) :
    Calls Try.prog 27 #[.slice A l.length c] w fun e w' => e = .returned (.tuple #[.string (S (encB l)), .int .i64 0]) ∧ Below w.heap.size w w' := by
  refine (callsIn_wide (n := 4)).1 (callsIn_of_wp_marks Try.func27 rfl trivial (wpIn_mono ?_ bodyPostN.marks))
  simp only [Try.ntmps27, List.size_toArray, List.length_cons, List.length_nil, Nat.reduceAdd, Nat.reduceSub, Array.replicate_succ, Array.replicate_zero, List.push_toArray, List.append_toArray, List.nil_append, List.cons_append]
  refine wpIn_wide.2 ?_
  have Hrd := Lib.hid hrd
  have Hf := Lib.hid hf
  have Hok := Lib.hid hok
  have Hcm := Lib.hid hcm
  obtain ⟨b, off, rfl, hb, _⟩ := hrd.2 (by omega)
  clear hrd hf hok hcm
  go_wp2_with fail
  go_loopw [4, 22] (fun pv ix wr => ∃ j : Nat, ix = .int .i64 j ∧ j ≤ l.length ∧ pv = .int .i64 (prevT l j) ∧ Below w.heap.size w wr) (fun _ ix _ => l.length - (intOf ix).toNat)
  case atStart => exact ⟨0, rfl, by omega, rfl, Below.refl _ _⟩
  case round =>
    obtain ⟨j, rfl, hj, rfl, hbel⟩ := hrel
    by_cases hlt : j < l.length
    · obtain ⟨b', off', hA', _, f0, f1⟩ := sample_at (Hrd.out.below hbel) hlt
      obtain ⟨rfl, rfl⟩ : b = b' ∧ off = off' := by simpa using hA'
      rw [← sAt_get hlt] at f0 f1
      have hp := prevT_lt Hf.out hlt
      have hn : prevT l (j + 1) = (sAt l j).T := rfl
      have hsz := hbel.size
      have Hn := Lib.hid hn
      have Hb := Lib.hid hbel
      clear hn hbel
      generalize prevT l j = pv at *
      generalize (sAt l j).T = tj at *
      generalize (sAt l j).V = vj at *
      have k1 : ¬ tj ≤ pv := by omega
      have k2 : ¬ tj ≥ 1099511627776 := by omega
      have k3 : ¬ 1099511627776 ≤ tj := by omega
      clear hp
      go_wp2_with fail
      go_roundw
      case rel => exact ⟨j + 1, rfl, by omega, by rw [Hn.out], Hb.out.alloc hsz _⟩
      case measure => simp [intOf]; omega
    · obtain rfl : j = l.length := by omega
      clear hlt hj
      obtain ⟨b', off', hA', _, f0, f1⟩ := sample_at (Hrd.out.below hbel) (show 0 < l.length by omega)
      obtain ⟨rfl, rfl⟩ : b = b' ∧ off = off' := by simpa using hA'
      have hblt : b < wr.heap.size := Nat.lt_of_lt_of_le hb hbel.size
      have hT := Hf.out.1 _ (List.getElem_mem (show 0 < l.length by omega))
      have hV := Hok.out _ (List.getElem_mem (show 0 < l.length by omega))
      rw [Nat.zero_mul, Nat.add_zero] at f0 f1
      obtain ⟨t0, ht0⟩ : ∃ n : Nat, l[0].T = n := ⟨l[0].T.toNat, by omega⟩
      obtain ⟨v0, hv0⟩ : ∃ v, l[0].V = v := ⟨_, rfl⟩
      rw [ht0] at f0 hT
      rw [hv0] at f1
      have hv1 : In64 v0 := hv0 ▸ hV.2
      have U0 := Lib.hid (fun w => uint_any l.length w (by omega))
      have U1 := Lib.hid (fun w => uint_any t0 w (by omega))
      have U2 := Lib.hid (fun w => int_any v0 w hv1.1 hv1.2)
      have hwr : IntKind.u64.wrap (t0 : Int) = t0 := by rw [IntKind.wrap_u64]; omega
      have z0 : (S (uint l.length)).size ≤ 10 := by rw [S_size]; exact uint_len_ten (by omega)
      have z1 : (S (uint t0)).size ≤ 10 := by rw [S_size]; exact uint_len_ten (by omega)
      have z2 : (S (uint (foldN v0))).size ≤ 10 := by rw [S_size]; exact uint_len_ten (foldN_lt hv1.1 hv1.2)
      have y1 : ¬ 9223372036854775807 < (S (uint t0)).size + (S (uint (foldN v0))).size := by omega
      have y2 : ¬ 9223372036854775807 < (S (uint l.length)).size + ((S (uint t0)).size + (S (uint (foldN v0))).size) := by omega
      clear z0 z1 z2
      have Hb := Lib.hid hbel
      have Ht0 := Lib.hid ht0
      have Hv0 := Lib.hid hv0
      have Henc : Hid (S (uint l.length) ++ (S (uint t0) ++ S (uint (foldN v0))) = S (encB l)) := Lib.hid (by
        have e1 : (sAt l 0).T.toNat = t0 := by rw [sAt_get (show 0 < l.length by omega), ht0]; rfl
        have e2 : (sAt l 0).V = v0 := by rw [sAt_get (show 0 < l.length by omega), hv0]
        unfold encB firstB
        rw [if_neg (by omega), if_pos (by omega), e1, e2]
        simp only [S_append, List.append_assoc, List.append_nil])
      clear hbel hV hv1 ht0 hv0
      go_wp2_with fail
      refine (U0.out _).mono ?_
      rintro e w0 ⟨rfl, hx0⟩
      have q0 := (hx0.cell (p := ⟨b, off, none⟩) hblt).trans f0
      have q1 := (hx0.cell (p := ⟨b, off + 1, none⟩) hblt).trans f1
      have hblt0 : b < w0.heap.size := Nat.lt_of_lt_of_le hblt hx0.size
      have Hx0 := Lib.hid hx0
      clear hx0 f0 f1 hblt
      have hblt := hblt0
      clear hblt0
      go_wp2_with fail
      refine wp_region_held_drew (S := fun w' => w'.cell? ⟨b, off, none⟩ = some (.int .i64 (t0 : Int)) ∧ w'.cell? ⟨b, off + 1, none⟩ = some (.int .i64 v0)) (by kernel_rfl) ?_ (fun hHeld => ?_)
      · go_keep
      refine wpAnyH_take (i := 0) (oi := _) (v := ?_) (by simp only [List.getElem?_toArray, List.getElem?_cons_succ, List.getElem?_cons_zero]; rfl) (by kernel_rfl) (by kernel_rfl) (by kernel_rfl) (by exact fun _ _ _ h => h) (Or.inl ⟨by rfl, ?_⟩) (by assumption) ?_
      rotate_left
      · (intro w hSw; (try dsimp only at hSw); go_simp) <;> with_reducible rfl
      try simp only [Act.put, List.setIfInBounds_toArray, List.set_cons_zero, List.set_cons_succ]
      refine wpAnyH_take (i := 1) (oi := _) (v := ?_) (by simp only [List.getElem?_toArray, List.getElem?_cons_succ, List.getElem?_cons_zero]; rfl) (by kernel_rfl) (by kernel_rfl) (by kernel_rfl) (by exact fun _ _ _ h => h) (Or.inl ⟨by rfl, ?_⟩) (by assumption) ?_
      rotate_left
      · (intro w hSw; (try dsimp only at hSw); go_simp) <;> with_reducible rfl
      try simp only [Act.put, List.setIfInBounds_toArray, List.set_cons_zero, List.set_cons_succ]
      refine wpAnyH_take (i := 2) (oi := _) (v := ?_) (by simp only [List.getElem?_toArray, List.getElem?_cons_succ, List.getElem?_cons_zero]; rfl) (by kernel_rfl) (by kernel_rfl) (by kernel_rfl) (by exact fun _ _ _ h => h) (Or.inl ⟨by rfl, ?_⟩) (by assumption) ?_
      rotate_left
      · (intro w hSw; (try dsimp only at hSw); go_simp) <;> with_reducible rfl
      try simp only [Act.put, List.setIfInBounds_toArray, List.set_cons_zero, List.set_cons_succ]
      refine wpAnyH_take (i := 3) (oi := _) (v := ?_) (by simp only [List.getElem?_toArray, List.getElem?_cons_succ, List.getElem?_cons_zero]; rfl) (by kernel_rfl) (by kernel_rfl) (by kernel_rfl) (by exact fun _ _ _ h => h) (Or.inl ⟨by rfl, ?_⟩) (by assumption) ?_
      rotate_left
      · (intro w hSw; (try dsimp only at hSw); go_simp) <;> with_reducible rfl
      try simp only [Act.put, List.setIfInBounds_toArray, List.set_cons_zero, List.set_cons_succ]
      refine wpAnyH_take (i := 4) (oi := _) (v := ?_) (by simp only [List.getElem?_toArray, List.getElem?_cons_succ, List.getElem?_cons_zero]; rfl) (by kernel_rfl) (by kernel_rfl) (by kernel_rfl) (by exact fun _ _ _ h => h) (Or.inl ⟨by rfl, ?_⟩) (by assumption) ?_
      rotate_left
      · (intro w hSw; (try dsimp only at hSw); go_simp) <;> with_reducible rfl
      try simp only [Act.put, List.setIfInBounds_toArray, List.set_cons_zero, List.set_cons_succ]
      refine wpAnyH_take (i := 5) (oi := _) (v := ?_) (by simp only [List.getElem?_toArray, List.getElem?_cons_succ, List.getElem?_cons_zero]; rfl) (by kernel_rfl) (by kernel_rfl) (by kernel_rfl) (by exact fun _ _ _ h => h) (Or.inl ⟨by rfl, ?_⟩) (by assumption) ?_
      rotate_left
      · (intro w hSw; (try dsimp only at hSw); go_simp) <;> with_reducible rfl
      try simp only [Act.put, List.setIfInBounds_toArray, List.set_cons_zero, List.set_cons_succ]
      refine wpAnyH_take (i := 7) (oi := _) (v := ?_) (by simp only [List.getElem?_toArray, List.getElem?_cons_succ, List.getElem?_cons_zero]; rfl) (by kernel_rfl) (by kernel_rfl) (by kernel_rfl) (by exact fun _ _ _ h => h) (Or.inl ⟨by rfl, ?_⟩) (by assumption) ?_
      rotate_left
      · (intro w hSw; (try dsimp only at hSw); go_simp) <;> with_reducible rfl
      try simp only [Act.put, List.setIfInBounds_toArray, List.set_cons_zero, List.set_cons_succ]
      refine wpAnyH_take (i := 8) (oi := _) (v := ?_) (by simp only [List.getElem?_toArray, List.getElem?_cons_succ, List.getElem?_cons_zero]; rfl) (by kernel_rfl) (by kernel_rfl) (by kernel_rfl) (by exact fun _ _ _ h => h) (Or.inl ⟨by rfl, ?_⟩) (by assumption) ?_
      rotate_left
      · (intro w hSw; (try dsimp only at hSw); go_simp) <;> with_reducible rfl
      try simp only [Act.put, List.setIfInBounds_toArray, List.set_cons_zero, List.set_cons_succ]
      refine wpAnyH_take (i := 9) (oi := _) (v := ?_) (by simp only [List.getElem?_toArray, List.getElem?_cons_succ, List.getElem?_cons_zero]; rfl) (by kernel_rfl) (by kernel_rfl) (by kernel_rfl) (by exact fun _ _ _ h => h) (Or.inl ⟨by rfl, ?_⟩) (by assumption) ?_
      rotate_left
      · (intro w hSw; (try dsimp only at hSw); go_simp) <;> with_reducible rfl
      try simp only [Act.put, List.setIfInBounds_toArray, List.set_cons_zero, List.set_cons_succ]
      refine wpAnyH_take (i := 10) (oi := _) (v := ?_) (by simp only [List.getElem?_toArray, List.getElem?_cons_succ, List.getElem?_cons_zero]; rfl) (by kernel_rfl) (by kernel_rfl) (by kernel_rfl) (by exact fun _ _ _ h => h) (Or.inl ⟨by rfl, ?_⟩) (by assumption) ?_
      rotate_left
      · (intro w hSw; (try dsimp only at hSw); go_simp) <;> with_reducible rfl
      try simp only [Act.put, List.setIfInBounds_toArray, List.set_cons_zero, List.set_cons_succ]
      refine wpAnyH_ready (rs := [6]) (by kernel_rfl) (by simp) ?_
      refine AllReadyH.cons (o := _) (by simp only [List.getElem?_toArray, List.getElem?_cons_succ, List.getElem?_cons_zero]; rfl) (fun K hK => ?_) AllReadyH.nil
      go_simp
      refine (U1.out _).mono ?_
      rintro e wx1 ⟨rfl, hx1⟩
      have Hx1 := Lib.hid hx1
      clear hx1
      go_wp2_with fail
      refine hK.out _ _ ?_ (fun hHeld => ?_)
      · exact ⟨(Hx1.out.cell (p := ⟨b, off, none⟩) hblt).trans hHeld.1, (Hx1.out.cell (p := ⟨b, off + 1, none⟩) hblt).trans hHeld.2⟩
      clear hK K
      try simp only [Act.put, List.setIfInBounds_toArray, List.set_cons_zero, List.set_cons_succ]
      refine wpAnyH_ready (rs := [11]) (by kernel_rfl) (by simp) ?_
      refine AllReadyH.cons (o := _) (by simp only [List.getElem?_toArray, List.getElem?_cons_succ, List.getElem?_cons_zero]; rfl) (fun K hK => ?_) AllReadyH.nil
      go_simp
      have hblt1 : b < wx1.heap.size := Nat.lt_of_lt_of_le hblt Hx1.out.size
      refine (U2.out _).mono ?_
      rintro e wx2 ⟨rfl, hx2⟩
      have Hx2 := Lib.hid hx2
      clear hx2
      go_wp2_with fail
      refine hK.out _ _ ?_ (fun hHeld => ?_)
      · exact ⟨(Hx2.out.cell (p := ⟨b, off, none⟩) hblt1).trans hHeld.1, (Hx2.out.cell (p := ⟨b, off + 1, none⟩) hblt1).trans hHeld.2⟩
      clear hK K
      try simp only [Act.put, List.setIfInBounds_toArray, List.set_cons_zero, List.set_cons_succ]
      refine wpAnyH_take (i := 12) (oi := _) (v := ?_) (by simp only [List.getElem?_toArray, List.getElem?_cons_succ, List.getElem?_cons_zero]; rfl) (by kernel_rfl) (by kernel_rfl) (by kernel_rfl) (by exact fun _ _ _ h => h) (Or.inl ⟨by rfl, ?_⟩) (by assumption) ?_
      rotate_left
      · (intro w hSw; (try dsimp only at hSw); go_simp) <;> with_reducible rfl
      try simp only [Act.put, List.setIfInBounds_toArray, List.set_cons_zero, List.set_cons_succ]
      refine wpAnyH_take (i := 13) (oi := _) (v := ?_) (by simp only [List.getElem?_toArray, List.getElem?_cons_succ, List.getElem?_cons_zero]; rfl) (by kernel_rfl) (by kernel_rfl) (by kernel_rfl) (by exact fun _ _ _ h => h) (Or.inl ⟨by rfl, ?_⟩) (by assumption) ?_
      rotate_left
      · (intro w hSw; (try dsimp only at hSw); go_simp) <;> with_reducible rfl
      try simp only [Act.put, List.setIfInBounds_toArray, List.set_cons_zero, List.set_cons_succ]
      refine wpAnyH_take (i := 14) (oi := _) (v := ?_) (by simp only [List.getElem?_toArray, List.getElem?_cons_succ, List.getElem?_cons_zero]; rfl) (by kernel_rfl) (by kernel_rfl) (by kernel_rfl) (by exact fun _ _ _ h => h) (Or.inl ⟨by rfl, ?_⟩) (by assumption) ?_
      rotate_left
      · (intro w hSw; (try dsimp only at hSw); go_simp) <;> with_reducible rfl
      try simp only [Act.put, List.setIfInBounds_toArray, List.set_cons_zero, List.set_cons_succ]
      refine wpAnyH_done (by kernel_rfl) ?_ _
      have hall : Below w.heap.size w wx2 := by
        have hx0 := Hx0.out.mono Hb.out.size
        have b1 := (Hb.out.trans hx0).drew
        have b2 := b1.trans (Hx1.out.mono b1.size)
        exact b2.trans (Hx2.out.mono b2.size)
      have Hall := Lib.hid hall
      clear hall Hx1 Hx2
      go_wp2_with fail
      refine ⟨_, results_tmp2 rfl _ _ _, ?_, Hall.out⟩
      have e2 : Ending.returned (.tuple #[.string (S (uint l.length) ++ (S (uint t0) ++ S (uint (foldN v0)))), .int .i64 0]) = .returned (.tuple #[.string (S (encB l)), .int .i64 0]) := by rw [Henc.out]
      exact e2

/-- sample j may stand where it does -/
def GoodAt (l : List Sample) (j : Nat) : Prop := prevT l j < (sAt l j).T ∧ (sAt l j).T < 1099511627776
theorem fine_of {l : List Sample} (h : ∀ j, j < l.length → GoodAt l j) : Fine l := by
  have h0 : ∀ j, j < l.length → 0 ≤ (sAt l j).T := by
    intro j
    induction j with
    | zero => intro hj; have h1 := (h 0 hj).1; have h2 : prevT l 0 = -1 := rfl; omega
    | succ j ih => intro hj; have h1 := (h _ hj).1; have h2 : prevT l (j + 1) = (sAt l j).T := rfl; have := ih (by omega); omega
  refine ⟨fun x hx => ?_, fun i hi => ?_⟩
  · obtain ⟨i, hi, rfl⟩ := List.getElem_of_mem hx
    have h1 := h0 i hi
    have h2 := (h i hi).2
    rw [sAt_get hi] at h1 h2
    exact ⟨h1, h2⟩
  · have h1 := (h _ hi).1
    have h2 : prevT l (i + 1) = (sAt l i).T := rfl
    rw [h2, sAt_get (show i < l.length by omega), sAt_get hi] at h1
    exact h1
theorem fine_good {l : List Sample} (h : Fine l) {j : Nat} (hj : j < l.length) : GoodAt l j := prevT_lt h hj
theorem not_fine {l : List Sample} (h : ¬ Fine l) : ∃ m, m < l.length ∧ (∀ i, i < m → GoodAt l i) ∧ ¬ GoodAt l m := by
  have key : ∀ n, (∀ i, i < n → GoodAt l i) ∨ ∃ m, m < n ∧ (∀ i, i < m → GoodAt l i) ∧ ¬ GoodAt l m := by
    intro n
    induction n with
    | zero => exact .inl fun i hi => absurd hi (by omega)
    | succ n ih =>
      rcases ih with h1 | ⟨m, h1, h2⟩
      · by_cases hg : GoodAt l n
        · refine .inl fun i hi => ?_
          rcases Nat.lt_or_ge i n with h2 | h2
          · exact h1 i h2
          · obtain rfl : i = n := by omega
            exact hg
        · exact .inr ⟨n, by omega, h1, hg⟩
      · exact .inr ⟨m, by omega, h2⟩
  rcases key l.length with h1 | h1
  · exact absurd (fine_of h1) h
  · exact h1
theorem S_nil : (ByteArray.empty) = S [] := rfl

set_option maxRecDepth 100000 in
set_option maxHeartbeats 1000000 in
theorem denc_no (A : Option Addr) (c : Nat) (l : List Sample) (w : World) (hrd : Rd w 2 A l.length (l.flatMap sampleCells)) (hf : ¬ Fine l) (hl : l.length ≤ 5000) :
    Calls Try.prog 27 #[.slice A l.length c] w fun e w' => e = .returned (.tuple #[.string (S []), .int .i64 30]) ∧ Below w.heap.size w w' := by
  obtain ⟨m, hm, hgood, hbad⟩ := not_fine hf
  have Hrd := Lib.hid hrd
  have Hgood := Lib.hid hgood
  have Hbad := Lib.hid hbad
  obtain ⟨b, off, rfl, hb, _⟩ := hrd.2 (by omega)
  clear hrd hgood hbad hf
  go_enter Try.func27, Try.ntmps27
  go_wp2_with fail
  go_loopw [4, 22] (fun pv ix wr => ∃ j : Nat, ix = .int .i64 j ∧ j ≤ m ∧ pv = .int .i64 (prevT l j) ∧ Below w.heap.size w wr) (fun _ ix _ => l.length - (intOf ix).toNat)
  case atStart => exact ⟨0, rfl, by omega, rfl, Below.refl _ _⟩
  case round =>
    obtain ⟨j, rfl, hj, rfl, hbel⟩ := hrel
    obtain ⟨b', off', hA', _, f0, f1⟩ := sample_at (Hrd.out.below hbel) (show j < l.length by omega)
    obtain ⟨rfl, rfl⟩ : b = b' ∧ off = off' := by simpa using hA'
    rw [← sAt_get (show j < l.length by omega)] at f0 f1
    have hn : prevT l (j + 1) = (sAt l j).T := rfl
    have hsz := hbel.size
    have Hn := Lib.hid hn
    have Hb := Lib.hid hbel
    have hjl : j < l.length := by omega
    by_cases hlt : j < m
    · obtain ⟨g1, g2⟩ := Hgood.out j hlt
      clear hn hbel
      generalize prevT l j = pv at *
      generalize (sAt l j).T = tj at *
      generalize (sAt l j).V = vj at *
      have k1 : ¬ tj ≤ pv := by omega
      have k2 : ¬ tj ≥ 1099511627776 := by omega
      have k3 : ¬ 1099511627776 ≤ tj := by omega
      clear g1 g2
      go_wp2_with fail
      go_roundw
      case rel => exact ⟨j + 1, rfl, by omega, by rw [Hn.out], Hb.out.alloc hsz _⟩
      case measure => simp [intOf]; omega
    · obtain rfl : j = m := by omega
      have hc : (sAt l j).T ≤ prevT l j ∨ (¬ (sAt l j).T ≤ prevT l j ∧ 1099511627776 ≤ (sAt l j).T) := by
        have := Hbad.out
        unfold GoodAt at this
        omega
      clear hn hbel Hbad Hgood hj hlt
      generalize prevT l j = pv at *
      generalize (sAt l j).T = tj at *
      generalize (sAt l j).V = vj at *
      rcases hc with k1 | ⟨k1, k2⟩
      · go_wp2_with fail
        go_ret2
        exact ⟨rfl, Hb.out.alloc hsz _⟩
      · go_wp2_with fail
        go_ret2
        exact ⟨rfl, Hb.out.alloc hsz _⟩

/-- what samples are encoded to: bytes and an error -/
def fineB (l : List Sample) : Bool := (List.range l.length).all fun j => decide (prevT l j < (sAt l j).T) && decide ((sAt l j).T < 1099511627776)
theorem fineB_iff {l : List Sample} : fineB l = true ↔ Fine l := by
  unfold fineB
  rw [List.all_eq_true]
  constructor
  · intro h
    refine fine_of fun j hj => ?_
    have := h j (List.mem_range.2 hj)
    simpa [GoodAt] using this
  · intro h j hj
    have := fine_good h (List.mem_range.1 hj)
    simpa [GoodAt] using this
def encV (l : List Sample) : List UInt8 × Nat := if fineB l then (encB l, 0) else ([], 30)
theorem encV_fine {l : List Sample} (h : Fine l) : encV l = (encB l, 0) := if_pos (fineB_iff.2 h)
theorem encV_no {l : List Sample} (h : ¬ Fine l) : encV l = ([], 30) := if_neg (mt fineB_iff.1 h)
theorem denc_all (A : Option Addr) (c : Nat) (l : List Sample) (w : World) (hrd : Rd w 2 A l.length (l.flatMap sampleCells)) (hok : ∀ x ∈ l, Sample.ok x) (hl : l.length ≤ 5000) (hc : l.length ≤ c) (hcm : c ≤ maxLen) :
    Calls Try.prog 27 #[.slice A l.length c] w fun e w' => e = .returned (.tuple #[.string (S (encV l).1), .int .i64 (encV l).2]) ∧ Below w.heap.size w w' := by
  by_cases hf : Fine l
  · rw [encV_fine hf]
    by_cases h2 : 2 ≤ l.length
    · exact denc_any A c l w hrd hf hok hl h2 hc hcm
    · by_cases h1 : 1 ≤ l.length
      · exact denc_one A c l w hrd hf hok hl h1 (by omega) hcm
      · have h0 : l = [] := List.eq_nil_of_length_eq_zero (by omega)
        subst h0
        exact denc_nil A c w
  · rw [encV_no hf]
    exact denc_no A c l w hrd hf hl
end Go.Proofs.Ytmafdbdmmfpeeaa
