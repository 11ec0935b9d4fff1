/-
  The document's Between.
-/
import Derived.Test.YthmikefinibecaaRRunRead2
namespace Go.Proofs.Ythmikefinibecaa
open Go Go.RowKit

def RdQ (f : Fen) (B : Nat) (w : World) (v : Value) (ok : Bool) (w' : World) : Prop :=
  (readR f = none ∧ ok = false ∧ Below B w w') ∨ ∃ rs, readR f = some rs ∧ ok = true ∧ Lie (fun k => k < B) 36 3 v rs.length (rs.flatMap rowCells) w' ∧ rs.length ≤ 16 ∧ Below B w w'
theorem readPost_q {f : Fen} {B : Nat} {w w' : World} {e : Ending} (h : ReadPost f B w e w') : ∃ v ok, e = .returned (.tuple #[v, .bool ok]) ∧ RdQ f B w v ok w' := by
  rcases h with ⟨h1, ⟨v, rfl⟩, h2⟩ | ⟨rs, v, h1, rfl, h2, h3, h4⟩
  · exact ⟨v, false, rfl, .inl ⟨h1, rfl, h2⟩⟩
  · exact ⟨v, true, rfl, .inr ⟨rs, h1, rfl, h2, h3, h4⟩⟩
theorem filter_take {p : Row → Bool} {rs : List Row} {k : Nat} (h : k < rs.length) : (rs.take (k + 1)).filter p = (rs.take k).filter p ++ (if p rs[k] = true then [rs[k]] else []) := by
  cases hp : p rs[k] with
  | true => rw [del_keep h hp]; simp
  | false => rw [del_skip h hp]; simp

set_option linter.unusedSimpArgs false in
set_option maxRecDepth 100000 in
set_option maxHeartbeats 4000000 in
theorem rbetween_at (s : ByteArray) (x y : Int) (B : Nat) (w : World) (hB : w.heap.size = B) (hs : s.size ≤ 1000000) : Calls Try.prog 13 #[.string s, .agg #[.int .i64 x, .int .i64 y]] w (BetPost s x y B w) := by
  have e1 : (w.alloc (.cells #[.int .i64 x, .int .i64 y] 23)).heap.size = B + 1 := by simp [hB]
  have hbox : RBox B x y (w.alloc (.cells #[.int .i64 x, .int .i64 y] 23)) := by rw [← hB]; exact heap_alloc_new w _
  have hb0 : Below B w (w.alloc (.cells #[.int .i64 x, .int .i64 y] 23)) := (Below.refl B w).alloc (by omega) _
  have Hbox := Lib.hid hbox
  have Hb0 := Lib.hid hb0
  have HC := Lib.hid (rfences_at s (B + 1) (w.alloc (.cells #[.int .i64 x, .int .i64 y] 23)) e1 hs)
  have HB := Lib.hid e1
  clear hbox hb0 e1
  go_enter Try.func13, Try.ntmps13
  go_wp2_with fail
  generalize w.alloc (.cells #[.int .i64 x, .int .i64 y] 23) = w0 at *
  clear hB
  refine HC.out.mono ?_
  rintro e w1 (⟨hN, rfl, hb⟩ | ⟨fs, v, t, q, hN, rfl, h1, h2, h3, hl, hb⟩)
  · have HN := Lib.hid (show betS s.data.toList x y = none by unfold betS; rw [hN]; rfl)
    have Hb := Lib.hid (Hb0.out.trans (hb.mono (by omega)))
    clear hN hb
    go_wp2_with fail
    go_ret2
    exact .inl ⟨HN.out, rfl, Hb.out⟩
  · have hok := fences_ok hN
    obtain ⟨H, hH⟩ : ∃ H, betR x y fs = H := ⟨_, rfl⟩
    have HN := Lib.hid (show betS s.data.toList x y = H by unfold betS; rw [hN, ← hH]; rfl)
    have HH := Lib.hid hH
    have Hok := Lib.hid hok
    have hB1 : B + 1 ≤ w1.heap.size := by rw [← HB.out]; exact hb.size
    have Hbox1 := Lib.hid (show RBox B x y w1 from (hb.block B (by omega)).trans Hbox.out)
    have Hb := Lib.hid (Hb0.out.trans (hb.mono (by omega)))
    obtain ⟨A1, c1, rfl⟩ := h1.form
    obtain ⟨A2, c2, rfl⟩ := h2.form
    obtain ⟨A3, c3, rfl⟩ := h3.form
    have Hv := Lib.hid h1
    have Ht := Lib.hid h2
    have Hq := Lib.hid h3
    have Hls := Lib.hid (Lib.size_eq s)
    have HM := Lib.hid (Lie.made (fun k => k < w1.heap.size) w1 36 3 (fun k hk => hk))
    have HbM := Lib.hid (Below.one w1 (.cells #[] 36))
    clear hN hH hok hb h1 h2 h3 Hbox Hb0 HC
    obtain ⟨n, hn⟩ : ∃ n, fs.length = n := ⟨_, rfl⟩
    have Hn := Lib.hid hn
    rw [hn] at Hv Ht Hq hl ⊢
    clear hn
    go_wp2_with fail
    generalize w1.alloc (.cells #[] 36) = wm at *
    go_loopw [10, 11] (fun ov ix wr => BetRel x y fs H w1 ov ix wr) (fun _ ix _ => n - (intOf ix).toNat)
    case atStart => exact ⟨0, [], _, 0, rfl, rfl, by omega, by simp, HM.out, HbM.out, by rw [List.drop_zero, HH.out]; simp⟩
    case round =>
      obtain ⟨i, acc, A, c, rfl, rfl, hi, hacc, hlie, hbel, hmap⟩ := hrel
      have Hmap := Lib.hid hmap
      have Hbel := Lib.hid hbel
      have hBr : B + 1 ≤ wr.heap.size := Nat.le_trans hB1 hbel.size
      obtain ⟨m, hm⟩ : ∃ m, acc.length = m := ⟨_, rfl⟩
      rw [hm] at hlie hacc ⊢
      have Hm := Lib.hid hm
      have Hlie := Lib.hid hlie
      clear hmap hbel hlie hm
      have Hboxr := Lib.hid (show RBox B x y wr from (Hbel.out.block B (by omega)).trans Hbox1.out)
      obtain ⟨x0, x1⟩ := Hboxr.out.cells
      rw [Hn.out] at hi
      by_cases hlt : i < n
      · have hlt' : i < fs.length := by have := Hn.out; omega
        obtain ⟨g1, o1, rfl, hg1, hf1⟩ := (Hv.out.below Hbel.out).rd.elem rngC_length (by decide) hlt'
        obtain ⟨g2, o2, rfl, hg2, hf2⟩ := (Ht.out.below Hbel.out).rd.elem txtC_length (by decide) hlt'
        obtain ⟨g3, o3, rfl, hg3, hf3⟩ := (Hq.out.below Hbel.out).rd.elem cntC_length (by decide) hlt'
        have f0 := hf1 0 _ rfl
        have f1 := hf1 1 _ rfl
        have f2 := hf2 0 _ rfl
        have f3 := hf3 0 _ rfl
        have hokf := Hok.out fs[i] (List.getElem_mem hlt')
        obtain ⟨f, hfe⟩ : ∃ f, fs[i] = f := ⟨_, rfl⟩
        have Hd := Lib.hid (bet_head hlt' hfe)
        rw [hfe] at f0 f1 f2 f3 hokf
        have Hokf := Lib.hid (show FenOk 1000000 f from ⟨hokf.1, hokf.2.1, hokf.2.2.1, hokf.2.2.2.1, hokf.2.2.2.2.1, by have := hokf.2.2.2.2.2; have := Hls.out; omega⟩)
        clear hf1 hf2 hf3 hfe hlt' hokf
        obtain ⟨F, T, k, b⟩ := f
        simp only [Nat.add_zero, Nat.mul_one] at f0 f1 f2 f3
        have f1' : wr.cell? ⟨g1, o1 + i * 2 + 1, none⟩ = some (.int .i64 T) := by rw [Nat.add_assoc]; exact f1
        clear f1
        have hk1 : (i : Int) < n := by omega
        obtain ⟨p, hp⟩ : ∃ p, max F x = p := ⟨_, rfl⟩
        obtain ⟨q, hq⟩ : ∃ q, min T y = q := ⟨_, rfl⟩
        have hp2 : (if F < x then x else F) = p := by rw [← hp]; split <;> omega
        have hq2 : (if y < T then y else T) = q := by rw [← hq]; split <;> omega
        cases hh : hasR ⟨F, T, k, b⟩ x y with
        | false =>
          have Hskip := Lib.hid (bet_skip Hd.out hh Hmap.out)
          have hpq : decide (q ≤ p) = true := by
            unfold hasR at hh; simp only [hp, hq] at hh
            have := of_decide_eq_false hh
            exact decide_eq_true (by omega)
          clear hh
          go_wp2_with fail
          go_quiet (fail)
          go_wp2_with fail
          go_roundw
          case rel => exact ⟨i + 1, acc, A, c, by go_num, by rw [Hm.out], by rw [Hn.out]; omega, by rw [Hm.out]; omega, by rw [Hm.out]; exact Hlie.out.below (below_drewN (Below.refl _ _) _), below_drewN Hbel.out _, Hskip.out⟩
          case measure => simp [intOf]; omega
        | true =>
          have Hh := Lib.hid hh
          have hpq : decide (q ≤ p) = false := by
            unfold hasR at hh; simp only [hp, hq] at hh
            have := of_decide_eq_true hh
            exact decide_eq_false (by omega)
          clear hh
          go_wp2_with fail
          go_quiet (fail)
          have HL1 := Lib.hid (show Lie (fun k => k < w1.heap.size) 36 3 (.slice A m c) m (acc.flatMap rowCells) (wr.drewN nq) from Hlie.out.below (below_drewN (Below.refl _ _) _))
          have HBl1 := Lib.hid (show Below w1.heap.size w1 (wr.drewN nq) from below_drewN Hbel.out _)
          have Hbx1 := Lib.hid (show RBox B x y (wr.drewN nq) from Hboxr.out)
          have f0d : (wr.drewN nq).cell? ⟨g1, o1 + i * 2, none⟩ = some (.int .i64 F) := f0
          have f1d : (wr.drewN nq).cell? ⟨g1, o1 + i * 2 + 1, none⟩ = some (.int .i64 T) := f1'
          have f2d : (wr.drewN nq).cell? ⟨g2, o2 + i, none⟩ = some (.string (S b)) := f2
          have f3d : (wr.drewN nq).cell? ⟨g3, o3 + i, none⟩ = some (.int .i64 k) := f3
          have hBr2 : B + 1 ≤ (wr.drewN nq).heap.size := hBr
          clear f0 f1' f2 f3 x0 x1 Hlie Hbel Hboxr hg1 hg2 hg3 hBr hp hq hp2 hq2 hpq HM HbM
          generalize wr.drewN nq = wd at *
          have HCr := Lib.hid (rread_at ⟨F, T, k, b⟩ wd.heap.size wd.drew rfl Hokf.out)
          go_wp2_with fail
          refine wp_region_held_drew (S := fun w' => w'.cell? ⟨g1, o1 + i * 2, none⟩ = some (.int .i64 F) ∧ w'.cell? ⟨g1, o1 + i * 2 + 1, none⟩ = some (.int .i64 T) ∧ w'.cell? ⟨g2, o2 + i, none⟩ = some (.string (S b)) ∧ w'.cell? ⟨g3, o3 + i, none⟩ = some (.int .i64 k)) (by kernel_rfl) ?_ (fun hHeld => ?_)
          · exact ⟨f0d, f1d, f2d, f3d⟩
          refine wpAnyH_take (i := 0) (oi := _) (v := ?_) (by simp only [List.getElem?_toArray, List.getElem?_cons_succ, List.getElem?_cons_zero]; rfl) (by kernel_rfl) (by kernel_rfl) (by kernel_rfl) (by exact fun _ _ _ h => h) (Or.inl ⟨by rfl, ?_⟩) (by assumption) ?_
          rotate_left
          · (intro w hSw; (try dsimp only at hSw); go_simp) <;> with_reducible rfl
          try simp only [Act.put, List.setIfInBounds_toArray, List.set_cons_zero, List.set_cons_succ]
          refine wpAnyH_take (i := 1) (oi := _) (v := ?_) (by simp only [List.getElem?_toArray, List.getElem?_cons_succ, List.getElem?_cons_zero]; rfl) (by kernel_rfl) (by kernel_rfl) (by kernel_rfl) (by exact fun _ _ _ h => h) (Or.inl ⟨by rfl, ?_⟩) (by assumption) ?_
          rotate_left
          · (intro w hSw; (try dsimp only at hSw); go_simp) <;> with_reducible rfl
          try simp only [Act.put, List.setIfInBounds_toArray, List.set_cons_zero, List.set_cons_succ]
          refine wpAnyH_take (i := 2) (oi := _) (v := ?_) (by simp only [List.getElem?_toArray, List.getElem?_cons_succ, List.getElem?_cons_zero]; rfl) (by kernel_rfl) (by kernel_rfl) (by kernel_rfl) (by exact fun _ _ _ h => h) (Or.inl ⟨by rfl, ?_⟩) (by assumption) ?_
          rotate_left
          · (intro w hSw; (try dsimp only at hSw); go_simp) <;> with_reducible rfl
          try simp only [Act.put, List.setIfInBounds_toArray, List.set_cons_zero, List.set_cons_succ]
          refine wpAnyH_take (i := 3) (oi := _) (v := ?_) (by simp only [List.getElem?_toArray, List.getElem?_cons_succ, List.getElem?_cons_zero]; rfl) (by kernel_rfl) (by kernel_rfl) (by kernel_rfl) (by exact fun _ _ _ h => h) (Or.inl ⟨by rfl, ?_⟩) (by assumption) ?_
          rotate_left
          · (intro w hSw; (try dsimp only at hSw); go_simp) <;> with_reducible rfl
          try simp only [Act.put, List.setIfInBounds_toArray, List.set_cons_zero, List.set_cons_succ]
          refine wpAnyH_take (i := 4) (oi := _) (v := ?_) (by simp only [List.getElem?_toArray, List.getElem?_cons_succ, List.getElem?_cons_zero]; rfl) (by kernel_rfl) (by kernel_rfl) (by kernel_rfl) (by exact fun _ _ _ h => h) (Or.inl ⟨by rfl, ?_⟩) (by assumption) ?_
          rotate_left
          · (intro w hSw; (try dsimp only at hSw); go_simp) <;> with_reducible rfl
          try simp only [Act.put, List.setIfInBounds_toArray, List.set_cons_zero, List.set_cons_succ]
          refine wpAnyH_take (i := 5) (oi := _) (v := ?_) (by simp only [List.getElem?_toArray, List.getElem?_cons_succ, List.getElem?_cons_zero]; rfl) (by kernel_rfl) (by kernel_rfl) (by kernel_rfl) (by exact fun _ _ _ h => h) (Or.inl ⟨by rfl, ?_⟩) (by assumption) ?_
          rotate_left
          · (intro w hSw; (try dsimp only at hSw); go_simp) <;> with_reducible rfl
          try simp only [Act.put, List.setIfInBounds_toArray, List.set_cons_zero, List.set_cons_succ]
          refine wpAnyH_take (i := 6) (oi := _) (v := ?_) (by simp only [List.getElem?_toArray, List.getElem?_cons_succ, List.getElem?_cons_zero]; rfl) (by kernel_rfl) (by kernel_rfl) (by kernel_rfl) (by exact fun _ _ _ h => h) (Or.inl ⟨by rfl, ?_⟩) (by assumption) ?_
          rotate_left
          · (intro w hSw; (try dsimp only at hSw); go_simp) <;> with_reducible rfl
          try simp only [Act.put, List.setIfInBounds_toArray, List.set_cons_zero, List.set_cons_succ]
          refine wpAnyH_take (i := 7) (oi := _) (v := ?_) (by simp only [List.getElem?_toArray, List.getElem?_cons_succ, List.getElem?_cons_zero]; rfl) (by kernel_rfl) (by kernel_rfl) (by kernel_rfl) (by exact fun _ _ _ h => h) (Or.inl ⟨by rfl, ?_⟩) (by assumption) ?_
          rotate_left
          · (intro w hSw; (try dsimp only at hSw); go_simp) <;> with_reducible rfl
          try simp only [Act.put, List.setIfInBounds_toArray, List.set_cons_zero, List.set_cons_succ]
          refine wpAnyH_take (i := 8) (oi := _) (v := ?_) (by simp only [List.getElem?_toArray, List.getElem?_cons_succ, List.getElem?_cons_zero]; rfl) (by kernel_rfl) (by kernel_rfl) (by kernel_rfl) (by exact fun _ _ _ h => h) (Or.inl ⟨by rfl, ?_⟩) (by assumption) ?_
          rotate_left
          · (intro w hSw; (try dsimp only at hSw); go_simp) <;> with_reducible rfl
          try simp only [Act.put, List.setIfInBounds_toArray, List.set_cons_zero, List.set_cons_succ]
          refine wpAnyH_take (i := 9) (oi := _) (v := ?_) (by simp only [List.getElem?_toArray, List.getElem?_cons_succ, List.getElem?_cons_zero]; rfl) (by kernel_rfl) (by kernel_rfl) (by kernel_rfl) (by exact fun _ _ _ h => h) (Or.inl ⟨by rfl, ?_⟩) (by assumption) ?_
          rotate_left
          · (intro w hSw; (try dsimp only at hSw); go_simp) <;> with_reducible rfl
          try simp only [Act.put, List.setIfInBounds_toArray, List.set_cons_zero, List.set_cons_succ]
          refine wpAnyH_take (i := 10) (oi := _) (v := ?_) (by simp only [List.getElem?_toArray, List.getElem?_cons_succ, List.getElem?_cons_zero]; rfl) (by kernel_rfl) (by kernel_rfl) (by kernel_rfl) (by exact fun _ _ _ h => h) (Or.inl ⟨by rfl, ?_⟩) (by assumption) ?_
          rotate_left
          · (intro w hSw; (try dsimp only at hSw); go_simp) <;> with_reducible rfl
          try simp only [Act.put, List.setIfInBounds_toArray, List.set_cons_zero, List.set_cons_succ]
          refine wpAnyH_take (i := 11) (oi := _) (v := ?_) (by simp only [List.getElem?_toArray, List.getElem?_cons_succ, List.getElem?_cons_zero]; rfl) (by kernel_rfl) (by kernel_rfl) (by kernel_rfl) (by exact fun _ _ _ h => h) (Or.inl ⟨by rfl, ?_⟩) (by assumption) ?_
          rotate_left
          · (intro w hSw; (try dsimp only at hSw); go_simp) <;> with_reducible rfl
          try simp only [Act.put, List.setIfInBounds_toArray, List.set_cons_zero, List.set_cons_succ]
          refine wpAnyH_ready (rs := [12]) (by kernel_rfl) (by simp) ?_
          refine AllReadyH.cons (o := _) (by simp only [List.getElem?_toArray, List.getElem?_cons_succ, List.getElem?_cons_zero]; rfl) (fun K hK => ?_) AllReadyH.nil
          go_simp
          refine HCr.out.mono ?_
          intro e wx1 hx1
          obtain ⟨v3, ok, rfl, hq3⟩ := readPost_q hx1
          have Hq3 := Lib.hid hq3
          have HBx := Lib.hid (show Below wd.drew.heap.size wd.drew wx1 by rcases hq3 with h | ⟨rs, h⟩; exact h.2.2; exact h.2.2.2.2)
          clear hx1 hq3
          go_wp2_with fail
          refine hK.out _ _ ?_ (fun hHeld => ?_)
          · exact ⟨keepc HBx.out hHeld.1, keepc HBx.out hHeld.2.1, keepc HBx.out hHeld.2.2.1, keepc HBx.out hHeld.2.2.2⟩
          clear hK K
          try simp only [Act.put, List.setIfInBounds_toArray, List.set_cons_zero, List.set_cons_succ]
          refine wpAnyH_take (i := 13) (oi := _) (v := ?_) (by simp only [List.getElem?_toArray, List.getElem?_cons_succ, List.getElem?_cons_zero]; rfl) (by kernel_rfl) (by kernel_rfl) (by kernel_rfl) (by exact fun _ _ _ h => h) (Or.inl ⟨by rfl, ?_⟩) (by assumption) ?_
          rotate_left
          · (intro w hSw; (try dsimp only at hSw); go_simp) <;> with_reducible rfl
          try simp only [Act.put, List.setIfInBounds_toArray, List.set_cons_zero, List.set_cons_succ]
          refine wpAnyH_take (i := 14) (oi := _) (v := ?_) (by simp only [List.getElem?_toArray, List.getElem?_cons_succ, List.getElem?_cons_zero]; rfl) (by kernel_rfl) (by kernel_rfl) (by kernel_rfl) (by exact fun _ _ _ h => h) (Or.inl ⟨by rfl, ?_⟩) (by assumption) ?_
          rotate_left
          · (intro w hSw; (try dsimp only at hSw); go_simp) <;> with_reducible rfl
          try simp only [Act.put, List.setIfInBounds_toArray, List.set_cons_zero, List.set_cons_succ]
          refine wpAnyH_take (i := 15) (oi := _) (v := ?_) (by simp only [List.getElem?_toArray, List.getElem?_cons_succ, List.getElem?_cons_zero]; rfl) (by kernel_rfl) (by kernel_rfl) (by kernel_rfl) (by exact fun _ _ _ h => h) (Or.inl ⟨by rfl, ?_⟩) (by assumption) ?_
          rotate_left
          · (intro w hSw; (try dsimp only at hSw); go_simp) <;> with_reducible rfl
          try simp only [Act.put, List.setIfInBounds_toArray, List.set_cons_zero, List.set_cons_succ]
          refine wpAnyH_take (i := 16) (oi := _) (v := ?_) (by simp only [List.getElem?_toArray, List.getElem?_cons_succ, List.getElem?_cons_zero]; rfl) (by kernel_rfl) (by kernel_rfl) (by kernel_rfl) (by exact fun _ _ _ h => h) (Or.inl ⟨by rfl, ?_⟩) (by assumption) ?_
          rotate_left
          · (intro w hSw; (try dsimp only at hSw); go_simp) <;> with_reducible rfl
          try simp only [Act.put, List.setIfInBounds_toArray, List.set_cons_zero, List.set_cons_succ]
          refine wpAnyH_take (i := 17) (oi := _) (v := ?_) (by simp only [List.getElem?_toArray, List.getElem?_cons_succ, List.getElem?_cons_zero]; rfl) (by kernel_rfl) (by kernel_rfl) (by kernel_rfl) (by exact fun _ _ _ h => h) (Or.inl ⟨by rfl, ?_⟩) (by assumption) ?_
          rotate_left
          · (intro w hSw; (try dsimp only at hSw); go_simp) <;> with_reducible rfl
          try simp only [Act.put, List.setIfInBounds_toArray, List.set_cons_zero, List.set_cons_succ]
          refine wpAnyH_done (by kernel_rfl) ?_ _
          have hq3 := Hq3.out
          clear Hq3 hHeld
          rcases hq3 with ⟨hN3, rfl, hb3⟩ | ⟨rs, hN3, rfl, hl3, hn3, hb3⟩
          · have HN3 := Lib.hid (show betS s.data.toList x y = none by rw [HN.out]; exact bet_stop Hd.out Hh.out hN3 Hmap.out)
            clear hN3 hb3
            go_wp2_with fail
            go_ret2
            exact .inl ⟨HN3.out, rfl, (Hb.out.trans (HBl1.out.mono (by omega))).trans (HBx.out.drewl.mono (by omega))⟩
          · have Hnext := Lib.hid (bet_next Hd.out Hh.out hN3 Hmap.out)
            obtain ⟨A3', c3', rfl⟩ := hl3.form
            have hBd : Below wd.heap.size wd wx1 := HBx.out.drewl
            have HL2 := HL1.out.below hBd
            have HDuo := Lib.hid (show Duo2 (fun k => k < w1.heap.size) 36 3 (.slice A m c) m (acc.flatMap rowCells) 36 3 (.slice A3' rs.length c3') rs.length (rs.flatMap rowCells) wx1 from
              ⟨HL2.shift fun j hj hp => by
                rcases hp with h1 | h1
                · exact HL2.2 j hj h1
                · exact hl3.2 j h1 (HL1.out.1.lt j hj).2,
              hl3.shift fun j hj hp => by
                rcases hp with h1 | h1
                · exact hl3.2 j hj (Nat.lt_of_lt_of_le h1 HBl1.out.size)
                · exact hl3.2 j hj (HL1.out.1.lt j h1).2⟩)
            have Hbx3 := Lib.hid (show RBox B x y wx1 from (hBd.block B (by omega)).trans Hbx1.out)
            have HB3 := Lib.hid (HBl1.out.trans (hBd.mono HBl1.out.size))
            obtain ⟨nr, hnr⟩ : ∃ nr, rs.length = nr := ⟨_, rfl⟩
            rw [hnr] at HDuo hn3 ⊢
            have Hnr := Lib.hid hnr
            clear hN3 hl3 hb3 hBd HL2 HL1 HBl1 Hbx1 HBx f0d f1d f2d f3d HCr hnr
            go_wp2_with fail
            go_loopw [10, 14] (fun ov kx wr => ∃ (j : Nat) (acc' : List Row) (A' : Option Addr) (c' : Nat), kx = .int .i64 j ∧ ov = .slice A' acc'.length c' ∧ j ≤ nr ∧ Hid (acc' = acc ++ (rs.take j).filter (inR x y)) ∧ acc'.length ≤ m + j ∧
                Duo2 (fun k => k < w1.heap.size) 36 3 (.slice A' acc'.length c') acc'.length (acc'.flatMap rowCells) 36 3 (.slice A3' nr c3') nr (rs.flatMap rowCells) wr ∧ RBox B x y wr ∧ Below w1.heap.size w1 wr) (fun _ kx _ => nr - (intOf kx).toNat)
            case atStart => exact ⟨0, acc, A, c, rfl, by rw [Hm.out], by omega, Lib.hid (by simp), by rw [Hm.out]; omega, by rw [Hm.out]; exact HDuo.out, Hbx3.out, HB3.out⟩
            case round =>
              obtain ⟨j, acc', A', c', rfl, rfl, hj, hac', hle', hduo, hbx, hbel⟩ := hrel
              have HD := Lib.hid hduo
              have Hbx := Lib.hid hbx
              have Hbel := Lib.hid hbel
              clear hduo hbx hbel HDuo Hbx3 HB3
              obtain ⟨ml, hml⟩ : ∃ ml, acc'.length = ml := ⟨_, rfl⟩
              rw [hml] at HD hle' ⊢
              have Hml := Lib.hid hml
              clear hml
              by_cases hlt2 : j < nr
              · have hlt3 : j < rs.length := by have := Hnr.out; omega
                obtain ⟨g4, o4, rfl, hg4, s0, s1, s2⟩ := row_at HD.out.r.rd hlt3
                obtain ⟨x0, x1⟩ := Hbx.out.cells
                have hft := filter_take (p := inR x y) hlt3
                obtain ⟨r, hr⟩ : ∃ r, rs[j] = r := ⟨_, rfl⟩
                rw [hr] at s0 s1 s2 hft
                have Hft := Lib.hid hft
                clear hr hft hlt3
                obtain ⟨T', I', V'⟩ := r
                simp only at s0 s1 s2
                have hj1 : (j : Int) < nr := by omega
                have hbk : B + 1 ≤ wr.heap.size := Nat.le_trans hB1 Hbel.out.size
                have hc : ¬ x ≤ T' ∨ (x ≤ T' ∧ ¬ T' < y) ∨ (x ≤ T' ∧ T' < y) := by omega
                rcases hc with h1 | ⟨h1, h2⟩ | ⟨h1, h2⟩
                · have k1 : decide (x ≤ T') = false := decide_eq_false h1
                  have HI := Lib.hid (show inR x y ⟨T', I', V'⟩ = false by unfold inR; simp only [k1, Bool.false_and])
                  clear h1
                  go_wp2_with fail
                  go_quiet (fail)
                  go_wp2_with fail
                  go_roundw
                  case rel => exact ⟨j + 1, acc', A', c', by go_num, by rw [Hml.out], by omega, Lib.hid (by rw [Hft.out, HI.out, if_neg (by simp), List.append_nil]; exact hac'.out), by rw [Hml.out]; omega, by rw [Hml.out]; exact HD.out.below (below_drewN (Below.refl _ _) _), Hbx.out, below_drewN Hbel.out _⟩
                  case measure => simp [intOf]; omega
                · have k1 : decide (x ≤ T') = true := decide_eq_true h1
                  have k2 : decide (T' < y) = false := decide_eq_false h2
                  have HI := Lib.hid (show inR x y ⟨T', I', V'⟩ = false by unfold inR; simp only [k1, k2, Bool.and_false])
                  clear h1 h2
                  go_wp2_with fail
                  go_quiet (fail)
                  go_wp2_with fail
                  go_roundw
                  case rel => exact ⟨j + 1, acc', A', c', by go_num, by rw [Hml.out], by omega, Lib.hid (by rw [Hft.out, HI.out, if_neg (by simp), List.append_nil]; exact hac'.out), by rw [Hml.out]; omega, by rw [Hml.out]; exact HD.out.below (below_drewN (Below.refl _ _) _), Hbx.out, below_drewN Hbel.out _⟩
                  case measure => simp [intOf]; omega
                · have k1 : decide (x ≤ T') = true := decide_eq_true h1
                  have k2 : decide (T' < y) = true := decide_eq_true h2
                  have HI := Lib.hid (show inR x y ⟨T', I', V'⟩ = true by unfold inR; simp only [k1, k2, Bool.and_true])
                  clear h1 h2
                  go_wp2_with fail
                  go_quiet (fail)
                  have HDd := Lib.hid (HD.out.below (below_drewN (Below.refl _ _) nq))
                  have Hbeld := Lib.hid (below_drewN Hbel.out nq)
                  have Hbxd := Lib.hid (show RBox B x y (wr.drewN nq) from Hbx.out)
                  have hold := HDd.out.old (R := fun k => k < w1.heap.size) fun j hj => Nat.lt_of_lt_of_le hj Hbel.out.size
                  have hBnr : B < w1.heap.size := hB1
                  go_wp2_with (at_builtin; go_must (refine wpList_append_elem_row rfl (.tmp 90) (.tmp 95) 28 (by rfl) 36 (.agg #[.int .i64 0, .int .i64 0, .int .i64 0]) 3 24 Try.underlying28 rowInf rfl (by decide) _ ml _ _ (wr.drewN nq) #[.int .i64 T', .int .i64 I', .int .i64 V'] rfl (by intro u hu; simp at hu; rcases hu with rfl | rfl | rfl <;> rfl) HDd.out.l (by rfl) hold (by rfl) (by unfold maxLen; omega) (by omega) ?_); intro v8 w8 hown8 hst8 hgr8 hat8; have HD8 := Lib.hid (HDd.out.append hown8 hst8 hat8); have Hb8 := Lib.hid (Hbeld.out.trans (hst8.below fun k hk => .inl hk)); have Hbx8 := Lib.hid (show RBox B x y w8 from (hst8.block B (.inl hBnr)).trans Hbxd.out); obtain ⟨A8, c8, rfl⟩ := hown8.form; clear hown8 hst8 hgr8 hat8)
                  go_roundw
                  case rel =>
                    have hl1 : (acc' ++ [(⟨T', I', V'⟩ : Row)]).length = ml + 1 := by rw [List.length_append, Hml.out]; rfl
                    have hf1 : (acc' ++ [(⟨T', I', V'⟩ : Row)]).flatMap rowCells = acc'.flatMap rowCells ++ #[Value.int .i64 T', .int .i64 I', .int .i64 V'].toList := by simp [rowCells]
                    exact ⟨j + 1, acc' ++ [⟨T', I', V'⟩], A8, c8, by go_num, by rw [hl1], by omega, Lib.hid (by rw [Hft.out, HI.out, if_pos rfl, hac'.out, List.append_assoc]), by rw [hl1]; omega, by rw [hl1, hf1]; exact HD8.out, Hbx8.out, Hb8.out⟩
                  case measure => simp [intOf]; omega
              · obtain rfl : j = nr := by omega
                have HA := Lib.hid (show acc' = acc ++ rs.filter (inR x y) by rw [hac'.out, List.take_of_length_le (by rw [Hnr.out]; exact Nat.le_refl _)])
                go_wp2_with fail
                go_roundw
                case rel => exact ⟨i + 1, acc', A', c', by go_num, by rw [Hml.out], by rw [Hn.out]; omega, by rw [Hml.out]; omega, by rw [Hml.out]; exact HD.out.l.shift fun j hj hp => HD.out.l.2 j hj (.inl hp), Hbel.out, by rw [HA.out]; exact Hnext.out⟩
                case measure => simp [intOf]; omega
      · obtain rfl : i = n := by omega
        have Hdone := Lib.hid (bet_done Hn.out.symm Hmap.out)
        clear x0 x1
        go_wp2_with fail
        go_ret2
        exact .inr ⟨acc, _, by rw [HN.out]; exact Hdone.out, rfl, by rw [Hm.out]; exact Hlie.out.shift fun j hj hp => Hlie.out.2 j hj (by omega), by rw [Hm.out]; omega, Hb.out.trans (Hbel.out.mono (by omega))⟩
end Go.Proofs.Ythmikefinibecaa
