/-
  runs: Between.
-/
import Derived.Test.YthmikefinibecaaRunDel2
namespace Go.Proofs.Ythmikefinibecaa
open Go Go.RowKit

/-- the rows in a range, of bytes -/
def betS (l : List UInt8) (x y : Int) : Option (List Row) := (fencesR l).bind (betR x y)
/-- what Between answers -/
def BetPost (s : ByteArray) (x y : Int) (B : Nat) (w : World) (e : Ending) (w' : World) : Prop :=
  (betS s.data.toList x y = none ∧ e = .returned (.tuple #[.slice none 0 0, .int .i64 11]) ∧ Below B w w') ∨
    ∃ rs v, betS s.data.toList x y = some rs ∧ e = .returned (.tuple #[v, .int .i64 0]) ∧ Lie (fun k => k < B) 36 3 v rs.length (rs.flatMap rowCells) w' ∧ rs.length ≤ 6400 ∧ Below B w w'
section
variable {x y : Int} {fs : List Fen} {i : Nat} {acc rs : List Row} {H : Option (List Row)} {f : Fen}
theorem bet_head (h : i < fs.length) (hf : fs[i] = f) : fs.drop i = f :: fs.drop (i + 1) := by rw [List.drop_eq_getElem_cons h, hf]
theorem has_max : hasR f x y = true ↔ max f.F x < min f.T y := by unfold hasR; simp
theorem bet_skip (hd : fs.drop i = f :: fs.drop (i + 1)) (hh : hasR f x y = false) (h : (betR x y (fs.drop i)).map (fun r => acc ++ r) = H) : (betR x y (fs.drop (i + 1))).map (fun r => acc ++ r) = H := by
  rw [← h, hd, betR, if_neg (fun c => by rw [has_max.2 c] at hh; cases hh)]
theorem bet_stop (hd : fs.drop i = f :: fs.drop (i + 1)) (hh : hasR f x y = true) (hr : readR f = none) (h : (betR x y (fs.drop i)).map (fun r => acc ++ r) = H) : H = none := by
  rw [← h, hd, betR, if_pos (has_max.1 hh), hr]; rfl
theorem bet_next (hd : fs.drop i = f :: fs.drop (i + 1)) (hh : hasR f x y = true) (hr : readR f = some rs) (h : (betR x y (fs.drop i)).map (fun r => acc ++ r) = H) : (betR x y (fs.drop (i + 1))).map (fun r => (acc ++ rs.filter (inR x y)) ++ r) = H := by
  rw [← h, hd, betR, if_pos (has_max.1 hh), hr]
  simp only [Option.map_map]
  congr 1
  funext r
  simp
theorem bet_done (hi : i = fs.length) (h : (betR x y (fs.drop i)).map (fun r => acc ++ r) = H) : H = some acc := by
  rw [← h, hi, List.drop_length]; simp [betR]
end
theorem rowCells_one (l : List Row) : ∀ u ∈ l.flatMap rowCells, u.oneCell' = true := by
  intro u hu
  simp only [List.mem_flatMap] at hu
  obtain ⟨r, -, hr⟩ := hu
  simp only [rowCells, List.mem_cons, List.not_mem_nil, or_false] at hr
  rcases hr with rfl | rfl | rfl <;> rfl

def BetRel (x y : Int) (fs : List Fen) (H : Option (List Row)) (w1 : World) (ov ix : Value) (wr : World) : Prop :=
  ∃ (i : Nat) (acc : List Row) (A : Option Addr) (c : Nat), ix = .int .i64 i ∧ ov = .slice A acc.length c ∧ i ≤ fs.length ∧ acc.length ≤ 16 * i ∧ Lie (fun k => k < w1.heap.size) 36 3 (.slice A acc.length c) acc.length (acc.flatMap rowCells) wr ∧ Below w1.heap.size w1 wr ∧
    (betR x y (fs.drop i)).map (fun r => acc ++ r) = H

set_option linter.unusedSimpArgs false in
set_option maxRecDepth 100000 in
set_option maxHeartbeats 4000000 in
theorem between_at (s : ByteArray) (x y : Int) (B : Nat) (w : World) (hB : w.heap.size = B) (hs : s.size ≤ 1000000) : Calls Try.prog 12 #[.string s, .agg #[.int .i64 x, .int .i64 y]] w (BetPost s x y B w) := by
  have e1 : (w.alloc (.cells #[.int .i64 x, .int .i64 y] 23)).heap.size = B + 1 := by simp [hB]
  have hbox : (w.alloc (.cells #[.int .i64 x, .int .i64 y] 23)).heap[B]? = some (.cells #[.int .i64 x, .int .i64 y] 23 (0, 0)) := by rw [← hB]; exact heap_alloc_new w _
  have hb0 : Below B w (w.alloc (.cells #[.int .i64 x, .int .i64 y] 23)) := (Below.refl B w).alloc (by omega) _
  have Hbox := Lib.hid hbox
  have Hb0 := Lib.hid hb0
  have HC := Lib.hid (fences_at s (B + 1) (w.alloc (.cells #[.int .i64 x, .int .i64 y] 23)) e1 hs)
  have HB := Lib.hid e1
  clear hbox hb0 e1
  go_enter Try.func12, Try.ntmps12
  go_wp2_with fail
  generalize w.alloc (.cells #[.int .i64 x, .int .i64 y] 23) = w0 at *
  clear hB
  refine HC.out.mono ?_
  rintro e w1 (⟨hN, rfl, hb⟩ | ⟨fs, v, hN, rfl, h1, hl, hb⟩)
  · have HN := Lib.hid (show betS s.data.toList x y = none by unfold betS; rw [hN]; rfl)
    have Hb := Lib.hid (Hb0.out.trans (hb.mono (by omega)))
    clear hN hb
    go_wp2_with fail
    go_ret2
    exact .inl ⟨HN.out, rfl, Hb.out⟩
  · have hok := fences_ok hN
    obtain ⟨H, hH⟩ : ∃ H, betR x y fs = H := ⟨_, rfl⟩
    have HN := Lib.hid (show betS s.data.toList x y = H by unfold betS; rw [hN, ← hH]; rfl)
    have HH := Lib.hid hH
    have Hok := Lib.hid hok
    have hB1 : B + 1 ≤ w1.heap.size := by rw [← HB.out]; exact hb.size
    have Hbox1 := Lib.hid ((hb.block B (by omega)).trans Hbox.out)
    have Hb := Lib.hid (Hb0.out.trans (hb.mono (by omega)))
    obtain ⟨A1, c1, rfl⟩ := h1.form
    have Hv := Lib.hid h1
    have Hls := Lib.hid (Lib.size_eq s)
    clear hN hH hok hb h1 Hbox Hb0 HC
    obtain ⟨n, hn⟩ : ∃ n, fs.length = n := ⟨_, rfl⟩
    have Hn := Lib.hid hn
    rw [hn] at Hv hl ⊢
    clear hn
    go_wp2_with fail
    go_loopw [8, 22] (fun ov ix wr => BetRel x y fs H w1 ov ix wr) (fun _ ix _ => n - (intOf ix).toNat)
    case atStart => exact ⟨0, [], none, 0, rfl, rfl, by omega, by simp, Lie.nil _ _ _ _, Below.refl _ _, by rw [List.drop_zero, HH.out]; simp⟩
    case round =>
      obtain ⟨i, acc, A, c, rfl, rfl, hi, hacc, hlie, hbel, hmap⟩ := hrel
      have Hmap := Lib.hid hmap
      have Hbel := Lib.hid hbel
      have hBr : B + 1 ≤ wr.heap.size := Nat.le_trans hB1 hbel.size
      obtain ⟨m, hm⟩ : ∃ m, acc.length = m := ⟨_, rfl⟩
      rw [hm] at hlie hacc ⊢
      have Hm := Lib.hid hm
      have Hlie := Lib.hid hlie
      clear hmap hbel hlie hm
      have hboxr := (Hbel.out.block B (by omega)).trans Hbox1.out
      have x0 : wr.cell? ⟨B, 0, none⟩ = some (.int .i64 x) := (Lib.cell_of_heap hboxr 0).trans rfl
      have x1 : wr.cell? ⟨B, 1, none⟩ = some (.int .i64 y) := (Lib.cell_of_heap hboxr 1).trans rfl
      clear hboxr
      rw [Hn.out] at hi
      by_cases hlt : i < n
      · have hlt' : i < fs.length := by have := Hn.out; omega
        obtain ⟨gb, off, rfl, hgb, hf⟩ := (Hv.out.below Hbel.out).rd.elem fenCells_length (by decide) hlt'
        have f0 := hf 0 _ rfl
        have f1 := hf 1 _ rfl
        have f2 := hf 2 _ rfl
        have f3 := hf 3 _ rfl
        have hokf := Hok.out fs[i] (List.getElem_mem hlt')
        obtain ⟨f, hfe⟩ : ∃ f, fs[i] = f := ⟨_, rfl⟩
        have Hd := Lib.hid (bet_head hlt' hfe)
        rw [hfe] at f0 f1 f2 f3 hokf
        have Hokf := Lib.hid (show FenOk 1000000 f from ⟨hokf.1, hokf.2.1, hokf.2.2.1, hokf.2.2.2.1, hokf.2.2.2.2.1, by have := hokf.2.2.2.2.2; have := Hls.out; omega⟩)
        clear hf hfe hlt' hokf
        obtain ⟨F, T, k, b⟩ := f
        simp only [Nat.add_zero] at f0 f1 f2 f3
        have f1' : wr.cell? ⟨gb, off + i * 4 + 1, none⟩ = some (.int .i64 T) := by rw [Nat.add_assoc]; exact f1
        have f2' : wr.cell? ⟨gb, off + i * 4 + 2, none⟩ = some (.int .i64 k) := by rw [Nat.add_assoc]; exact f2
        have f3' : wr.cell? ⟨gb, off + i * 4 + 3, none⟩ = some (.string (S b)) := by rw [Nat.add_assoc]; exact f3
        clear f1 f2 f3
        have hk1 : (i : Int) < n := by omega
        have hBl : B < wr.heap.size := by omega
        have x0a : (wr.alloc (.cells #[.int .i64 F, .int .i64 T, .int .i64 k, .string (S b)] 46)).cell? ⟨B, 0, none⟩ = some (.int .i64 x) := Lib.cell?_alloc_some _ x0
        have x1a : (wr.alloc (.cells #[.int .i64 F, .int .i64 T, .int .i64 k, .string (S b)] 46)).cell? ⟨B, 1, none⟩ = some (.int .i64 y) := Lib.cell?_alloc_some _ x1
        have HCh := Lib.hid (has_any ⟨F, T, k, b⟩ x y (wr.alloc (.cells #[.int .i64 F, .int .i64 T, .int .i64 k, .string (S b)] 46)))
        cases hh : hasR ⟨F, T, k, b⟩ x y with
        | false =>
          have Hskip := Lib.hid (bet_skip Hd.out hh Hmap.out)
          rw [hh] at HCh
          clear hh
          go_wp2_with fail
          refine HCh.out.mono ?_
          rintro e w2 ⟨rfl, hb2⟩
          have Hb2 := Lib.hid (Hbel.out.trans (hb2.allocl.mono Hbel.out.size))
          have Hl2 := Lib.hid (Hlie.out.below hb2.allocl)
          clear hb2
          go_wp2_with fail
          go_roundw
          case rel => exact ⟨i + 1, acc, A, c, by go_num, by rw [Hm.out], by rw [Hn.out]; omega, by rw [Hm.out]; omega, by rw [Hm.out]; exact Hl2.out, Hb2.out, Hskip.out⟩
          case measure => simp [intOf]; omega
        | true =>
          have Hh := Lib.hid hh
          rw [hh] at HCh
          clear hh
          go_wp2_with fail
          refine HCh.out.mono ?_
          rintro e w2 ⟨rfl, hb2⟩
          have Hb2 := Lib.hid (Hbel.out.trans (hb2.allocl.mono Hbel.out.size))
          have Hl2 := Lib.hid (Hlie.out.below hb2.allocl)
          have hbx := (hb2.block wr.heap.size (by simp)).trans (heap_alloc_new wr (.cells #[.int .i64 F, .int .i64 T, .int .i64 k, .string (S b)] 46))
          have g0 : w2.cell? ⟨wr.heap.size, 0, none⟩ = some (.int .i64 F) := (Lib.cell_of_heap hbx 0).trans rfl
          have g1 : w2.cell? ⟨wr.heap.size, 1, none⟩ = some (.int .i64 T) := (Lib.cell_of_heap hbx 1).trans rfl
          have g2 : w2.cell? ⟨wr.heap.size, 2, none⟩ = some (.int .i64 k) := (Lib.cell_of_heap hbx 2).trans rfl
          have g3 : w2.cell? ⟨wr.heap.size, 3, none⟩ = some (.string (S b)) := (Lib.cell_of_heap hbx 3).trans rfl
          have y0 := keepc hb2.allocl x0
          have y1 := keepc hb2.allocl x1
          have hs2 : wr.heap.size + 1 ≤ w2.heap.size := by have := hb2.size; simp at this; omega
          clear hb2 hbx HCh f0 f1' f2' f3' x0 x1 x0a x1a
          have HCr := Lib.hid (read_at ⟨F, T, k, b⟩ w2.heap.size w2 rfl Hokf.out)
          go_wp2_with fail
          refine HCr.out.mono ?_
          rintro e w3 (⟨hN3, ⟨v3, rfl⟩, hb3⟩ | ⟨rs, v3, hN3, rfl, hl3, hn3, hb3⟩)
          · have HN3 := Lib.hid (show betS s.data.toList x y = none by rw [HN.out]; exact bet_stop Hd.out Hh.out hN3 Hmap.out)
            have Hb3 := Lib.hid (Hb2.out.trans (hb3.mono Hb2.out.size))
            clear hN3 hb3
            go_wp2_with fail
            go_ret2
            exact .inl ⟨HN3.out, rfl, Hb.out.trans (Hb3.out.mono (by omega))⟩
          · have Hnext := Lib.hid (bet_next Hd.out Hh.out hN3 Hmap.out)
            obtain ⟨A3, c3, rfl⟩ := hl3.form
            have HCd := Lib.hid (delete_at x y B w2.heap.size A3 c3 rs.length rs w3 (keepc hb3 y0) (keepc hb3 y1) (by omega) hb3.size hl3 rfl hn3)
            have Hb3 := Lib.hid hb3
            have Hl3 := Lib.hid hl3
            have hmf : ∀ (fn : Fn) (first cap : Array Value) (w : World), (Instr.makeFunc fn first cap).run Try.prog w = .ok (.func fn first cap) w := fun _ _ _ _ => rfl
            have Hfl := Lib.hid (List.length_filter_le (inR x y) rs)
            clear hN3 hl3 hb3
            go_wp2_with fail
            refine HCd.out.mono ?_
            rintro e w4 ⟨A4, c4, rfl, hr4, hb4⟩
            have Hr4 := Lib.hid hr4
            have Hl4 := Lib.hid (Hl2.out.below (Hb3.out.trans hb4))
            have Hb4 := Lib.hid (Hb2.out.trans ((Hb3.out.trans hb4).mono Hb2.out.size))
            have hold : Old (fun j => j < w1.heap.size) w4 := fun j hj => Nat.lt_of_lt_of_le hj Hb4.out.size
            obtain ⟨q, hq⟩ : ∃ q, (rs.filter (inR x y)).length = q := ⟨_, rfl⟩
            rw [hq] at Hr4 Hfl ⊢
            have Hq := Lib.hid hq
            have hq16 : q ≤ 16 := Nat.le_trans Hfl.out hn3
            clear hr4 hb4 hmf y0 y1 g0 g1 g2 g3 HCr HCd hq Hfl
            go_wp2_with (at_builtin; go_must (refine wpList_append_rd_row rfl (.tmp 37) (.tmp 40) 28 (by rfl) 36 (.agg #[.int .i64 0, .int .i64 0, .int .i64 0]) 3 24 Try.underlying28 rowInf rfl (by decide) _ m _ _ w4 Hl4.out (by rfl) hold A4 q c4 _ (by rfl) Hr4.out (rowCells_one _) (by unfold maxLen; omega) (by omega) ?_); intro v8 w8 hown8 hst8 hgr8 hat8; have Hl8 := Lib.hid hown8; have Hb8 := Lib.hid (Hb4.out.trans (hst8.below fun k hk => hk)); obtain ⟨A8, c8, rfl⟩ := hown8.form; clear hown8 hst8 hgr8 hat8)
            go_roundw
            case rel =>
              have hlen : (acc ++ rs.filter (inR x y)).length = m + q := by rw [List.length_append, Hm.out, Hq.out]
              exact ⟨i + 1, acc ++ rs.filter (inR x y), A8, c8, by go_num, by rw [hlen], by rw [Hn.out]; omega, by rw [hlen]; omega, by rw [hlen, List.flatMap_append]; exact Hl8.out, Hb8.out, Hnext.out⟩
            case measure => simp [intOf]; omega
      · obtain rfl : i = n := by omega
        have Hdone := Lib.hid (bet_done Hn.out.symm Hmap.out)
        clear x0 x1
        go_wp2_with fail
        go_ret2
        exact .inr ⟨acc, _, by rw [HN.out]; exact Hdone.out, rfl, by rw [Hm.out]; exact Hlie.out.shift fun j hj hp => Hlie.out.2 j hj (by omega), by rw [Hm.out]; omega, Hb.out.trans (Hbel.out.mono (by omega))⟩
end Go.Proofs.Ythmikefinibecaa
