/-
  Blocks, of runs and of the document.
-/
import Derived.Test.YthmikefinibecaaRRunFen
namespace Go.Proofs.Ythmikefinibecaa
open Go Go.RowKit

/-- what Blocks answers -/
def BlkPost (s : ByteArray) (B : Nat) (w : World) (e : Ending) (w' : World) : Prop :=
  (fencesR s.data.toList = none ∧ e = .returned (.tuple #[.slice none 0 0, .int .i64 11]) ∧ Below B w w') ∨
    ∃ fs v, fencesR s.data.toList = some fs ∧ e = .returned (.tuple #[v, .int .i64 0]) ∧ Lie (fun k => k < B) 23 2 v fs.length (fs.flatMap rngC) w' ∧ fs.length ≤ 400 ∧ Below B w w'

set_option linter.unusedSimpArgs false in
set_option maxRecDepth 100000 in
set_option maxHeartbeats 1000000 in
theorem rblocks_at (s : ByteArray) (B : Nat) (w : World) (hB : w.heap.size = B) (hs : s.size ≤ 1000000) : Calls Try.prog 11 #[.string s] w (BlkPost s B w) := by
  have HC := Lib.hid (rfences_at s B w hB hs)
  clear hB
  go_enter Try.func11, Try.ntmps11
  go_wp2_with fail
  refine HC.out.mono ?_
  rintro e w1 (⟨hN, rfl, hb⟩ | ⟨fs, v, t, q, hN, rfl, h1, h2, h3, hl, hb⟩)
  · have HN := Lib.hid hN
    clear hN
    go_wp2_with fail
    go_ret2
    exact .inl ⟨HN.out, rfl, hb⟩
  · have HN := Lib.hid hN
    clear hN
    obtain ⟨A1, c1, rfl⟩ := h1.form
    obtain ⟨A2, c2, rfl⟩ := h2.form
    obtain ⟨A3, c3, rfl⟩ := h3.form
    go_wp2_with fail
    go_ret2
    exact .inr ⟨fs, _, HN.out, rfl, h1, hl, hb⟩

set_option linter.unusedSimpArgs false in
set_option maxRecDepth 100000 in
set_option maxHeartbeats 1000000 in
theorem blocks_at (s : ByteArray) (B : Nat) (w : World) (hB : w.heap.size = B) (hs : s.size ≤ 1000000) : Calls Try.prog 10 #[.string s] w (BlkPost s B w) := by
  have HC := Lib.hid (fences_at s B w hB hs)
  have HB := Lib.hid hB
  clear hB
  go_enter Try.func10, Try.ntmps10
  go_wp2_with fail
  refine HC.out.mono ?_
  rintro e w1 (⟨hN, rfl, hb⟩ | ⟨fs, v, hN, rfl, h1, hl, hb⟩)
  · have HN := Lib.hid hN
    clear hN
    go_wp2_with fail
    go_ret2
    exact .inl ⟨HN.out, rfl, hb⟩
  · have HN := Lib.hid hN
    clear hN
    obtain ⟨A1, c1, rfl⟩ := h1.form
    have Hv := Lib.hid h1
    have Hb := Lib.hid hb
    have HBs := Lib.hid (show B ≤ w1.heap.size by rw [← HB.out]; exact hb.size)
    clear h1 hb
    obtain ⟨n, hn⟩ : ∃ n, fs.length = n := ⟨_, rfl⟩
    rw [hn] at Hv hl ⊢
    have Hn := Lib.hid hn
    clear hn
    go_wp2_with fail
    go_loopw [6, 18] (fun ov ix wr => ∃ (i : Nat) (A : Option Addr) (c : Nat), ix = .int .i64 i ∧ ov = .slice A i c ∧ i ≤ n ∧ Lie (fun k => k < w1.heap.size) 23 2 (.slice A i c) i ((fs.take i).flatMap rngC) wr ∧ Below w1.heap.size w1 wr) (fun _ ix _ => n - (intOf ix).toNat)
    case atStart => exact ⟨0, none, 0, rfl, rfl, by omega, Lie.nil _ _ _ _, Below.refl _ _⟩
    case round =>
      obtain ⟨i, A, c, rfl, rfl, hi, hlie, hbel⟩ := hrel
      by_cases hlt : i < n
      · have hlt' : i < fs.length := by have := Hn.out; omega
        obtain ⟨gb, off, rfl, hgb, hf⟩ := (Hv.out.below hbel).rd.elem fenCells_length (by decide) hlt'
        have f0 := hf 0 _ rfl
        have f1 := hf 1 _ rfl
        have f2 := hf 2 _ rfl
        have f3 := hf 3 _ rfl
        have hfr : (fs.take (i + 1)).flatMap rngC = (fs.take i).flatMap rngC ++ #[Value.int .i64 fs[i].F, .int .i64 fs[i].T].toList := by
          rw [show fs.take (i + 1) = fs.take i ++ [fs[i]] by rw [List.take_append_getElem], List.flatMap_append]; simp [rngC]
        have Hfr := Lib.hid hfr
        generalize fs[i] = f at *
        obtain ⟨F, T, k, b⟩ := f
        simp only [Nat.add_zero] at f0 f1 f2 f3
        have f1' : wr.cell? ⟨gb, off + i * 4 + 1, none⟩ = some (.int .i64 T) := by rw [Nat.add_assoc]; exact f1
        have f2' : wr.cell? ⟨gb, off + i * 4 + 2, none⟩ = some (.int .i64 k) := by rw [Nat.add_assoc]; exact f2
        have f3' : wr.cell? ⟨gb, off + i * 4 + 3, none⟩ = some (.string (S b)) := by rw [Nat.add_assoc]; exact f3
        clear hf hfr f1 f2 f3 hlt'
        have Hl := Lib.hid hlie
        have Hbel := Lib.hid hbel
        clear hlie hbel
        have hk1 : (i : Int) < n := by omega
        have Hl1 := Lib.hid (Hl.out.alloc (.cells #[.int .i64 F, .int .i64 T, .int .i64 k, .string (S b)] 46))
        have Hb1 := Lib.hid (Hbel.out.alloc Hbel.out.size (.cells #[.int .i64 F, .int .i64 T, .int .i64 k, .string (S b)] 46))
        have Hsz := Lib.hid (show (wr.alloc (.cells #[.int .i64 F, .int .i64 T, .int .i64 k, .string (S b)] 46)).heap.size = wr.heap.size + 1 by simp)
        have hold : Old (fun j => j < w1.heap.size) (wr.alloc (.cells #[.int .i64 F, .int .i64 T, .int .i64 k, .string (S b)] 46)) := fun j hj => Nat.lt_of_lt_of_le hj Hb1.out.size
        go_wp2_with (at_builtin; go_must (refine wpList_append_elem_row rfl (.tmp 22) (.tmp 25) 24 (by rfl) 23 (.agg #[.int .i64 0, .int .i64 0]) 2 16 Try.underlying24 rngInf rfl (by decide) _ i _ _ (wr.alloc (.cells #[.int .i64 F, .int .i64 T, .int .i64 k, .string (S b)] 46)) #[.int .i64 F, .int .i64 T] rfl (by intro u hu; simp at hu; rcases hu with rfl | rfl <;> rfl) Hl1.out (by rfl) hold (by rw [Hsz.out]; rfl) (by unfold maxLen; omega) (by omega) ?_); intro v8 w8 hown8 hst8 hgr8 hat8; have Hl8 := Lib.hid hown8; have Hb8 := Lib.hid (Hb1.out.trans (hst8.below fun k hk => hk)); obtain ⟨A8, c8, rfl⟩ := hown8.form; clear hown8 hst8 hgr8 hat8)
        go_roundw
        case rel => exact ⟨i + 1, A8, c8, by go_num, rfl, by omega, by rw [Hfr.out]; exact Hl8.out, Hb8.out⟩
        case measure => simp [intOf]; omega
      · obtain rfl : i = n := by omega
        have Hl := Lib.hid hlie
        have Hbel := Lib.hid hbel
        clear hlie hbel
        go_wp2_with fail
        go_ret2
        refine .inr ⟨fs, _, HN.out, rfl, ?_, by rw [Hn.out]; exact hl, Hb.out.trans (Hbel.out.mono HBs.out)⟩
        have hl2 := Hl.out
        rw [List.take_of_length_le (by rw [Hn.out]; exact Nat.le_refl _)] at hl2
        rw [Hn.out]
        exact hl2.shift fun j hj hp => hl2.2 j hj (Nat.lt_of_lt_of_le hp HBs.out)
end Go.Proofs.Ythmikefinibecaa
