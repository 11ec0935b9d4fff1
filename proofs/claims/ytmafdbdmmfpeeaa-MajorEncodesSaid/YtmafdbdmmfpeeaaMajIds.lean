/-
  major.IDs.
-/
import Derived.Test.YtmafdbdmmfpeeaaMajTab
namespace Go.Proofs.Ytmafdbdmmfpeeaa
open Go Go.RowKit

theorem intInf : (Try.prog.info? 3).map (fun i => (i.zero, i.size, i.bytes)) = some (some (.int .i64 0), 1, 8) := by kernel_rfl
def idCells (p : Nat × List UInt8) : List Value := [.int .i64 (p.1 : Int)]
theorem idCells_length (p : Nat × List UInt8) : (idCells p).length = 1 := rfl
theorem cutE_len : ∀ (es : List (Nat × Nat)) (t : List UInt8), (cutE es t).length = es.length
  | [], _ => rfl
  | e :: es, t => by simp [cutE, cutE_len es]
theorem cutE_id : ∀ (es : List (Nat × Nat)) (t : List UInt8) (off i : Nat) (h : i < (mkE off es).length) (h' : i < (cutE es t).length), (cutE es t)[i].1 = (mkE off es)[i].1
  | [], _, _, _, h, _ => absurd h (by simp [mkE])
  | e :: es, t, off, 0, _, _ => rfl
  | e :: es, t, off, i + 1, h, h' => by
    simp only [mkE, cutE, List.getElem_cons_succ] at h h' ⊢
    exact cutE_id es _ _ i (by simpa using h) (by simpa using h')
/-- what IDs answers -/
def IdsPost (s : ByteArray) (B : Nat) (w : World) (e : Ending) (w' : World) : Prop :=
  (tableR s.data.toList = none ∧ e = .returned (.tuple #[.slice none 0 0, .int .i64 11]) ∧ Below B w w') ∨
    ∃ ps v, tableR s.data.toList = some ps ∧ e = .returned (.tuple #[v, .int .i64 0]) ∧ Lie (fun k => k < B) 3 1 v ps.length (ps.flatMap idCells) w' ∧ ps.length ≤ 200 ∧ Below B w w'

set_option linter.unusedSimpArgs false in
set_option maxRecDepth 100000 in
set_option maxHeartbeats 1000000 in
theorem ids_at (s : ByteArray) (B : Nat) (w : World) (hB : w.heap.size = B) (hs : s.size ≤ 1000000) : Calls Try.prog 8 #[.string s] w (IdsPost s B w) := by
  have HC := Lib.hid (table_at s B w hB hs)
  have HB := Lib.hid hB
  clear hB
  go_enter Try.func8, Try.ntmps8
  go_wp2_with fail
  refine HC.out.mono ?_
  rintro e w1 (⟨hN, ⟨v, rfl⟩, hb⟩ | ⟨es, a, v, hN, hsum, hid, rfl, h1, hl, hb⟩)
  · have HN := Lib.hid hN
    clear hN
    go_wp2_with fail
    go_ret2
    exact .inl ⟨HN.out, rfl, hb⟩
  · obtain ⟨ps, hps⟩ : ∃ ps, cutE es (s.data.toList.drop a) = ps := ⟨_, rfl⟩
    have hpl : ps.length = es.length := by rw [← hps, cutE_len]
    have Hid2 := Lib.hid (show ∀ i, (h : i < (mkE a es).length) → (h' : i < ps.length) → ps[i].1 = (mkE a es)[i].1 from fun i h h' => by
      subst hps
      exact cutE_id es _ a i h h')
    rw [hps] at hN
    have HN := Lib.hid hN
    obtain ⟨A1, c1, rfl⟩ := h1.form
    have Hv := Lib.hid h1
    have Hb := Lib.hid hb
    have HBs := Lib.hid (show B ≤ w1.heap.size by rw [← HB.out]; exact hb.size)
    clear hN h1 hb hid hsum hps
    obtain ⟨n, hn⟩ : ∃ n, es.length = n := ⟨_, rfl⟩
    rw [hn] at Hv hl hpl ⊢
    have Hn := Lib.hid hn
    have Hpl := Lib.hid hpl
    clear hn hpl
    go_wp2_with fail
    go_loopw [6, 18] (fun ov ix wr => ∃ (i : Nat) (A : Option Addr) (c : Nat), ix = .int .i64 i ∧ ov = .slice A i c ∧ i ≤ n ∧ Lie (fun k => k < w1.heap.size) 3 1 (.slice A i c) i ((ps.take i).flatMap idCells) wr ∧ Below w1.heap.size w1 wr) (fun _ ix _ => n - (intOf ix).toNat)
    case atStart => exact ⟨0, none, 0, rfl, rfl, by omega, Lie.nil _ _ _ _, Below.refl _ _⟩
    case round =>
      obtain ⟨i, A, c, rfl, rfl, hi, hlie, hbel⟩ := hrel
      by_cases hlt : i < n
      · have hlt' : i < (mkE a es).length := by rw [mkE_length, Hn.out]; exact hlt
        have hltp : i < ps.length := by rw [Hpl.out]; exact hlt
        obtain ⟨gb, off, rfl, hgb, hf⟩ := (Hv.out.below hbel).rd.elem entCells_length (by decide) hlt'
        have f0 := hf 0 _ rfl
        have f1 := hf 1 _ rfl
        have f2 := hf 2 _ rfl
        have hfr : (ps.take (i + 1)).flatMap idCells = (ps.take i).flatMap idCells ++ #[Value.int .i64 ((mkE a es)[i].1 : Int)].toList := by
          rw [show ps.take (i + 1) = ps.take i ++ [ps[i]] by rw [List.take_append_getElem], List.flatMap_append, ← Hid2.out i hlt' hltp]; simp [idCells]
        generalize (mkE a es)[i] = f at *
        obtain ⟨p, q, t⟩ := f
        simp only [Nat.add_zero] at f0 f1 f2 hfr
        have Hfr := Lib.hid hfr
        have f1' : wr.cell? ⟨gb, off + i * 3 + 1, none⟩ = some (.int .i64 (q : Int)) := by rw [Nat.add_assoc]; exact f1
        have f2' : wr.cell? ⟨gb, off + i * 3 + 2, none⟩ = some (.int .i64 (t : Int)) := by rw [Nat.add_assoc]; exact f2
        clear hf hfr f1 f2
        have Hl := Lib.hid hlie
        have Hbel := Lib.hid hbel
        clear hlie hbel
        have hk1 : (i : Int) < n := by omega
        have Hl1 := Lib.hid (Hl.out.alloc (.cells #[.int .i64 p, .int .i64 q, .int .i64 t] 51))
        have Hb1 := Lib.hid (Hbel.out.alloc Hbel.out.size (.cells #[.int .i64 p, .int .i64 q, .int .i64 t] 51))
        have Hsz := Lib.hid (show (wr.alloc (.cells #[.int .i64 p, .int .i64 q, .int .i64 t] 51)).heap.size = wr.heap.size + 1 by simp)
        have hold : Old (fun j => j < w1.heap.size) (wr.alloc (.cells #[.int .i64 p, .int .i64 q, .int .i64 t] 51)) := fun j hj => Nat.lt_of_lt_of_le hj Hb1.out.size
        go_wp2_with (at_builtin; go_must (refine wpList_append_elem_row rfl (.tmp 22) (.tmp 25) 22 (by rfl) 3 (.int .i64 0) 1 8 Try.underlying22 intInf rfl (by decide) _ i _ _ (wr.alloc (.cells #[.int .i64 p, .int .i64 q, .int .i64 t] 51)) #[.int .i64 p] rfl (by intro u hu; simp at hu; subst hu; rfl) Hl1.out (by rfl) hold (by rw [Hsz.out]; rfl) (by unfold maxLen; omega) (by omega) ?_); intro v8 w8 hown8 hst8 hgr8 hat8; have Hl8 := Lib.hid hown8; have Hb8 := Lib.hid (Hb1.out.trans (hst8.below fun k hk => hk)); obtain ⟨A8, c8, rfl⟩ := hown8.form; clear hown8 hst8 hgr8 hat8)
        go_roundw
        case rel => exact ⟨i + 1, A8, c8, by go_num, rfl, by omega, by rw [Hfr.out]; exact Hl8.out, Hb8.out⟩
        case measure => simp [intOf]; omega
      · obtain rfl : i = n := by omega
        have Hl := Lib.hid hlie
        have Hbel := Lib.hid hbel
        clear hlie hbel
        go_wp2_with fail
        go_ret2
        refine .inr ⟨ps, _, HN.out, rfl, ?_, by rw [Hpl.out]; exact hl, Hb.out.trans (Hbel.out.mono HBs.out)⟩
        have hl2 := Hl.out
        rw [List.take_of_length_le (by rw [Hpl.out]; exact Nat.le_refl _)] at hl2
        rw [Hpl.out]
        exact hl2.shift fun j hj hp => hl2.2 j hj (Nat.lt_of_lt_of_le hp HBs.out)
end Go.Proofs.Ytmafdbdmmfpeeaa
