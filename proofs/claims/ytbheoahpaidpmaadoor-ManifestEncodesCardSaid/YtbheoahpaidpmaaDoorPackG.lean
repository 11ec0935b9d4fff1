/-
  What the walks of this claim stand on: ManTheirs, ManSame, one behind the other.
-/
import Derived.Test.YtbheoahpaidpmaaDoorManFold
import Derived.Test.YtbheoahpaidpmaaDoorRManFold
import Derived.Deep.RegionLaw
import Derived.Deep.AppendLies
import Derived.Deep.DrawnRows
import Derived.StillTailTactics
import Derived.Laws.StructEq
import Derived.BigQuiet
/-! ManTheirs -/
namespace Go.Proofs.YtbheoahpaidpmaaDoor
open Go Go.RowKit

theorem redInf : (Tryd.prog.info? 53).map (fun i => (i.zero, i.size, i.bytes)) = some (some (.agg #[.int .i64 0, .int .i64 0, .int .i64 0, .int .i64 0]), 4, 32) := by kernel_rfl

set_option linter.unusedSimpArgs false in
set_option maxRecDepth 100000 in
set_option maxHeartbeats 4000000 in
theorem edits_any (A : Option Addr) (n c : Nat) (l : List Ed) (w : World) (hr : Rd w 4 A n (l.flatMap edCells)) (hn : l.length = n) (hl : n ≤ 100000) :
    Calls Tryd.prog 11 #[.slice A n c] w fun e w' => ∃ A' c', e = .returned (.slice A' n c') ∧ Rd w' 4 A' n (l.flatMap edCells) ∧ Below w.heap.size w w' := by
  obtain ⟨B, hB⟩ : ∃ B, w.heap.size = B := ⟨_, rfl⟩
  have HR := Lib.hid hr
  have HN := Lib.hid hn
  have HM := Lib.hid (Lie.made (fun k => k < w.heap.size) w 53 4 (fun k hk => hk))
  have HB1 := Lib.hid (Below.one w (.cells #[] 53))
  rw [hB] at HM HB1
  have HB := Lib.hid hB
  clear hr hn
  go_enter Tryd.func11, Tryd.ntmps11
  go_wp2_with fail
  try simp only [hB]
  go_loopw [3, 4] (fun ov ix wr => ∃ (i : Nat) (A5 : Option Addr) (c5 : Nat), ix = .int .i64 i ∧ ov = .slice A5 i c5 ∧ i ≤ n ∧ Lie (fun k => k < B) 53 4 (.slice A5 i c5) i ((l.take i).flatMap edCells) wr ∧ Below B w wr) (fun _ ix _ => n - (intOf ix).toNat)
  case atStart => exact ⟨0, _, _, rfl, rfl, by omega, HM.out, HB1.out⟩
  case round =>
    obtain ⟨i, A5, c5, rfl, rfl, hi, hlie, hbel⟩ := hrel
    have hsz := hbel.size
    have hold : Old (fun k => k < B) wr := fun k hk => by omega
    by_cases hlt : i < n
    · have hlt' : i < l.length := by have := HN.out; omega
      have hk1 : (i : Int) < n := by omega
      obtain ⟨gb, off, rfl, hgb, s0, s1, s2, s3⟩ := ed_at (HR.out.below (by rw [HB.out]; exact hbel)) hlt'
      have htk : (l.take (i + 1)).flatMap edCells = (l.take i).flatMap edCells ++ edCells l[i] := by rw [show l.take (i + 1) = l.take i ++ [l[i]] by rw [List.take_append_getElem], List.flatMap_append]; simp
      obtain ⟨e, he⟩ : ∃ e, l[i] = e := ⟨_, rfl⟩
      rw [he] at s0 s1 s2 s3 htk
      have Htk := Lib.hid htk
      have Hl := Lib.hid hlie
      have Hb := Lib.hid hbel
      have Hgb := Lib.hid hgb
      clear he htk hlie hbel hgb hlt'
      go_wp2_with (at_builtin; go_must (refine wpList_append_elem_row rfl (.tmp 12) (.tmp 17) 34 (by rfl) 53 (.agg #[.int .i64 0, .int .i64 0, .int .i64 0, .int .i64 0]) 4 32 Tryd.underlying34 redInf rfl (by decide) (fun k => k < B) i _ _ wr #[.int .i64 e.Kind, .int .i64 e.Day, .int .i64 e.Layout, .int .i64 e.At] rfl (by intro u hu; simp at hu; rcases hu with rfl | rfl | rfl | rfl <;> rfl) Hl.out (by rfl) hold (by rfl) (by unfold maxLen; omega) (by omega) ?_; intro v9 w9 hown9 hst9 hgr9 hat9; obtain ⟨A9, c9, rfl⟩ := hown9.form; clear hgr9 hat9))
      go_roundw
      case rel => exact ⟨i + 1, A9, c9, by go_num, rfl, by omega, by rw [Htk.out]; exact hown9, Hb.out.trans (hst9.below fun k hk => hk)⟩
      case measure => simp [intOf]; omega
    · obtain rfl : i = n := by omega
      have HE := Lib.hid (show Rd wr 4 A5 i (l.flatMap edCells) by
        have := hlie.rd
        rwa [List.take_of_length_le (by rw [HN.out]; exact Nat.le_refl _)] at this)
      have Hb := Lib.hid hbel
      clear hlie hbel
      go_wp2_with fail
      go_ret
      exact ⟨A5, c5, rfl, HE.out, by rw [HB.out]; exact Hb.out⟩

theorem rd_three (w : World) (u v x : Value) (T : TypeId) : Rd (w.alloc (.cells #[u, v, x] T)) 3 (some ⟨w.heap.size, 0, none⟩) 1 [u, v, x] := by
  have h := heap_alloc_new w (.cells #[u, v, x] T)
  refine ⟨rfl, fun _ => ⟨_, _, rfl, by simp, fun j y hy => ?_⟩⟩
  rw [Lib.cell_of_heap h, Nat.zero_add]
  match j, hy with
  | 0, hy => simpa using hy
  | 1, hy => simpa using hy
  | 2, hy => simpa using hy
  | j + 3, hy => simp at hy

set_option linter.unusedSimpArgs false in
set_option maxRecDepth 100000 in
set_option maxHeartbeats 4000000 in
theorem theirs_any (A : Option Addr) (n c : Nat) (s : St) (w : World) (hr : Rd w 3 A n (s.Parts.flatMap partCells)) (hn : s.Parts.length = n) (hl : n ≤ 100000) :
    Calls Tryd.prog 13 #[stVal A n c s] w (StOne s w.heap.size w) := by
  obtain ⟨B, hB⟩ : ∃ B, w.heap.size = B := ⟨_, rfl⟩
  obtain ⟨P, N, Q, O, D, T, X⟩ := s
  unfold stVal
  simp only at hr hn ⊢
  obtain ⟨w0, hw0, hs0, hb0, k0, k1, k2⟩ : ∃ w0, ((w.alloc (.cells #[.slice A n c, .int .i64 N, .int .i64 Q, .bool O, .int .i64 D, .int .i64 T, .int .i64 X] 25)).alloc (.cells z7 31)).alloc (.cells #[.slice none 0 0, .int .i64 N, .int .i64 Q, .bool O, .int .i64 D, .int .i64 T, .int .i64 X] 31) = w0 ∧ w0.heap.size = B + 3 ∧ Below B w w0
      ∧ w0.heap[B]? = some (.cells (stC A n c ⟨P, N, Q, O, D, T, X⟩) 25 (0, 0)) ∧ w0.heap[B + 1]? = some (.cells z7 31 (0, 0)) ∧ w0.heap[B + 2]? = some (.cells (stC none 0 0 ⟨P, N, Q, O, D, T, X⟩) 31 (0, 0)) := by
    have n1 := heap_alloc_new w (.cells #[.slice A n c, .int .i64 N, .int .i64 Q, .bool O, .int .i64 D, .int .i64 T, .int .i64 X] 25)
    have n2 := heap_alloc_new (w.alloc (.cells #[.slice A n c, .int .i64 N, .int .i64 Q, .bool O, .int .i64 D, .int .i64 T, .int .i64 X] 25)) (.cells z7 31)
    have n3 := heap_alloc_new ((w.alloc (.cells #[.slice A n c, .int .i64 N, .int .i64 Q, .bool O, .int .i64 D, .int .i64 T, .int .i64 X] 25)).alloc (.cells z7 31)) (.cells #[.slice none 0 0, .int .i64 N, .int .i64 Q, .bool O, .int .i64 D, .int .i64 T, .int .i64 X] 31)
    simp only [World.size_alloc, hB, Nat.add_assoc, Nat.reduceAdd] at n1 n2 n3
    refine ⟨_, rfl, by simp [hB], ?_, ?_, ?_, n3⟩
    · subst hB
      exact (((Below.refl _ _).alloc (Nat.le_refl _) _).alloc (by simp) _).alloc (by simp; omega) _
    · exact (Lib.alloc_old _ _ _ (by simp; omega)).trans ((Lib.alloc_old _ _ _ (by simp; omega)).trans n1)
    · exact (Lib.alloc_old _ _ _ (by simp; omega)).trans n2
  have HR := Lib.hid (hr.below (hB ▸ hb0))
  have HRW := Lib.hid hr
  have HN := Lib.hid hn
  have HB := Lib.hid hB
  have HW0 := Lib.hid hw0
  have HB0 := Lib.hid hb0
  have K0 := Lib.hid k0
  have K1 := Lib.hid k1
  have K2 := Lib.hid k2
  clear hr hn hb0 k0 k1 k2 hw0
  go_enter Tryd.func13, Tryd.ntmps13
  go_wp2_with fail
  try simp only [HW0.out]
  go_loopw [4] (fun ix wr => ∃ (i : Nat) (A5 : Option Addr) (c5 : Nat), ix = .int .i64 i ∧ i ≤ n ∧ Lie (fun k => k < B + 3) 43 3 (.slice A5 i c5) i ((P.take i).flatMap partCells) wr ∧ wr.heap[B]? = some (.cells (stC A n c ⟨P, N, Q, O, D, T, X⟩) 25 (0, 0)) ∧ wr.heap[B + 1]? = some (.cells z7 31 (0, 0)) ∧ wr.heap[B + 2]? = some (.cells (stC A5 i c5 ⟨P, N, Q, O, D, T, X⟩) 31 (0, 0)) ∧ Rd wr 3 A n (P.flatMap partCells) ∧ Below B w wr) (fun ix _ => n - (intOf ix).toNat)
  case atStart => exact ⟨0, none, 0, rfl, by omega, Lie.nil _ _ _ _, K0.out, K1.out, K2.out, HR.out, HB0.out⟩
  case round =>
    obtain ⟨i, A5, c5, rfl, hi, hlie, k0, k1, k2, hrd, hbel⟩ := hrel
    have hsz : B + 3 ≤ wr.heap.size := by
      have := (Array.getElem?_eq_some_iff.1 k2).1
      omega
    have hold : Old (fun k => k < B + 3) wr := fun k hk => by omega
    obtain ⟨a0, -, -, -, -, -, -, za⟩ := seven k0
    obtain ⟨t0, t1, t2, t3, t4, t5, t6, zt⟩ := seven k2
    have zt0 := zt 0
    have zt1 := zt 1
    have zt2 := zt 2
    have zt3 := zt 3
    have zt4 := zt 4
    have zt5 := zt 5
    have zt6 := zt 6
    clear zt
    by_cases hlt : i < n
    · have hlt' : i < P.length := by have := HN.out; omega
      have hk1 : (i : Int) < n := by omega
      obtain ⟨gb, off, rfl, hgb, s0, s1, s2⟩ := part_at hrd hlt'
      have hgB : gb < B := by
        obtain ⟨_, _, e, h, -⟩ := part_at HRW.out hlt'
        cases e
        exact hB ▸ h
      have htk : (P.take (i + 1)).flatMap partCells = (P.take i).flatMap partCells ++ partCells P[i] := by rw [show P.take (i + 1) = P.take i ++ [P[i]] by rw [List.take_append_getElem], List.flatMap_append]; simp
      obtain ⟨p, hp⟩ : ∃ p, P[i] = p := ⟨_, rfl⟩
      rw [hp] at s0 s1 s2 htk
      obtain ⟨pD, pL, pF⟩ := p
      simp only at s0 s1 s2
      have Htk := Lib.hid htk
      have Hl := Lib.hid hlie
      have Hb := Lib.hid hbel
      have Hgb := Lib.hid hgb
      have Hrd := Lib.hid hrd
      have K0 := Lib.hid k0
      have K1 := Lib.hid k1
      have K2 := Lib.hid k2
      clear hp htk hlie hbel hgb hlt' hrd k0 k1 k2 za
      obtain ⟨w1, hw1, b0, c0, d0, d1, d2, hrd1, hl1⟩ : ∃ w1, wr.drew.alloc (.cells #[.int .i64 pD, .int .i64 pL, .string (S pF)] 43) = w1 ∧ w1.cell? ⟨B + 2, 0, none⟩ = some (.slice A5 i c5) ∧ w1.cell? ⟨B, 0, none⟩ = some (.slice (some ⟨gb, off, none⟩) n c) ∧ w1.cell? ⟨gb, off + i * 3, none⟩ = some (.int .i64 pD) ∧ w1.cell? ⟨gb, off + i * 3 + 1, none⟩ = some (.int .i64 pL) ∧ w1.cell? ⟨gb, off + i * 3 + 2, none⟩ = some (.string (S pF)) ∧ Rd w1 3 (some ⟨wr.heap.size, 0, none⟩) 1 [.int .i64 pD, .int .i64 pL, .string (S pF)] ∧ Lie (fun k => k < B + 3) 43 3 (.slice A5 i c5) i ((P.take i).flatMap partCells) w1 :=
        ⟨_, rfl, Lib.cell?_alloc_some _ t0, Lib.cell?_alloc_some _ a0, Lib.cell?_alloc_some _ s0, Lib.cell?_alloc_some _ s1, Lib.cell?_alloc_some _ s2, rd_three wr.drew _ _ _ _, (Hl.out.below (Below.refl _ wr).drew).below (Below.one _ _)⟩
      have HRD1 := Lib.hid hrd1
      have HL1 := Lib.hid hl1
      clear hrd1 hl1
      have hob : B + 3 ≤ (wr.drew.alloc (.cells #[.int .i64 pD, .int .i64 pL, .string (S pF)] 43)).heap.size := by simp; omega
      have hbA := Below.one wr.drew (.cells #[.int .i64 pD, .int .i64 pL, .string (S pF)] 43)
      have hsA : B + 3 ≤ wr.drew.heap.size := hsz
      rw [hw1] at hob hbA
      go_wp2_with fail
      go_region_law (refine step_append_rd_row rfl (.tmp 26) (.tmp 32) 29 rfl 43 (.agg #[.int .i64 0, .int .i64 0, .string ⟨#[]⟩]) 3 32 Tryd.underlying29 rpartInf rfl (by decide) (fun k => k < B + 3) i _ (.slice A5 i c5) _ HL1.out rfl (fun k hk => Nat.lt_of_lt_of_le hk hob) _ 1 _ [.int .i64 pD, .int .i64 pL, .string (S pF)] rfl HRD1.out (by intro u hu; simp at hu; rcases hu with rfl | rfl | rfl <;> rfl) (by unfold maxLen; omega) (by omega) ?_; intro v8 w8 hown8 hst8 hgr8 hat8; obtain ⟨A8, c8, rfl⟩ := hown8.form; have Hl8 := Lib.hid hown8; have hk2 := (hst8.block (B + 2) (by omega)).trans ((hbA.block (B + 2) (by omega)).trans K2.out); have d3 := (Lib.cell_of_heap hk2 0).trans (show _ = some (Value.slice A5 i c5) from rfl); have f3 := Lib.frozen_of_heap hk2 0; have Hst8 := Lib.hid hst8; clear hgr8 hat8 hk2 hown8 hst8)
      all_goals
        go_wp2_with fail
        go_roundw
        case rel =>
          have hb8 : Below (B + 3) wr w8 := (((Below.refl wr.heap.size wr).drew.mono hsz).trans (hbA.mono (by omega))).trans (Hst8.out.below fun k hk => hk)
          have hq2 := (hb8.block (B + 2) (by omega)).trans K2.out
          refine ⟨i + 1, A8, c8, by go_num, by omega, by rw [Htk.out]; exact own_set Hl8.out (show B + 2 < B + 3 by omega) _ _, ?_, ?_, ?_, ?_, ?_⟩
          · exact (Below.heap_setCell _ _ _ _ (by simp only; omega)).trans ((hb8.block B (by omega)).trans K0.out)
          · exact (Below.heap_setCell _ _ _ _ (by simp only; omega)).trans ((hb8.block (B + 1) (by omega)).trans K1.out)
          · simp [World.setCell, Array.getElem?_modify, hq2]
          · exact (HRW.out.below (w' := w8.setCell ⟨B + 2, 0, none⟩ (.slice A8 (i + 1) c8)) (by rw [HB.out]; exact (Hb.out.trans (hb8.mono (by omega))).setCell (p := ⟨B + 2, 0, none⟩) (by simp only; omega) _))
          · exact (Hb.out.trans (hb8.mono (by omega))).setCell (p := ⟨B + 2, 0, none⟩) (by simp only; omega) _
        case measure => simp [intOf]; omega
    · obtain rfl : i = n := by omega
      have HE := Lib.hid (show PAt (B + 3) A5 i P wr by
        rw [List.take_of_length_le (by rw [HN.out]; exact Nat.le_refl _)] at hlie
        exact PAt.rof hlie)
      have Hb := Lib.hid hbel
      obtain ⟨r0, r1, r2, r3, r4, r5, r6, zr⟩ := seven k1
      have zr0 := zr 0
      have zr1 := zr 1
      have zr2 := zr 2
      have zr3 := zr 3
      have zr4 := zr 4
      have zr5 := zr 5
      have zr6 := zr 6
      clear zr
      clear hlie hbel k0 k1 k2 za
      go_wp2_with fail
      refine bodyPost_ret (v := stVal A5 i c5 ⟨P, N, Q, O, D, T, X⟩) (by rw [results_cell1 rfl]; go_simp; rfl) rfl ⟨A5, i, c5, rfl, ?_, ?_⟩
      · exact (((((((HE.out.set (b := B + 1) (j := 0) (by omega) _).set (b := B + 1) (j := 1) (by omega) _).set (b := B + 1) (j := 2) (by omega) _).set (b := B + 1) (j := 3) (by omega) _).set (b := B + 1) (j := 4) (by omega) _).set (b := B + 1) (j := 5) (by omega) _).set (b := B + 1) (j := 6) (by omega) _).mono (by omega)
      · exact (((((((Hb.out.setCell (p := ⟨B + 1, 0, none⟩) (by first | simp; done | (simp; omega)) _).setCell (p := ⟨B + 1, 1, none⟩) (by first | simp; done | (simp; omega)) _).setCell (p := ⟨B + 1, 2, none⟩) (by first | simp; done | (simp; omega)) _).setCell (p := ⟨B + 1, 3, none⟩) (by first | simp; done | (simp; omega)) _).setCell (p := ⟨B + 1, 4, none⟩) (by first | simp; done | (simp; omega)) _).setCell (p := ⟨B + 1, 5, none⟩) (by first | simp; done | (simp; omega)) _).setCell (p := ⟨B + 1, 6, none⟩) (by first | simp; done | (simp; omega)) _)
end Go.Proofs.YtbheoahpaidpmaaDoor

/-! ManSame -/
namespace Go.Proofs.YtbheoahpaidpmaaDoor
open Go Go.RowKit

def ptEq (d l : Int) (f : ByteArray) (d' l' : Int) (f' : ByteArray) : Bool := d == d' && l == l' && f.toList == f'.toList
theorem ptEq_self (d l : Int) (f : ByteArray) : ptEq d l f d l f = true := by simp [ptEq]
theorem rpart_stood : Tryd.prog.stoodInHeld 43 = false := by kernel_rfl
theorem rpart_fields : Tryd.prog.underlying 43 = some (.struct (Tryd.prog.fieldsOf 43)) := by kernel_rfl
theorem rpart_guard : Tryd.prog.eqGuardType Tryd.prog.depth 43 = false := by kernel_rfl
theorem run_rpart_equalIn (D : Nat) (d l : Int) (f : ByteArray) (d' l' : Int) (f' : ByteArray) (w : World) :
    (Op.equalIn (D + 2) 43 (.agg #[.int .i64 d, .int .i64 l, .string f]) (.agg #[.int .i64 d', .int .i64 l', .string f'])).run Tryd.prog w = .ok (ptEq d l f d' l' f') w := by
  rw [run_equalIn_struct w (D + 1) 43 _ _ rpart_fields rpart_stood]
  simp [Program.fieldsOf, Tryd.underlying43, Tryd.underlying3, Tryd.underlying9, go_sem, ptEq]
  by_cases h1 : f.toList = f'.toList <;> by_cases h2 : d = d' <;> by_cases h3 : l = l' <;> simp [h1, h2, h3]
theorem run_rpart_neq (d l : Int) (f : ByteArray) (d' l' : Int) (f' : ByteArray) (w : World) :
    (binOp .neq 43 (.agg #[.int .i64 d, .int .i64 l, .string f]) (.agg #[.int .i64 d', .int .i64 l', .string f'])).run Tryd.prog w = .ok (.bool (!ptEq d l f d' l' f')) w := by
  rw [run_neq_struct, run_rpart_equalIn 9998]; rfl
theorem run_rpart_eql (d l : Int) (f : ByteArray) (d' l' : Int) (f' : ByteArray) (w : World) :
    (binOp .eql 43 (.agg #[.int .i64 d, .int .i64 l, .string f]) (.agg #[.int .i64 d', .int .i64 l', .string f'])).run Tryd.prog w = .ok (.bool (ptEq d l f d' l' f')) w := by
  rw [run_eql_struct, run_rpart_equalIn 9998]; rfl
theorem part_stood : Tryd.prog.stoodInHeld 40 = false := by kernel_rfl
theorem part_fields : Tryd.prog.underlying 40 = some (.struct (Tryd.prog.fieldsOf 40)) := by kernel_rfl
theorem part_guard : Tryd.prog.eqGuardType Tryd.prog.depth 40 = false := by kernel_rfl
theorem run_part_equalIn (D : Nat) (d l : Int) (f : ByteArray) (d' l' : Int) (f' : ByteArray) (w : World) :
    (Op.equalIn (D + 2) 40 (.agg #[.int .i64 d, .int .i64 l, .string f]) (.agg #[.int .i64 d', .int .i64 l', .string f'])).run Tryd.prog w = .ok (ptEq d l f d' l' f') w := by
  rw [run_equalIn_struct w (D + 1) 40 _ _ part_fields part_stood]
  simp [Program.fieldsOf, Tryd.underlying40, Tryd.underlying3, Tryd.underlying9, go_sem, ptEq]
  by_cases h1 : f.toList = f'.toList <;> by_cases h2 : d = d' <;> by_cases h3 : l = l' <;> simp [h1, h2, h3]
theorem run_part_neq (d l : Int) (f : ByteArray) (d' l' : Int) (f' : ByteArray) (w : World) :
    (binOp .neq 40 (.agg #[.int .i64 d, .int .i64 l, .string f]) (.agg #[.int .i64 d', .int .i64 l', .string f'])).run Tryd.prog w = .ok (.bool (!ptEq d l f d' l' f')) w := by
  rw [run_neq_struct, run_part_equalIn 9998]; rfl

set_option linter.unusedSimpArgs false in
set_option maxRecDepth 100000 in
set_option maxHeartbeats 4000000 in
theorem same_any (A A' : Option Addr) (n c n' c' : Nat) (s : St) (w : World) (hr : Rd w 3 A n (s.Parts.flatMap partCells)) (hn : s.Parts.length = n) (hr' : Rd w 3 A' n' (s.Parts.flatMap partCells)) (hn' : s.Parts.length = n') (hl : n ≤ 100000) :
    Calls Tryd.prog 12 #[stVal A n c s, stVal A' n' c' s] w fun e w' => e = .returned (.bool true) ∧ Below w.heap.size w w' := by
  obtain ⟨B, hB⟩ : ∃ B, w.heap.size = B := ⟨_, rfl⟩
  obtain rfl : n = n' := by omega
  obtain ⟨P, N, Q, O, D, T, X⟩ := s
  unfold stVal
  simp only at hr hn hr' hn' ⊢
  obtain ⟨w0, hw0, hs0, hb0, k0, k1⟩ := two_states w B hB #[.slice A n c, .int .i64 N, .int .i64 Q, .bool O, .int .i64 D, .int .i64 T, .int .i64 X] #[.slice A' n c', .int .i64 N, .int .i64 Q, .bool O, .int .i64 D, .int .i64 T, .int .i64 X] 31 31
  have HR := Lib.hid (hr.below (hB ▸ hb0))
  have HR' := Lib.hid (hr'.below (hB ▸ hb0))
  have HN := Lib.hid hn
  have HB := Lib.hid hB
  have HB0 := Lib.hid hb0
  have hO : ((O == true) != (O == true)) = false := by cases O <;> rfl
  obtain ⟨a0, a1, a2, a3, a4, a5, a6, za⟩ := seven k0
  have za0 := za 0
  have za1 := za 1
  have za2 := za 2
  have za3 := za 3
  have za4 := za 4
  have za5 := za 5
  have za6 := za 6
  clear za
  obtain ⟨r0, r1, r2, r3, r4, r5, r6, zr⟩ := seven k1
  have zr0 := zr 0
  have zr1 := zr 1
  have zr2 := zr 2
  have zr3 := zr 3
  have zr4 := zr 4
  have zr5 := zr 5
  have zr6 := zr 6
  clear zr
  have K0 := Lib.hid k0
  have K1 := Lib.hid k1
  clear hr hn hr' hn' hb0 k0 k1
  go_enter Tryd.func12, Tryd.ntmps12
  go_wp2_with fail
  try simp only [hw0]
  clear hw0
  clear a0 a1 a2 a3 a4 a5 a6 za0 za1 za2 za3 za4 za5 za6
  clear r0 r1 r2 r3 r4 r5 r6 zr0 zr1 zr2 zr3 zr4 zr5 zr6
  go_loopw [5] (fun ix wr => ∃ (i : Nat), ix = .int .i64 i ∧ i ≤ n ∧ Below (B + 2) w0 wr) (fun ix _ => n - (intOf ix).toNat)
  case atStart => exact ⟨0, rfl, by omega, Below.refl _ _⟩
  case round =>
    obtain ⟨i, rfl, hi, hbel⟩ := hrel
    have k0 := (hbel.block B (by omega)).trans K0.out
    have k1 := (hbel.block (B + 1) (by omega)).trans K1.out
    obtain ⟨a0, -, -, -, -, -, -, -⟩ := seven k0
    obtain ⟨r0, -, -, -, -, -, -, -⟩ := seven k1
    by_cases hlt : i < n
    · have hlt' : i < P.length := by have := HN.out; omega
      have hk1 : (i : Int) < n := by omega
      obtain ⟨gb, off, rfl, hgb, s0, s1, s2⟩ := part_at (HR.out.below (hs0 ▸ hbel)) hlt'
      obtain ⟨gb', off', rfl, hgb', t0, t1, t2⟩ := part_at (HR'.out.below (hs0 ▸ hbel)) hlt'
      obtain ⟨p, hp⟩ : ∃ p, P[i] = p := ⟨_, rfl⟩
      rw [hp] at s0 s1 s2 t0 t1 t2
      obtain ⟨pD, pL, pF⟩ := p
      simp only at s0 s1 s2 t0 t1 t2
      have hg := rpart_guard
      have hne := fun w => run_rpart_neq pD pL (S pF) pD pL (S pF) w
      rw [ptEq_self] at hne
      have Hb := Lib.hid hbel
      clear hp hbel hlt' k0 k1 hgb hgb'
      go_wp2_with fail
      go_quiet (fail)
      go_wp2_with fail
      go_roundw
      case rel => exact ⟨i + 1, by go_num, by omega, below_drewN Hb.out _⟩
      case measure => simp [intOf]; omega
    · obtain rfl : i = n := by omega
      have Hb := Lib.hid (HB0.out.trans (hbel.mono (by omega)))
      clear hbel k0 k1
      go_wp2_with fail
      go_ret
      exact ⟨rfl, by rw [HB.out]; exact Hb.out⟩
end Go.Proofs.YtbheoahpaidpmaaDoor
