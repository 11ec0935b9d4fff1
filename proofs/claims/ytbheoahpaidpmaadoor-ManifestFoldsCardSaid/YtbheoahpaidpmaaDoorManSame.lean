/-
  '==' and '!=' on parts; the document's Same of two equal states.
-/
import Derived.Test.YtbheoahpaidpmaaDoorManTheirs
import Derived.Laws.StructEq
import Derived.BigQuiet
namespace Go.Proofs.YtbheoahpaidpmaaDoor
open Go Go.RowKit

def ptEq (d l : Int) (f : ByteArray) (d' l' : Int) (f' : ByteArray) : Bool := d == d' && l == l' && f.toList == f'.toList
theorem ptEq_self (d l : Int) (f : ByteArray) : ptEq d l f d l f = true := by simp [ptEq]
theorem rpart_stood : Tryd.prog.stoodInHeld 43 = false := by kernel_rfl
theorem rpart_fields : Tryd.prog.underlying 43 = some (.struct (Tryd.prog.fieldsOf 43)) := by kernel_rfl
theorem rpart_guard : Tryd.prog.eqGuardType Tryd.prog.depth 43 = false := by kernel_rfl
theorem run_rpart_equalIn (D : Nat) (d l : Int) (f : ByteArray) (d' l' : Int) (f' : ByteArray) (w : World) :
    (Op.equalIn (D + 2) 43 (.agg #[.int .i64 d, .int .i64 l, .string f]) (.agg #[.int .i64 d', .int .i64 l', .string f'])).run Tryd.prog w = .ok (ptEq d l f d' l' f') w := by
  rw [run_equalIn_struct w (D + 1) 43 _ _ rpart_fields rpart_stood]
  simp [Program.fieldsOf, Tryd.underlying43, Tryd.underlying3, Tryd.underlying9, go_sem, ptEq]
  by_cases h1 : f.toList = f'.toList <;> by_cases h2 : d = d' <;> by_cases h3 : l = l' <;> simp [h1, h2, h3]
theorem run_rpart_neq (d l : Int) (f : ByteArray) (d' l' : Int) (f' : ByteArray) (w : World) :
    (binOp .neq 43 (.agg #[.int .i64 d, .int .i64 l, .string f]) (.agg #[.int .i64 d', .int .i64 l', .string f'])).run Tryd.prog w = .ok (.bool (!ptEq d l f d' l' f')) w := by
  rw [run_neq_struct, run_rpart_equalIn 9998]; rfl
theorem run_rpart_eql (d l : Int) (f : ByteArray) (d' l' : Int) (f' : ByteArray) (w : World) :
    (binOp .eql 43 (.agg #[.int .i64 d, .int .i64 l, .string f]) (.agg #[.int .i64 d', .int .i64 l', .string f'])).run Tryd.prog w = .ok (.bool (ptEq d l f d' l' f')) w := by
  rw [run_eql_struct, run_rpart_equalIn 9998]; rfl
theorem part_stood : Tryd.prog.stoodInHeld 40 = false := by kernel_rfl
theorem part_fields : Tryd.prog.underlying 40 = some (.struct (Tryd.prog.fieldsOf 40)) := by kernel_rfl
theorem part_guard : Tryd.prog.eqGuardType Tryd.prog.depth 40 = false := by kernel_rfl
theorem run_part_equalIn (D : Nat) (d l : Int) (f : ByteArray) (d' l' : Int) (f' : ByteArray) (w : World) :
    (Op.equalIn (D + 2) 40 (.agg #[.int .i64 d, .int .i64 l, .string f]) (.agg #[.int .i64 d', .int .i64 l', .string f'])).run Tryd.prog w = .ok (ptEq d l f d' l' f') w := by
  rw [run_equalIn_struct w (D + 1) 40 _ _ part_fields part_stood]
  simp [Program.fieldsOf, Tryd.underlying40, Tryd.underlying3, Tryd.underlying9, go_sem, ptEq]
  by_cases h1 : f.toList = f'.toList <;> by_cases h2 : d = d' <;> by_cases h3 : l = l' <;> simp [h1, h2, h3]
theorem run_part_neq (d l : Int) (f : ByteArray) (d' l' : Int) (f' : ByteArray) (w : World) :
    (binOp .neq 40 (.agg #[.int .i64 d, .int .i64 l, .string f]) (.agg #[.int .i64 d', .int .i64 l', .string f'])).run Tryd.prog w = .ok (.bool (!ptEq d l f d' l' f')) w := by
  rw [run_neq_struct, run_part_equalIn 9998]; rfl

set_option linter.unusedSimpArgs false in
set_option maxRecDepth 100000 in
set_option maxHeartbeats 4000000 in
theorem same_any (A A' : Option Addr) (n c n' c' : Nat) (s : St) (w : World) (hr : Rd w 3 A n (s.Parts.flatMap partCells)) (hn : s.Parts.length = n) (hr' : Rd w 3 A' n' (s.Parts.flatMap partCells)) (hn' : s.Parts.length = n') (hl : n ≤ 100000) :
    Calls Tryd.prog 12 #[stVal A n c s, stVal A' n' c' s] w fun e w' => e = .returned (.bool true) ∧ Below w.heap.size w w' := by
  obtain ⟨B, hB⟩ : ∃ B, w.heap.size = B := ⟨_, rfl⟩
  obtain rfl : n = n' := by omega
  obtain ⟨P, N, Q, O, D, T, X⟩ := s
  unfold stVal
  simp only at hr hn hr' hn' ⊢
  obtain ⟨w0, hw0, hs0, hb0, k0, k1⟩ := two_states w B hB #[.slice A n c, .int .i64 N, .int .i64 Q, .bool O, .int .i64 D, .int .i64 T, .int .i64 X] #[.slice A' n c', .int .i64 N, .int .i64 Q, .bool O, .int .i64 D, .int .i64 T, .int .i64 X] 31 31
  have HR := Lib.hid (hr.below (hB ▸ hb0))
  have HR' := Lib.hid (hr'.below (hB ▸ hb0))
  have HN := Lib.hid hn
  have HB := Lib.hid hB
  have HB0 := Lib.hid hb0
  have hO : ((O == true) != (O == true)) = false := by cases O <;> rfl
  obtain ⟨a0, a1, a2, a3, a4, a5, a6, za⟩ := seven k0
  have za0 := za 0
  have za1 := za 1
  have za2 := za 2
  have za3 := za 3
  have za4 := za 4
  have za5 := za 5
  have za6 := za 6
  clear za
  obtain ⟨r0, r1, r2, r3, r4, r5, r6, zr⟩ := seven k1
  have zr0 := zr 0
  have zr1 := zr 1
  have zr2 := zr 2
  have zr3 := zr 3
  have zr4 := zr 4
  have zr5 := zr 5
  have zr6 := zr 6
  clear zr
  have K0 := Lib.hid k0
  have K1 := Lib.hid k1
  clear hr hn hr' hn' hb0 k0 k1
  go_enter Tryd.func12, Tryd.ntmps12
  go_wp2_with fail
  try simp only [hw0]
  clear hw0
  clear a0 a1 a2 a3 a4 a5 a6 za0 za1 za2 za3 za4 za5 za6
  clear r0 r1 r2 r3 r4 r5 r6 zr0 zr1 zr2 zr3 zr4 zr5 zr6
  go_loopw [5] (fun ix wr => ∃ (i : Nat), ix = .int .i64 i ∧ i ≤ n ∧ Below (B + 2) w0 wr) (fun ix _ => n - (intOf ix).toNat)
  case atStart => exact ⟨0, rfl, by omega, Below.refl _ _⟩
  case round =>
    obtain ⟨i, rfl, hi, hbel⟩ := hrel
    have k0 := (hbel.block B (by omega)).trans K0.out
    have k1 := (hbel.block (B + 1) (by omega)).trans K1.out
    obtain ⟨a0, -, -, -, -, -, -, -⟩ := seven k0
    obtain ⟨r0, -, -, -, -, -, -, -⟩ := seven k1
    by_cases hlt : i < n
    · have hlt' : i < P.length := by have := HN.out; omega
      have hk1 : (i : Int) < n := by omega
      obtain ⟨gb, off, rfl, hgb, s0, s1, s2⟩ := part_at (HR.out.below (hs0 ▸ hbel)) hlt'
      obtain ⟨gb', off', rfl, hgb', t0, t1, t2⟩ := part_at (HR'.out.below (hs0 ▸ hbel)) hlt'
      obtain ⟨p, hp⟩ : ∃ p, P[i] = p := ⟨_, rfl⟩
      rw [hp] at s0 s1 s2 t0 t1 t2
      obtain ⟨pD, pL, pF⟩ := p
      simp only at s0 s1 s2 t0 t1 t2
      have hg := rpart_guard
      have hne := fun w => run_rpart_neq pD pL (S pF) pD pL (S pF) w
      rw [ptEq_self] at hne
      have Hb := Lib.hid hbel
      clear hp hbel hlt' k0 k1 hgb hgb'
      go_wp2_with fail
      go_quiet (fail)
      go_wp2_with fail
      go_roundw
      case rel => exact ⟨i + 1, by go_num, by omega, below_drewN Hb.out _⟩
      case measure => simp [intOf]; omega
    · obtain rfl : i = n := by omega
      have Hb := Lib.hid (HB0.out.trans (hbel.mono (by omega)))
      clear hbel k0 k1
      go_wp2_with fail
      go_ret
      exact ⟨rfl, by rw [HB.out]; exact Hb.out⟩
end Go.Proofs.YtbheoahpaidpmaaDoor
