/-
  What the laws of runs stand on: Equal, ranges that are compared and read, the functions' answers as lists and errors.
-/
import Derived.Test.YthmikefinibecaaRRunBet
import Derived.Test.YthmikefinibecaaRowEq
namespace Go.Proofs.Ythmikefinibecaa
open Go Go.RowKit Go.Deep Go.ChangeShapes Go.WideShapes

set_option maxRecDepth 100000 in
set_option maxHeartbeats 1000000 in
theorem equal_any (A B : Option Addr) (ca cb : Nat) (xs ys : List Row) (w : World) (ha : Rd w 3 A xs.length (xs.flatMap rowCells)) (hb : Rd w 3 B ys.length (ys.flatMap rowCells)) (hl : xs.length ≤ 1099511627776) :
    Calls Try.prog 14 #[.slice A xs.length ca, .slice B ys.length cb] w fun e w' => e = .returned (.bool (rowsEq xs ys)) ∧ Below w.heap.size w w' := by
  by_cases hlen : xs.length = ys.length
  · have Hlen := Lib.hid hlen
    have ht : ((xs.length : Int) != (ys.length : Int)) = false := by simp [hlen]
    clear hlen
    go_enter Try.func14, Try.ntmps14
    go_wp2
    go_loopw [5] (fun i wr => ∃ j : Nat, i = .int .i64 j ∧ j ≤ xs.length ∧ xs.take j = ys.take j ∧ Below w.heap.size w wr) (fun i _ => xs.length - (intOf i).toNat)
    case atStart => exact ⟨0, rfl, by omega, by simp, Below.refl _ _⟩
    case round =>
      obtain ⟨j, rfl, hj, heq, hbel⟩ := hrel
      have Heq := Lib.hid heq
      clear heq
      by_cases hlt : j < xs.length
      · have hlt' : j < ys.length := by have := Hlen.out; omega
        obtain ⟨b, off, rfl, hba, e0, e1, e2⟩ := row_at (ha.below hbel) hlt
        obtain ⟨b', off', rfl, hba', f0, f1, f2⟩ := row_at (hb.below hbel) hlt'
        have hg := row_guard
        have hne := fun w => run_row_neq xs[j].T xs[j].ID xs[j].V ys[j].T ys[j].ID ys[j].V w
        rcases Bool.eq_false_or_eq_true (rowEq xs[j] ys[j]) with hE | hE
        · have hE' : rowEq ⟨xs[j].T, xs[j].ID, xs[j].V⟩ ⟨ys[j].T, ys[j].ID, ys[j].V⟩ = true := hE
          have HE := Lib.hid hE
          rw [hE'] at hne
          clear hE hE'
          go_wp2
          go_quiet (fail)
          go_wp2
          go_roundw
          case rel => exact ⟨j + 1, by go_num, by omega, by rw [← List.take_append_getElem hlt, ← List.take_append_getElem hlt', Heq.out, (rowEq_iff _ _).1 HE.out], below_drewN hbel _⟩
          case measure => simp [intOf]; omega
        · have hE' : rowEq ⟨xs[j].T, xs[j].ID, xs[j].V⟩ ⟨ys[j].T, ys[j].ID, ys[j].V⟩ = false := hE
          have HE := Lib.hid hE
          rw [hE'] at hne
          clear hE hE'
          go_wp2
          go_quiet (fail)
          go_wp2
          go_ret
          refine ⟨ret_bool (rowsEq_ne fun e => ?_).symm, below_drewN hbel _⟩
          have : xs[j] = ys[j] := by simp [e]
          rw [this] at HE
          have := HE.out
          rw [(rowEq_iff _ _).2 rfl] at this
          cases this
      · go_wp2
        go_ret
        refine ⟨ret_bool ?_, hbel⟩
        have h1 := Heq.out
        rw [List.take_of_length_le (by omega), List.take_of_length_le (by have := Hlen.out; omega)] at h1
        rw [h1, rowsEq_self]
  · have Hlen := Lib.hid hlen
    have ht : ((xs.length : Int) != (ys.length : Int)) = true := by simp; omega
    clear hlen
    go_enter Try.func14, Try.ntmps14
    go_wp2
    go_ret
    exact ⟨ret_bool (rowsEq_ne fun e => Hlen.out (by rw [e])).symm, Below.refl _ _⟩

theorem rng_guard : Try.prog.eqGuardType Try.prog.depth 23 = false := by kernel_rfl
theorem rng_stood : Try.prog.stoodInHeld 23 = false := by kernel_rfl
theorem rng_fields : Try.prog.underlying 23 = some (.struct (Try.prog.fieldsOf 23)) := by kernel_rfl
theorem run_rng_equalIn (d : Nat) (a b a' b' : Int) (w : World) :
    (Op.equalIn (d + 2) 23 (.agg #[.int .i64 a, .int .i64 b]) (.agg #[.int .i64 a', .int .i64 b'])).run Try.prog w = .ok (a == a' && b == b') w := by
  rw [run_equalIn_struct w (d + 1) 23 _ _ rng_fields rng_stood]
  simp [Program.fieldsOf, Try.underlying23, Try.underlying3, go_sem]
  by_cases h1 : a = a' <;> by_cases h2 : b = b' <;> simp [h1, h2]
theorem run_rng_neq (a b a' b' : Int) (w : World) :
    (binOp .neq 23 (.agg #[.int .i64 a, .int .i64 b]) (.agg #[.int .i64 a', .int .i64 b'])).run Try.prog w = .ok (.bool (!(a == a' && b == b'))) w := by
  rw [run_neq_struct, run_rng_equalIn 9998]; rfl

section
variable {H : Type} {enc : TypeId × Value → H} {w : World}
theorem read_range {v : Value} {d : DataW H} {p : List MemPlace} {r : Reach} {b0 : Nat} (hv : Value.okWide Try.prog w r b0 23 v) (h : DataW.Trod enc Try.prog w 0 (fun _ => true) true 23 v d p) :
    ∃ x y : Int, v = .agg #[.int .i64 x, .int .i64 y] ∧ I64 x ∧ I64 y := by
  obtain ⟨cs, rfl, hsz⟩ := okWide_struct Try.underlying23 hv
  obtain ⟨fuel, hf⟩ := h
  have hl : cs.toList.length = 2 := by
    have h3 : Try.prog.cellsOf 23 = 2 := by kernel_rfl
    simp [hsz, h3]
  obtain ⟨_, m, hf⟩ := trod_fields Try.underlying23 (by kernel_rfl) (by simpa [Value.cells] using hf)
  obtain ⟨v0, y0, e0, h0⟩ := hf 0 _ rfl (by omega)
  obtain ⟨v1, y1, e1, h1⟩ := hf 1 _ rfl (by omega)
  obtain ⟨a, ha, _, wa⟩ := DataW.trod_int Try.underlying3 h0
  obtain ⟨b, hb, _, wb⟩ := DataW.trod_int Try.underlying3 h1
  simp at ha hb
  subst ha hb
  refine ⟨a, b, ?_, bounds_i64 wa, bounds_i64 wb⟩
  obtain ⟨cs⟩ := cs
  match cs, hl with
  | [p, q], _ =>
    simp at e0 e1
    subst e0 e1
    rfl
end

/-- the blocks of bytes, or none; whether there was an error -/
def blkL (l : List UInt8) : List Fen := (fencesR l).getD []
def blkE (l : List UInt8) : Int := if (fencesR l).isSome = true then 0 else 11
def betL (l : List UInt8) (x y : Int) : List Row := (betS l x y).getD []
def betE (l : List UInt8) (x y : Int) : Int := if (betS l x y).isSome = true then 0 else 11
def BlkU (s : ByteArray) (w : World) (e : Ending) (w' : World) : Prop :=
  ∃ (A : Option Addr) (c : Nat), e = .returned (.tuple #[.slice A (blkL s.data.toList).length c, .int .i64 (blkE s.data.toList)]) ∧ Rd w' 2 A (blkL s.data.toList).length ((blkL s.data.toList).flatMap rngC) ∧ (blkL s.data.toList).length ≤ 400 ∧ Below w.heap.size w w'
def BetU (s : ByteArray) (x y : Int) (w : World) (e : Ending) (w' : World) : Prop :=
  ∃ (A : Option Addr) (c : Nat), e = .returned (.tuple #[.slice A (betL s.data.toList x y).length c, .int .i64 (betE s.data.toList x y)]) ∧ Rd w' 3 A (betL s.data.toList x y).length ((betL s.data.toList x y).flatMap rowCells) ∧ (betL s.data.toList x y).length ≤ 6400 ∧ Below w.heap.size w w'
theorem blk_u {s : ByteArray} {w w' : World} {e : Ending} (h : BlkPost s w.heap.size w e w') : BlkU s w e w' := by
  unfold BlkU blkL blkE
  rcases h with ⟨h1, rfl, hb⟩ | ⟨fs, v, h1, rfl, hl, hn, hb⟩
  · rw [h1]
    exact ⟨none, 0, rfl, Rd.nil _ _ _, by simp, hb⟩
  · rw [h1]
    obtain ⟨A, c, rfl⟩ := hl.form
    exact ⟨A, c, rfl, hl.rd, hn, hb⟩
theorem bet_u {s : ByteArray} {x y : Int} {w w' : World} {e : Ending} (h : BetPost s x y w.heap.size w e w') : BetU s x y w e w' := by
  unfold BetU betL betE
  rcases h with ⟨h1, rfl, hb⟩ | ⟨fs, v, h1, rfl, hl, hn, hb⟩
  · rw [h1]
    exact ⟨none, 0, rfl, Rd.nil _ _ _, by simp, hb⟩
  · rw [h1]
    obtain ⟨A, c, rfl⟩ := hl.form
    exact ⟨A, c, rfl, hl.rd, hn, hb⟩
theorem blocks_u (s : ByteArray) (w : World) (hs : s.size ≤ 1000000) : Calls Try.prog 10 #[.string s] w (BlkU s w) := (blocks_at s _ w rfl hs).mono fun _ _ h => blk_u h
theorem rblocks_u (s : ByteArray) (w : World) (hs : s.size ≤ 1000000) : Calls Try.prog 11 #[.string s] w (BlkU s w) := (rblocks_at s _ w rfl hs).mono fun _ _ h => blk_u h
theorem between_u (s : ByteArray) (x y : Int) (w : World) (hs : s.size ≤ 1000000) : Calls Try.prog 12 #[.string s, .agg #[.int .i64 x, .int .i64 y]] w (BetU s x y w) := (between_at s x y _ w rfl hs).mono fun _ _ h => bet_u h
theorem rbetween_u (s : ByteArray) (x y : Int) (w : World) (hs : s.size ≤ 1000000) : Calls Try.prog 13 #[.string s, .agg #[.int .i64 x, .int .i64 y]] w (BetU s x y w) := (rbetween_at s x y _ w rfl hs).mono fun _ _ h => bet_u h
theorem fences_nil : fencesR [] = none := by decide
theorem blkE_nil : blkE [] = 11 := by unfold blkE; rw [fences_nil]; rfl
theorem blkL_nil : blkL [] = [] := by unfold blkL; rw [fences_nil]; rfl
end Go.Proofs.Ythmikefinibecaa
