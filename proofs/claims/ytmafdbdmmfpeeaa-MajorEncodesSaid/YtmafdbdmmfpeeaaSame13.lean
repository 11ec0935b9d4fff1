/-
  '==' on samples; are two rows of samples the same?
-/
import Derived.Test.YtmafdbdmmfpeeaaPackB
import Derived.Laws.StructEq
namespace Go.Proofs.Ytmafdbdmmfpeeaa
open Go Go.RowKit

def sampEq (a b : Sample) : Bool := a.T == b.T && a.V == b.V
theorem sampEq_iff (a b : Sample) : sampEq a b = true ↔ a = b := by
  cases a; cases b; simp [sampEq]
theorem samp_guard : Try.prog.eqGuardType Try.prog.depth 60 = false := by kernel_rfl
theorem samp_stood : Try.prog.stoodInHeld 60 = false := by kernel_rfl
theorem samp_fields : Try.prog.underlying 60 = some (.struct (Try.prog.fieldsOf 60)) := by kernel_rfl
theorem run_samp_equalIn (d : Nat) (a b a' b' : Int) (w : World) :
    (Op.equalIn (d + 2) 60 (.agg #[.int .i64 a, .int .i64 b]) (.agg #[.int .i64 a', .int .i64 b'])).run Try.prog w = .ok (sampEq ⟨a, b⟩ ⟨a', b'⟩) w := by
  rw [run_equalIn_struct w (d + 1) 60 _ _ samp_fields samp_stood]
  simp [Program.fieldsOf, Try.underlying60, Try.underlying3, go_sem, sampEq]
  by_cases h1 : a = a' <;> by_cases h2 : b = b' <;> simp [h1, h2]
theorem run_samp_neq (a b a' b' : Int) (w : World) :
    (binOp .neq 60 (.agg #[.int .i64 a, .int .i64 b]) (.agg #[.int .i64 a', .int .i64 b'])).run Try.prog w = .ok (.bool (!sampEq ⟨a, b⟩ ⟨a', b'⟩)) w := by
  rw [run_neq_struct, run_samp_equalIn 9998]; rfl

/-- are two rows of samples the same? -/
def samesB (xs ys : List Sample) : Bool := xs.length == ys.length && (List.range xs.length).all fun i => sampEq (sAt xs i) (sAt ys i)
theorem samesB_iff (xs ys : List Sample) : samesB xs ys = true ↔ xs = ys := by
  unfold samesB
  rw [Bool.and_eq_true, beq_iff_eq, List.all_eq_true]
  constructor
  · rintro ⟨h1, h2⟩
    refine List.ext_getElem h1 fun i hi hj => ?_
    have := (sampEq_iff _ _).1 (h2 i (List.mem_range.2 hi))
    rwa [sAt_get hi, sAt_get hj] at this
  · rintro rfl
    exact ⟨rfl, fun i _ => (sampEq_iff _ _).2 rfl⟩
theorem samesB_self (xs : List Sample) : samesB xs xs = true := (samesB_iff _ _).2 rfl
theorem samesB_ne {xs ys : List Sample} (h : xs ≠ ys) : samesB xs ys = false := by
  cases e : samesB xs ys
  · rfl
  · exact absurd ((samesB_iff _ _).1 e) h
theorem samp_snoc {l : List Sample} {i : Nat} (hi : i < l.length) : l.take (i + 1) = l.take i ++ [l[i]] := List.take_succ_eq_append_getElem hi

set_option maxRecDepth 100000 in
set_option maxHeartbeats 1000000 in
theorem same13_any (A B : Option Addr) (ca cb : Nat) (xs ys : List Sample) (w : World) (ha : Rd w 2 A xs.length (xs.flatMap sampleCells)) (hb : Rd w 2 B ys.length (ys.flatMap sampleCells)) (hl : xs.length ≤ 1000000) :
    Calls Try.prog 12 #[.slice A xs.length ca, .slice B ys.length cb] w fun e w' => e = .returned (.bool (samesB xs ys)) ∧ Below w.heap.size w w' := by
  by_cases hlen : xs.length = ys.length
  · have Hlen := Lib.hid hlen
    have ht : ((xs.length : Int) != (ys.length : Int)) = false := by simp [hlen]
    clear hlen
    go_enter Try.func12, Try.ntmps12
    go_wp2_with fail
    go_loopw [5] (fun i wr => ∃ j : Nat, i = .int .i64 j ∧ j ≤ xs.length ∧ xs.take j = ys.take j ∧ Below w.heap.size w wr) (fun i _ => xs.length - (intOf i).toNat)
    case atStart => exact ⟨0, rfl, by omega, by simp, Below.refl _ _⟩
    case round =>
      obtain ⟨j, rfl, hj, heq, hbel⟩ := hrel
      have Heq := Lib.hid heq
      clear heq
      by_cases hlt : j < xs.length
      · have hlt' : j < ys.length := by have := Hlen.out; omega
        obtain ⟨b, off, rfl, hba, e0, e1⟩ := sample_at (ha.below hbel) hlt
        obtain ⟨b', off', rfl, hba', f0, f1⟩ := sample_at (hb.below hbel) hlt'
        have hg := samp_guard
        have hne := fun w => run_samp_neq xs[j].T xs[j].V ys[j].T ys[j].V w
        rcases Bool.eq_false_or_eq_true (sampEq xs[j] ys[j]) with hE | hE
        · have hE' : sampEq ⟨xs[j].T, xs[j].V⟩ ⟨ys[j].T, ys[j].V⟩ = true := hE
          have HE := Lib.hid hE
          rw [hE'] at hne
          clear hE hE'
          go_wp2_with fail
          go_quiet (fail)
          go_wp2_with fail
          go_roundw
          case rel => exact ⟨j + 1, by go_num, by omega, by rw [samp_snoc hlt, samp_snoc hlt', Heq.out, (sampEq_iff _ _).1 HE.out], below_drewN hbel _⟩
          case measure => simp [intOf]; omega
        · have hE' : sampEq ⟨xs[j].T, xs[j].V⟩ ⟨ys[j].T, ys[j].V⟩ = false := hE
          have HE := Lib.hid hE
          rw [hE'] at hne
          clear hE hE'
          go_wp2_with fail
          go_quiet (fail)
          go_wp2_with fail
          go_ret
          refine ⟨ret_bool (samesB_ne fun e => ?_).symm, below_drewN hbel _⟩
          have : xs[j] = ys[j] := by simp [e]
          rw [this] at HE
          have := HE.out
          rw [(sampEq_iff _ _).2 rfl] at this
          cases this
      · go_wp2_with fail
        go_ret
        refine ⟨ret_bool ?_, hbel⟩
        have h1 := Heq.out
        rw [List.take_of_length_le (by omega), List.take_of_length_le (by have := Hlen.out; omega)] at h1
        rw [h1, samesB_self]
  · have Hlen := Lib.hid hlen
    have ht : ((xs.length : Int) != (ys.length : Int)) = true := by simp; omega
    clear hlen
    go_enter Try.func12, Try.ntmps12
    go_wp2_with fail
    go_ret
    exact ⟨ret_bool (samesB_ne fun e => Hlen.out (by rw [e])).symm, Below.refl _ _⟩
end Go.Proofs.Ytmafdbdmmfpeeaa
