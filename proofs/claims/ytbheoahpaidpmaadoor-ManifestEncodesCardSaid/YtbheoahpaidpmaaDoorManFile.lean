/-
  manifest: the table that strconv reads; File, off, within.
-/
import Derived.Test.YtbheoahpaidpmaaDoorManItoa
import Derived.Lib.ItoaLen
import Derived.Test.YtbheoahpaidpmaaDoorManLib
namespace Go.Proofs.YtbheoahpaidpmaaDoor
open Go Go.RowKit

/-- strconv's table of powers lies there -/
def Pow (w : World) : Prop := Lib.TabIs Tryd.prog w "internal/strconv.uint64pow10" .u64 Lib.pow10Tab ∧ 0 < w.heap.size
theorem powG : Tryd.prog.globalNamed "internal/strconv.uint64pow10" = some 0 := by kernel_rfl
theorem Pow.later {w w' : World} (h : Pow w) (hs : w.heap.size ≤ w'.heap.size) (hb : w'.heap[0]? = w.heap[0]?) : Pow w' := by
  refine ⟨?_, Nat.lt_of_lt_of_le h.2 hs⟩
  have h1 := h.1
  unfold Lib.TabIs World.var? at h1 ⊢
  rw [powG] at h1 ⊢
  simp only [Option.bind_some] at h1 ⊢
  rw [hb]
  exact h1
theorem Pow.below {w w' : World} (h : Pow w) (hb : Below w.heap.size w w') : Pow w' := h.later hb.size (hb.block _ h.2)

theorem itoa_any (n : Nat) (hn : n ≤ 9223372036854775807) (w : World) (hp : Pow w) : Calls Tryd.prog 40 #[.int .i64 n] w fun e w' => e = .returned (.string (S (Lib.decDigits n))) ∧ Below w.heap.size w w' := by
  refine (Tryd.strconv_Itoa n (by omega) (by omega) w hp.1).mono ?_
  rintro e w' ⟨rfl, k, os, rfl⟩
  refine ⟨?_, Lib.below_grow _ w (Nat.le_refl _) k os⟩
  unfold Lib.itoa
  rw [if_neg (by omega), Int.toNat_natCast]
  rfl

theorem digits_len (n : Nat) (h : n ≤ 9223372036854775807) : (Lib.decDigits n).length ≤ 20 := by
  rw [Lib.decDigits_length]
  exact Lib.nDigits_le20 n (by omega)

set_option linter.unusedSimpArgs false in
set_option maxRecDepth 100000 in
theorem file_any (n : Int) (h1 : n ≤ 9223372036854775807) (w : World) (hp : Pow w) : Calls Tryd.prog 19 #[.int .i64 n] w fun e w' => e = .returned (.string (S (fileB n))) ∧ Below w.heap.size w w' := by
  obtain ⟨m, hm⟩ : ∃ m : Nat, n.toNat = m := ⟨_, rfl⟩
  have e1 : max n 0 = (m : Int) := by omega
  have e2 : (if n < 0 then 0 else n) = (m : Int) := by split <;> omega
  have e3 : (if 0 < n then n else 0) = (m : Int) := by split <;> omega
  have e4 : (if n ≤ 0 then 0 else n) = (m : Int) := by split <;> omega
  have HC := Lib.hid (itoa_any m (by omega) w hp)
  have hd := digits_len m (by omega)
  have HF := Lib.hid (show fileB n = 102 :: Lib.decDigits m by unfold fileB; rw [hm])
  generalize Lib.decDigits m = l at *
  have hl : (S l).size ≤ 20 := by rw [S_size]; exact hd
  have y1 : ¬ 9223372036854775807 < 1 + (S l).size := by omega
  have y2 : ¬ 9223372036854775807 < (S l).size + 1 := by omega
  have HS := Lib.hid (show (⟨#[102]⟩ : ByteArray) ++ S l = S (102 :: l) by rw [show (⟨#[102]⟩ : ByteArray) = S [102] from rfl, S_append]; rfl)
  clear hm h1 hp
  go_enter Tryd.func19, Tryd.ntmps19
  go_wp2_with fail
  refine HC.out.mono ?_
  rintro e w1 ⟨rfl, hb⟩
  go_wp2_with fail
  go_ret
  exact ⟨by rw [HF.out, ← HS.out]; rfl, hb⟩

def withinB (n m : Int) : Bool := decide (0 ≤ n) && decide (n ≤ m)
set_option linter.unusedSimpArgs false in
theorem within_any (n m : Int) (w : World) : Calls Tryd.prog 30 #[.int .i64 n, .int .i64 m] w fun e w' => e = .returned (.bool (withinB n m)) ∧ w = w' := by
  unfold withinB
  by_cases h : 0 ≤ n
  · have k1 : decide (0 ≤ n) = true := decide_eq_true h
    rw [k1, Bool.true_and]
    clear h
    go_enter Tryd.func30, Tryd.ntmps30
    go_wp2_with fail
    go_ret
    exact ⟨rfl, rfl⟩
  · have k1 : decide (0 ≤ n) = false := decide_eq_false h
    rw [k1, Bool.false_and]
    clear h
    go_enter Tryd.func30, Tryd.ntmps30
    go_wp2_with fail
    go_ret
    exact ⟨rfl, rfl⟩

theorem results_cell1 {fn : Func} {p : Tmp} {t : TypeId} (h : fn.results = #[.cell p t]) (tmps : Array Value) (P : Program) (w : World) :
    (results fn tmps).run P w = ((asAddr (tmps.getD p undef)).run P w).andThen fun a w₁ => (loadVar t a).run P w₁ := by
  simp only [results, h]
  simp [Sem.run_bind, Result.andThen]
/-- a state as a value; its cells -/
def stVal (A : Option Addr) (n c : Nat) (s : St) : Value := .agg #[.slice A n c, .int .i64 s.Next, .int .i64 s.Past, .bool s.On, .int .i64 s.Day, .int .i64 s.To, .int .i64 s.Done]
def edVal (e : Ed) : Value := .agg #[.int .i64 e.Kind, .int .i64 e.Day, .int .i64 e.Layout, .int .i64 e.At]

set_option linter.unusedSimpArgs false in
set_option maxRecDepth 100000 in
theorem off_any (A : Option Addr) (n c : Nat) (s : St) (w : World) : Calls Tryd.prog 35 #[stVal A n c s] w fun e w' => e = .returned (stVal A n c (offS s)) ∧ Below w.heap.size w w' := by
  unfold stVal offS
  obtain ⟨P, N, Q, O, D, T, X⟩ := s
  simp only
  go_enter Tryd.func35, Tryd.ntmps35
  go_wp2_with fail
  ((try simp only [Exit.inBlock, Exit.then]); refine bodyPost_ret (by rw [results_cell1 rfl]; go_simp; rfl) rfl ?_)
  exact ⟨rfl, ((Below.refl _ w).alloc (Nat.le_refl _) _).alloc (by simp) _⟩
end Go.Proofs.YtbheoahpaidpmaaDoor
