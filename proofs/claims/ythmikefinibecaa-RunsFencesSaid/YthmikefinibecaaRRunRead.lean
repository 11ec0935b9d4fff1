/-
  The document's rows: behind, fine.
-/
import Derived.Test.YthmikefinibecaaRunBet
namespace Go.Proofs.Ythmikefinibecaa
open Go Go.RowKit

set_option linter.unusedSimpArgs false in
set_option maxRecDepth 100000 in
set_option maxHeartbeats 1000000 in
theorem rbehind_any (a b : Row) (w : World) : Calls Try.prog 44 #[rowVal a, rowVal b] w fun e w' => e = .returned (.bool (behR a b)) ∧ Below w.heap.size w w' := by
  unfold rowVal behR
  obtain ⟨T, I, V⟩ := a
  obtain ⟨T', I', V'⟩ := b
  simp only
  go_enter Try.func44, Try.ntmps44
  have hc : T' < T ∨ (T ≤ T' ∧ T' = T) ∨ (T ≤ T' ∧ T' ≠ T) := by omega
  rcases hc with h | ⟨h, h'⟩ | ⟨h, h'⟩
  · have k1 : decide (T' < T) = true := decide_eq_true h
    rw [k1, Bool.true_or]
    clear h
    go_wp2_with fail
    go_ret
    exact ⟨rfl, ((Below.refl _ w).alloc (Nat.le_refl _) _).alloc (by simp) _⟩
  · subst h'
    rw [show decide (T' < T') = false from decide_eq_false (by omega), show (T' == T') = true from beq_self_eq_true _, Bool.false_or, Bool.true_and]
    clear h
    go_wp2_with fail
    go_ret
    exact ⟨rfl, ((Below.refl _ w).alloc (Nat.le_refl _) _).alloc (by simp) _⟩
  · have k1 : decide (T' < T) = false := decide_eq_false (by omega)
    have k2 : (T' == T) = false := beq_eq_false_iff_ne.2 h'
    have k3 : (T == T') = false := beq_eq_false_iff_ne.2 (fun e => h' e.symm)
    rw [k1, k3, Bool.false_and, Bool.false_or]
    clear h h' k2
    go_wp2_with fail
    go_ret
    exact ⟨rfl, ((Below.refl _ w).alloc (Nat.le_refl _) _).alloc (by simp) _⟩

section
variable {xs : List Row} {i : Nat}
theorem take_last (h1 : 1 ≤ i) (h : i < xs.length) : rAt (xs.take i) ((xs.take i).length - 1) = xs[i - 1] := by
  rw [rAt_get (by simp only [List.length_take]; omega), List.getElem_take]
  congr 1
  simp only [List.length_take]; omega
theorem fine_step (h1 : 1 ≤ i) (h : i < xs.length) (hf : fineR (xs.take i) = true) (hb : behR xs[i] (xs[i - 1]'(by omega)) = true) : fineR (xs.take (i + 1)) = true := by
  rw [show xs.take (i + 1) = xs.take i ++ [xs[i]] by rw [List.take_append_getElem]]
  exact fineR_snoc hf (.inr (by rw [take_last h1 h]; exact hb))
theorem fine_stop (h1 : 1 ≤ i) (h : i < xs.length) (hb : behR xs[i] (xs[i - 1]'(by omega)) = false) : fineR xs = false := by
  cases e : fineR xs with
  | false => rfl
  | true =>
    rw [← List.take_append_drop (i + 1) xs] at e
    have h2 := fineR_pre e
    rw [show xs.take (i + 1) = xs.take i ++ [xs[i]] by rw [List.take_append_getElem]] at h2
    rcases (fineR_init h2).2 with h3 | h3
    · simp only [List.length_take] at h3; omega
    · rw [take_last h1 h, hb] at h3; cases h3
end

set_option linter.unusedSimpArgs false in
set_option maxRecDepth 100000 in
set_option maxHeartbeats 1000000 in
theorem fine_any (A : Option Addr) (c n : Nat) (xs : List Row) (w : World) (hr : Rd w 3 A n (xs.flatMap rowCells)) (hn : xs.length = n) (hl : n ≤ 1000000) :
    Calls Try.prog 33 #[.slice A n c] w fun e w' => e = .returned (.bool (fineR xs)) ∧ Below w.heap.size w w' := by
  have HR := Lib.hid hr
  have HN := Lib.hid hn
  obtain ⟨fv, hfv⟩ : ∃ fv, fineR xs = fv := ⟨_, rfl⟩
  have HF := Lib.hid hfv
  rw [hfv]
  clear hr hn hfv
  go_enter Try.func33, Try.ntmps33
  go_wp2_with fail
  go_loopw [3] (fun ix wr => ∃ i : Nat, ix = .int .i64 i ∧ 1 ≤ i ∧ (i ≤ n ∨ i = 1) ∧ Hid (fineR (xs.take i) = true) ∧ Below w.heap.size w wr) (fun ix _ => n - (intOf ix).toNat)
  case atStart => exact ⟨1, rfl, by omega, .inr rfl, Lib.hid (by cases xs with | nil => rfl | cons a l => simp [fineR]), Below.refl _ _⟩
  case round =>
    obtain ⟨i, rfl, hi1, hi2, hfi, hbel⟩ := hrel
    have Hbel := Lib.hid hbel
    clear hbel
    by_cases hlt : i < n
    · have hlt' : i < xs.length := by have := HN.out; omega
      have hlt2 : i - 1 < xs.length := by omega
      obtain ⟨gb, off, rfl, hgb, s0, s1, s2⟩ := row_at (HR.out.below Hbel.out) hlt'
      obtain ⟨gb2, off2, e, hgb2, t0, t1, t2⟩ := row_at (HR.out.below Hbel.out) hlt2
      obtain ⟨rfl, rfl⟩ : gb = gb2 ∧ off = off2 := by simpa using e
      have hstep := fine_step hi1 hlt' hfi.out
      have hstop := fine_stop hi1 hlt'
      obtain ⟨r, hr⟩ : ∃ r, xs[i] = r := ⟨_, rfl⟩
      obtain ⟨q, hq⟩ : ∃ q, xs[i - 1] = q := ⟨_, rfl⟩
      rw [hr] at s0 s1 s2 hstep hstop
      rw [hq] at t0 t1 t2 hstep hstop
      have Hstep := Lib.hid hstep
      have Hstop := Lib.hid hstop
      clear hr hq e hlt' hlt2 hstep hstop hgb2
      have CB := fun ww => rbehind_any r q ww
      have hk1 : (i : Int) < n := by omega
      have hk2 : (0 : Int) ≤ (i : Int) - 1 := by omega
      have hk3 : (i : Int) - 1 < n := by omega
      have hk4 : IntKind.i64.wrap ((i : Int) - 1) = (i : Int) - 1 := by rw [IntKind.wrap_i64]; omega
      have hk5 : ((i : Int) - 1).toNat = i - 1 := by omega
      have hk6 : (1 : Int) ≤ i := by omega
      obtain ⟨T, I, V⟩ := r
      obtain ⟨T', I', V'⟩ := q
      simp only at s0 s1 s2 t0 t1 t2
      cases hb : behR ⟨T, I, V⟩ ⟨T', I', V'⟩ with
      | false =>
        rw [hb] at CB
        have HCB := Lib.hid CB
        have HN2 := Lib.hid (Hstop.out hb)
        clear CB hb
        go_wp2_with fail
        go_region_held3 (fun w' => w'.cell? ⟨gb, off + i * 3, none⟩ = some (.int .i64 T) ∧ w'.cell? ⟨gb, off + i * 3 + 1, none⟩ = some (.int .i64 I) ∧ w'.cell? ⟨gb, off + i * 3 + 2, none⟩ = some (.int .i64 V) ∧ w'.cell? ⟨gb, off + (i - 1) * 3, none⟩ = some (.int .i64 T') ∧ w'.cell? ⟨gb, off + (i - 1) * 3 + 1, none⟩ = some (.int .i64 I') ∧ w'.cell? ⟨gb, off + (i - 1) * 3 + 2, none⟩ = some (.int .i64 V'))
          (first | go_keep | (go_split_ands; refine ⟨?_, ?_, ?_, ?_, ?_, ?_⟩ <;> (refine keepc hx1 ?_; first | assumption | go_keep)))
          (first | (go_at_call 44; refine (HCB.out _).mono ?_; rintro e w2 ⟨rfl, hx1⟩))
        go_wp2_with fail
        go_ret
        exact ⟨by rw [← HF.out, HN2.out]; rfl, Hbel.out.trans (hx1.drewl.mono Hbel.out.size)⟩
      | true =>
        rw [hb] at CB
        have HCB := Lib.hid CB
        have HN2 := Lib.hid (Hstep.out hb)
        clear CB hb
        go_wp2_with fail
        go_region_held3 (fun w' => w'.cell? ⟨gb, off + i * 3, none⟩ = some (.int .i64 T) ∧ w'.cell? ⟨gb, off + i * 3 + 1, none⟩ = some (.int .i64 I) ∧ w'.cell? ⟨gb, off + i * 3 + 2, none⟩ = some (.int .i64 V) ∧ w'.cell? ⟨gb, off + (i - 1) * 3, none⟩ = some (.int .i64 T') ∧ w'.cell? ⟨gb, off + (i - 1) * 3 + 1, none⟩ = some (.int .i64 I') ∧ w'.cell? ⟨gb, off + (i - 1) * 3 + 2, none⟩ = some (.int .i64 V'))
          (first | go_keep | (go_split_ands; refine ⟨?_, ?_, ?_, ?_, ?_, ?_⟩ <;> (refine keepc hx1 ?_; first | assumption | go_keep)))
          (first | (go_at_call 44; refine (HCB.out _).mono ?_; rintro e w2 ⟨rfl, hx1⟩))
        have Hb2 := Lib.hid (Hbel.out.trans (hx1.drewl.mono Hbel.out.size))
        clear hx1 hk1 hk2 hk3 hk4 hk5 hk6
        go_wp2_with fail
        go_roundw
        case rel => exact ⟨i + 1, by go_num, by omega, .inl (by omega), HN2, Hb2.out⟩
        case measure => simp [intOf]; omega
    · have HN2 := Lib.hid (show fineR xs = true by
        have := hfi.out
        rwa [List.take_of_length_le (by rw [HN.out]; omega)] at this)
      go_wp2_with fail
      go_ret
      exact ⟨by rw [← HF.out, HN2.out]; rfl, Hbel.out⟩
end Go.Proofs.Ythmikefinibecaa
