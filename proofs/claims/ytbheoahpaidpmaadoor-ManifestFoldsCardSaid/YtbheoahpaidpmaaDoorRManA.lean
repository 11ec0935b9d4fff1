/-
  The document's parts: off, day, bit, File, own, Find, drop.
-/
import Derived.Test.YtbheoahpaidpmaaDoorManFile
import Derived.BigQuiet
namespace Go.Proofs.YtbheoahpaidpmaaDoor
open Go Go.RowKit

theorem rpartInf : (Tryd.prog.info? 43).map (fun i => (i.zero, i.size, i.bytes)) = some (some (.agg #[.int .i64 0, .int .i64 0, .string ⟨#[]⟩]), 3, 32) := by kernel_rfl

set_option linter.unusedSimpArgs false in
set_option maxRecDepth 100000 in
theorem roff_any (A : Option Addr) (n c : Nat) (s : St) (w : World) : Calls Tryd.prog 39 #[stVal A n c s] w fun e w' => e = .returned (stVal A n c (offS s)) ∧ Below w.heap.size w w' := by
  unfold stVal offS
  obtain ⟨P, N, Q, O, D, T, X⟩ := s
  simp only
  go_enter Tryd.func39, Tryd.ntmps39
  go_wp2_with fail
  ((try simp only [Exit.inBlock, Exit.then]); refine bodyPost_ret (by rw [results_cell1 rfl]; go_simp; rfl) rfl ?_)
  exact ⟨rfl, ((Below.refl _ w).alloc (Nat.le_refl _) _).alloc (by simp) _⟩

set_option linter.unusedSimpArgs false in
theorem rday_any (n : Int) (w : World) : Calls Tryd.prog 25 #[.int .i64 n] w fun e w' => e = .returned (.bool (decide (dayOk n))) ∧ w = w' := by
  by_cases h : 0 ≤ n
  · have k1 : decide (0 ≤ n) = true := decide_eq_true h
    have k2 : decide (dayOk n) = decide (n < 17179869184) := by
      refine Bool.eq_iff_iff.2 ?_
      rw [decide_eq_true_iff, decide_eq_true_iff]
      unfold dayOk
      omega
    rw [k2]
    clear h k2
    go_enter Tryd.func25, Tryd.ntmps25
    go_wp2_with fail
    go_ret
    exact ⟨rfl, rfl⟩
  · have k1 : decide (0 ≤ n) = false := decide_eq_false h
    have k2 : decide (dayOk n) = false := decide_eq_false fun hd => h hd.1
    rw [k2]
    clear h k2
    go_enter Tryd.func25, Tryd.ntmps25
    go_wp2_with fail
    go_ret
    exact ⟨rfl, rfl⟩
set_option linter.unusedSimpArgs false in
theorem rbit_any (n : Int) (w : World) : Calls Tryd.prog 26 #[.int .i64 n] w fun e w' => e = .returned (.bool (decide (bitOk n))) ∧ w = w' := by
  by_cases h : n = 0
  · subst h
    rw [show decide (bitOk 0) = true from decide_eq_true (.inl rfl)]
    go_enter Tryd.func26, Tryd.ntmps26
    go_wp2_with fail
    go_ret
    exact ⟨rfl, rfl⟩
  · have k1 : (n == 0) = false := beq_eq_false_iff_ne.2 h
    have k2 : decide (bitOk n) = (n == 1) := by
      refine Bool.eq_iff_iff.2 ?_
      rw [decide_eq_true_iff, beq_iff_eq]
      unfold bitOk
      omega
    rw [k2]
    clear h k2
    go_enter Tryd.func26, Tryd.ntmps26
    go_wp2_with fail
    go_ret
    exact ⟨rfl, rfl⟩

theorem digit_at {d : Nat} (h : d < 10) : (⟨#[48, 49, 50, 51, 52, 53, 54, 55, 56, 57]⟩ : ByteArray).extract d (d + 1) = S [UInt8.ofNat (48 + d)] := by
  have : d = 0 ∨ d = 1 ∨ d = 2 ∨ d = 3 ∨ d = 4 ∨ d = 5 ∨ d = 6 ∨ d = 7 ∨ d = 8 ∨ d = 9 := by omega
  rcases this with rfl | rfl | rfl | rfl | rfl | rfl | rfl | rfl | rfl | rfl <;> decide
/-- the digits that are not written yet -/
def restD : Nat → List UInt8
  | 0 => []
  | n + 1 => Lib.decDigits (n + 1)
theorem restD_step {q : Nat} (h : 0 < q) : restD q = restD (q / 10) ++ [UInt8.ofNat (48 + q % 10)] := by
  obtain ⟨k, rfl⟩ : ∃ k, q = k + 1 := ⟨q - 1, by omega⟩
  by_cases h10 : k + 1 < 10
  · have e1 : (k + 1) / 10 = 0 := by omega
    have e2 : (k + 1) % 10 = k + 1 := by omega
    rw [e1, e2]
    show Lib.decDigits (k + 1) = _
    rw [Lib.decDigits, dif_pos h10]
    rfl
  · obtain ⟨j, hj⟩ : ∃ j, (k + 1) / 10 = j + 1 := ⟨(k + 1) / 10 - 1, by omega⟩
    show Lib.decDigits (k + 1) = _
    rw [Lib.decDigits, dif_neg h10, hj]
    rfl
theorem digits_rest (n : Nat) : Lib.decDigits n = restD (n / 10) ++ [UInt8.ofNat (48 + n % 10)] := by
  cases n with
  | zero => rw [Lib.decDigits]; rfl
  | succ n => exact restD_step (q := n + 1) (by omega)

set_option linter.unusedSimpArgs false in
set_option maxRecDepth 100000 in
set_option maxHeartbeats 1000000 in
theorem rfile_any (n : Int) (h1 : n ≤ 9223372036854775807) (w : World) : Calls Tryd.prog 51 #[.int .i64 n] w fun e w' => e = .returned (.string (S (fileB n))) ∧ w = w' := by
  obtain ⟨m, hm⟩ : ∃ m : Nat, n.toNat = m := ⟨_, rfl⟩
  have hF := show fileB n = 102 :: Lib.decDigits m by unfold fileB; rw [hm]
  have hlen := digits_len m (by omega)
  rw [digits_rest] at hF hlen
  obtain ⟨d, hd⟩ : ∃ d, m % 10 = d := ⟨_, rfl⟩
  obtain ⟨q, hq⟩ : ∃ q, m / 10 = q := ⟨_, rfl⟩
  rw [hd, hq] at hF hlen
  have hd10 : d < 10 := by omega
  have HE := Lib.hid (digit_at hd10)
  have HF := Lib.hid hF
  have hq9 : q ≤ 9223372036854775807 := by omega
  have HL := Lib.hid hlen
  by_cases hneg : n < 0
  · have t1 : decide (n < 0) = true := decide_eq_true hneg
    have hm0 : m = 0 := by omega
    subst hm0
    obtain rfl : d = 0 := by omega
    obtain rfl : q = 0 := by omega
    clear hneg hm hF hlen hd hq
    go_enter Tryd.func51, Tryd.ntmps51
    go_wp2_with fail
    go_loopw [0, 3] (fun nv sv wr => ∃ (p : Nat) (t : List UInt8), nv = .int .i64 p ∧ sv = .string (S t) ∧ restD p ++ t = restD 0 ++ [UInt8.ofNat (48 + 0)] ∧ p ≤ 9223372036854775807 ∧ t.length ≤ 20 ∧ w = wr) (fun nv _ _ => (intOf nv).toNat)
    case atStart => exact ⟨0, [UInt8.ofNat (48 + 0)], by first | rfl | trivial, by rw [HE.out], rfl, by omega, by simp, rfl⟩
    case round =>
      obtain ⟨p, t, rfl, rfl, hpt, hp9, ht20, rfl⟩ := hrel
      have Hpt := Lib.hid hpt
      clear hpt
      by_cases hp0 : 0 < p
      · obtain ⟨e, he⟩ : ∃ e, p % 10 = e := ⟨_, rfl⟩
        obtain ⟨g, hg⟩ : ∃ g, p / 10 = g := ⟨_, rfl⟩
        have he10 : e < 10 := by omega
        have hst := restD_step hp0
        rw [hg, he] at hst
        have HE1 := Lib.hid (digit_at he10)
        have Hst := Lib.hid hst
        have r1 : ((p : Int).tmod 10) = (e : Int) := by rw [Int.tmod_eq_emod_of_nonneg (by omega)]; omega
        have r2 : ((p : Int) % 10) = (e : Int) := by omega
        have r3 : ((p : Int).tdiv 10) = (g : Int) := by rw [Int.tdiv_eq_ediv_of_nonneg (by omega)]; omega
        have r4 : ((p : Int) / 10) = (g : Int) := by omega
        have a1 : IntKind.i64.wrap ((e : Int) + 1) = (e : Int) + 1 := by rw [IntKind.wrap_i64]; omega
        have a2 : IntKind.i64.wrap (g : Int) = (g : Int) := by rw [IntKind.wrap_i64]; omega
        have a3 : IntKind.i64.wrap (e : Int) = (e : Int) := by rw [IntKind.wrap_i64]; omega
        have b1 : (e : Int) + 1 ≤ 10 := by omega
        have b2 : (0 : Int) < (p : Int) := by omega
        have hgp : g < p := by omega
        have hlt20 : (restD p ++ t).length ≤ 20 := by rw [Hpt.out]; exact HL.out
        have hcat : ¬ 9223372036854775807 < min (e + 1) 10 - e + (S t).size := by rw [S_size]; omega
        clear hst he hg hp0
        go_wp2_with fail
        exact ⟨⟨g, UInt8.ofNat (48 + e) :: t, rfl, by rw [HE1.out, S_append]; rfl, by rw [← Hpt.out, Hst.out]; simp, by omega, by rw [Hst.out] at hlt20; simp at hlt20 ⊢; omega, trivial⟩, by simp [intOf]; exact hgp⟩
      · obtain rfl : p = 0 := by omega
        have hcat : ¬ 9223372036854775807 < 1 + (S t).size := by rw [S_size]; omega
        clear hp0
        go_wp2_with fail
        go_ret
        exact ⟨by rw [HF.out, ← Hpt.out]; rfl, rfl⟩
  · obtain rfl : n = m := by omega
    have t1 : decide ((m : Int) < 0) = false := decide_eq_false (by omega)
    have r1 : ((m : Int).tmod 10) = (d : Int) := by rw [Int.tmod_eq_emod_of_nonneg (by omega)]; omega
    have r2 : ((m : Int) % 10) = (d : Int) := by omega
    have r3 : ((m : Int).tdiv 10) = (q : Int) := by rw [Int.tdiv_eq_ediv_of_nonneg (by omega)]; omega
    have r4 : ((m : Int) / 10) = (q : Int) := by omega
    have a1 : IntKind.i64.wrap ((d : Int) + 1) = (d : Int) + 1 := by rw [IntKind.wrap_i64]; omega
    have a2 : IntKind.i64.wrap (q : Int) = (q : Int) := by rw [IntKind.wrap_i64]; omega
    have a3 : IntKind.i64.wrap (d : Int) = (d : Int) := by rw [IntKind.wrap_i64]; omega
    have b1 : (d : Int) + 1 ≤ 10 := by omega
    clear hneg hm hF hlen hd hq
    go_enter Tryd.func51, Tryd.ntmps51
    go_wp2_with fail
    go_loopw [0, 3] (fun nv sv wr => ∃ (p : Nat) (t : List UInt8), nv = .int .i64 p ∧ sv = .string (S t) ∧ restD p ++ t = restD q ++ [UInt8.ofNat (48 + d)] ∧ p ≤ 9223372036854775807 ∧ t.length ≤ 20 ∧ w = wr) (fun nv _ _ => (intOf nv).toNat)
    case atStart => exact ⟨q, [UInt8.ofNat (48 + d)], by first | rfl | trivial, by rw [HE.out], rfl, by omega, by simp, rfl⟩
    case round =>
      obtain ⟨p, t, rfl, rfl, hpt, hp9, ht20, rfl⟩ := hrel
      have Hpt := Lib.hid hpt
      clear hpt
      by_cases hp0 : 0 < p
      · obtain ⟨e, he⟩ : ∃ e, p % 10 = e := ⟨_, rfl⟩
        obtain ⟨g, hg⟩ : ∃ g, p / 10 = g := ⟨_, rfl⟩
        have he10 : e < 10 := by omega
        have hst := restD_step hp0
        rw [hg, he] at hst
        have HE1 := Lib.hid (digit_at he10)
        have Hst := Lib.hid hst
        have r1 : ((p : Int).tmod 10) = (e : Int) := by rw [Int.tmod_eq_emod_of_nonneg (by omega)]; omega
        have r2 : ((p : Int) % 10) = (e : Int) := by omega
        have r3 : ((p : Int).tdiv 10) = (g : Int) := by rw [Int.tdiv_eq_ediv_of_nonneg (by omega)]; omega
        have r4 : ((p : Int) / 10) = (g : Int) := by omega
        have a1 : IntKind.i64.wrap ((e : Int) + 1) = (e : Int) + 1 := by rw [IntKind.wrap_i64]; omega
        have a2 : IntKind.i64.wrap (g : Int) = (g : Int) := by rw [IntKind.wrap_i64]; omega
        have a3 : IntKind.i64.wrap (e : Int) = (e : Int) := by rw [IntKind.wrap_i64]; omega
        have b1 : (e : Int) + 1 ≤ 10 := by omega
        have b2 : (0 : Int) < (p : Int) := by omega
        have hgp : g < p := by omega
        have hlt20 : (restD p ++ t).length ≤ 20 := by rw [Hpt.out]; exact HL.out
        have hcat : ¬ 9223372036854775807 < min (e + 1) 10 - e + (S t).size := by rw [S_size]; omega
        clear hst he hg hp0
        go_wp2_with fail
        exact ⟨⟨g, UInt8.ofNat (48 + e) :: t, rfl, by rw [HE1.out, S_append]; rfl, by rw [← Hpt.out, Hst.out]; simp, by omega, by rw [Hst.out] at hlt20; simp at hlt20 ⊢; omega, trivial⟩, by simp [intOf]; exact hgp⟩
      · obtain rfl : p = 0 := by omega
        have hcat : ¬ 9223372036854775807 < 1 + (S t).size := by rw [S_size]; omega
        clear hp0
        go_wp2_with fail
        go_ret
        exact ⟨by rw [HF.out, ← Hpt.out]; rfl, rfl⟩
end Go.Proofs.YtbheoahpaidpmaaDoor
