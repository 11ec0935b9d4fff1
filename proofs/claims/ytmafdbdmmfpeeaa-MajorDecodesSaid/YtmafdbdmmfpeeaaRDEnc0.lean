/-
  The document's Encode of samples that are refused; of any.
-/
import Derived.Test.YtmafdbdmmfpeeaaRDEnc
namespace Go.Proofs.Ytmafdbdmmfpeeaa
open Go Go.RowKit Go.Shelf

theorem good_pos {l : List Sample} {m : Nat} (h : ∀ i, i < m → GoodAt l i) : ∀ j, j < m → 0 ≤ (sAt l j).T := by
  intro j
  induction j with
  | zero => intro hj; have h1 := (h 0 hj).1; have h2 : prevT l 0 = -1 := rfl; omega
  | succ j ih => intro hj; have h1 := (h _ hj).1; have h2 : prevT l (j + 1) = (sAt l j).T := rfl; have := ih (by omega); omega

set_option maxRecDepth 100000 in
set_option maxHeartbeats 2000000 in
theorem rdenc_no (A : Option Addr) (c : Nat) (l : List Sample) (w : World) (hrd : Rd w 2 A l.length (l.flatMap sampleCells)) (hf : ¬ Fine l) (hl : l.length ≤ 5000) :
    Calls Try.prog 31 #[.slice A l.length c] w fun e w' => e = .returned (.tuple #[.string (S []), .int .i64 30]) ∧ Below w.heap.size w w' := by
  obtain ⟨m, hm, hgood, hbad⟩ := not_fine hf
  have Hrd := Lib.hid hrd
  have Hgood := Lib.hid hgood
  have Hbad := Lib.hid hbad
  clear hrd hgood hbad hf
  go_enter Try.func31, Try.ntmps31
  go_wp2_with fail
  go_loopw [4] (fun ix wr => ∃ j : Nat, ix = .int .i64 j ∧ j ≤ m ∧ Below w.heap.size w wr) (fun ix _ => l.length - (intOf ix).toNat)
  case atStart => exact ⟨0, rfl, by omega, Below.refl _ _⟩
  case round =>
    obtain ⟨j, rfl, hj, hbel⟩ := hrel
    have Hb := Lib.hid hbel
    have hjl : j < l.length := by omega
    by_cases hlt : j < m
    · obtain ⟨b, off, rfl, hb, f0, f1⟩ := sample_at (Hrd.out.below hbel) hjl
      clear f1
      obtain ⟨g1, g2⟩ := Hgood.out j hlt
      have g0 := good_pos Hgood.out j hlt
      rw [← sAt_get hjl] at f0
      have hil : (j : Int) < (l.length : Int) := by omega
      have hi0 : (0 : Int) ≤ (j : Int) := by omega
      rcases Nat.eq_zero_or_pos j with hz | hz
      · subst hz
        clear g1
        generalize (sAt l 0).T = tj at *
        have d0 : decide (tj < 0) = false := decide_eq_false (by omega)
        have d1 : decide (1099511627776 ≤ tj) = false := decide_eq_false (by omega)
        have d1' : decide (tj ≥ 1099511627776) = false := decide_eq_false (by omega)
        rw [Nat.zero_mul, Nat.add_zero] at f0
        clear g0 g2 hbel
        go_wp2_with fail
        go_quiet (fail)
        go_wp2_with fail
        go_roundw
        case rel => exact ⟨1, rfl, by omega, below_drewN Hb.out _⟩
        case measure => simp [intOf]; omega
      · obtain ⟨i, hi⟩ : ∃ i, i + 1 = j := ⟨j - 1, by omega⟩
        obtain ⟨b', off', hA', _, e0, e1⟩ := sample_at (Hrd.out.below hbel) (show i < l.length by omega)
        clear e1
        obtain ⟨rfl, rfl⟩ : b = b' ∧ off = off' := by simpa using hA'
        rw [← sAt_get (show i < l.length by omega)] at e0
        have hp : prevT l j = (sAt l i).T := by rw [← hi]; rfl
        rw [hp] at g1
        generalize (sAt l j).T = tj at *
        generalize (sAt l i).T = ti at *
        have d0 : decide (tj < 0) = false := decide_eq_false (by omega)
        have d1 : decide (1099511627776 ≤ tj) = false := decide_eq_false (by omega)
        have d1' : decide (tj ≥ 1099511627776) = false := decide_eq_false (by omega)
        have d2 : decide ((0 : Int) < (j : Int)) = true := decide_eq_true (by omega)
        have d2' : decide (0 < j) = true := decide_eq_true (by omega)
        have d3 : decide (tj ≤ ti) = false := decide_eq_false (by omega)
        have w1 : IntKind.i64.wrap ((j : Int) - 1) = (i : Int) := by rw [IntKind.wrap_i64]; omega
        have hi1 : (0 : Int) ≤ (i : Int) := by omega
        have hi2 : (i : Int) < (l.length : Int) := by omega
        clear g0 g1 g2 hbel hp hi hz hA'
        go_wp2_with fail
        go_quiet (fail)
        go_wp2_with fail
        go_roundw
        case rel => exact ⟨j + 1, by go_num, by omega, below_drewN Hb.out _⟩
        case measure => simp [intOf]; omega
    · obtain rfl : j = m := by omega
      obtain ⟨b, off, rfl, hb, f0, f1⟩ := sample_at (Hrd.out.below hbel) hjl
      clear f1
      rw [← sAt_get hjl] at f0
      have hil : (j : Int) < (l.length : Int) := by omega
      have hi0 : (0 : Int) ≤ (j : Int) := by omega
      have hc : (sAt l j).T < 0 ∨ (¬ (sAt l j).T < 0 ∧ 1099511627776 ≤ (sAt l j).T) ∨ (¬ (sAt l j).T < 0 ∧ ¬ 1099511627776 ≤ (sAt l j).T ∧ ∃ i, i + 1 = j ∧ (sAt l j).T ≤ (sAt l i).T) := by
        have hb := Hbad.out
        unfold GoodAt at hb
        rcases Nat.eq_zero_or_pos j with hz | hz
        · have h1 : prevT l j = -1 := by rw [hz]; rfl
          omega
        · obtain ⟨i, hi⟩ : ∃ i, i + 1 = j := ⟨j - 1, by omega⟩
          have h1 : prevT l j = (sAt l i).T := by rw [← hi]; rfl
          by_cases h2 : (sAt l j).T < 0
          · exact .inl h2
          · by_cases h3 : 1099511627776 ≤ (sAt l j).T
            · exact .inr (.inl ⟨h2, h3⟩)
            · exact .inr (.inr ⟨h2, h3, i, hi, by omega⟩)
      clear Hbad Hgood hlt hj hm
      rcases hc with k1 | ⟨k1, k2⟩ | ⟨k1, k2, i, hi, k3⟩
      · generalize (sAt l j).T = tj at *
        have d0 : decide (tj < 0) = true := decide_eq_true k1
        clear hbel
        go_wp2_with fail
        go_quiet (fail)
        go_wp2_with fail
        go_ret2
        exact ⟨rfl, below_drewN Hb.out _⟩
      · generalize (sAt l j).T = tj at *
        have d0 : decide (tj < 0) = false := decide_eq_false k1
        have d1 : decide (1099511627776 ≤ tj) = true := decide_eq_true k2
        have d1' : decide (tj ≥ 1099511627776) = true := decide_eq_true k2
        clear hbel k1
        go_wp2_with fail
        go_quiet (fail)
        go_wp2_with fail
        go_ret2
        exact ⟨rfl, below_drewN Hb.out _⟩
      · obtain ⟨b', off', hA', _, e0, e1⟩ := sample_at (Hrd.out.below hbel) (show i < l.length by omega)
        clear e1
        obtain ⟨rfl, rfl⟩ : b = b' ∧ off = off' := by simpa using hA'
        rw [← sAt_get (show i < l.length by omega)] at e0
        generalize (sAt l j).T = tj at *
        generalize (sAt l i).T = ti at *
        have d0 : decide (tj < 0) = false := decide_eq_false k1
        have d1 : decide (1099511627776 ≤ tj) = false := decide_eq_false k2
        have d1' : decide (tj ≥ 1099511627776) = false := decide_eq_false k2
        have d2 : decide ((0 : Int) < (j : Int)) = true := decide_eq_true (by omega)
        have d2' : decide (0 < j) = true := decide_eq_true (by omega)
        have d3 : decide (tj ≤ ti) = true := decide_eq_true k3
        have w1 : IntKind.i64.wrap ((j : Int) - 1) = (i : Int) := by rw [IntKind.wrap_i64]; omega
        have hi1 : (0 : Int) ≤ (i : Int) := by omega
        have hi2 : (i : Int) < (l.length : Int) := by omega
        clear hbel hi hA' k1 k2 k3
        go_wp2_with fail
        go_quiet (fail)
        go_wp2_with fail
        go_ret2
        exact ⟨rfl, below_drewN Hb.out _⟩

theorem rdenc_all (A : Option Addr) (c : Nat) (l : List Sample) (w : World) (hrd : Rd w 2 A l.length (l.flatMap sampleCells)) (hok : ∀ x ∈ l, Sample.ok x) (hl : l.length ≤ 5000) :
    Calls Try.prog 31 #[.slice A l.length c] w fun e w' => e = .returned (.tuple #[.string (S (encV l).1), .int .i64 (encV l).2]) ∧ Below w.heap.size w w' := by
  by_cases hf : Fine l
  · rw [encV_fine hf]; exact rdenc_any A c l w hrd hf hok hl
  · rw [encV_no hf]; exact rdenc_no A c l w hrd hf hl
end Go.Proofs.Ytmafdbdmmfpeeaa
