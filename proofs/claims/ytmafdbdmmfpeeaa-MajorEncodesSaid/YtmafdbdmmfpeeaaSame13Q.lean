/-
  The document's Same and Alike of what is alike: they only read.
-/
import Derived.Test.YtmafdbdmmfpeeaaSame13
import Derived.Test.YtmafdbdmmfpeeaaSerArg
import Derived.BigQuiet
namespace Go.Proofs.Ytmafdbdmmfpeeaa
open Go Go.RowKit

set_option maxRecDepth 100000 in
set_option maxHeartbeats 1000000 in
theorem same13_quiet (A B : Option Addr) (ca cb : Nat) (xs : List Sample) (w : World) (ha : Rd w 2 A xs.length (xs.flatMap sampleCells)) (hb : Rd w 2 B xs.length (xs.flatMap sampleCells)) (hl : xs.length ≤ 1000000) :
    Calls Try.prog 12 #[.slice A xs.length ca, .slice B xs.length cb] w fun e w' => e = .returned (.bool true) ∧ ∃ m, w' = w.drewN m := by
  have ht : ((xs.length : Int) != (xs.length : Int)) = false := by simp
  have Ha := Lib.hid ha
  have Hb := Lib.hid hb
  clear ha hb
  go_enter Try.func12, Try.ntmps12
  go_wp2_with fail
  go_loopw [5] (fun i wr => ∃ j m : Nat, i = .int .i64 j ∧ j ≤ xs.length ∧ wr = w.drewN m) (fun i _ => xs.length - (intOf i).toNat)
  case atStart => exact ⟨0, 0, rfl, by omega, rfl⟩
  case round =>
    obtain ⟨j, m, rfl, hj, rfl⟩ := hrel
    by_cases hlt : j < xs.length
    · obtain ⟨b, off, rfl, hba, e0, e1⟩ := sample_at Ha.out hlt
      obtain ⟨b', off', rfl, hba', f0, f1⟩ := sample_at Hb.out hlt
      have hg := samp_guard
      have hne := fun w => run_samp_neq xs[j].T xs[j].V xs[j].T xs[j].V w
      have hE' : sampEq ⟨xs[j].T, xs[j].V⟩ ⟨xs[j].T, xs[j].V⟩ = true := (sampEq_iff _ _).2 rfl
      rw [hE'] at hne
      clear hE'
      go_wp2_with fail
      go_quiet (fail)
      go_wp2_with fail
      go_roundw
      case rel => exact ⟨j + 1, _, by go_num, by omega, rfl⟩
      case measure => simp [intOf]; omega
    · go_wp2_with fail
      go_ret
      exact ⟨rfl, _, rfl⟩

set_option linter.unusedSimpArgs false in
set_option maxRecDepth 100000 in
set_option maxHeartbeats 2000000 in
theorem alike_same (A B : Option Addr) (ca cb : Nat) (xs ys : List SerV) (l : List Ser) (w : World) (ha : SersAt w A xs l) (hb : SersAt w B ys l) (hl : xs.length ≤ 1000000) (hn : ∀ x ∈ l, x.L.length ≤ 5000) :
    Calls Try.prog 18 #[.slice A xs.length ca, .slice B ys.length cb] w fun e w' => e = .returned (.bool true) ∧ Below w.heap.size w w' := by
  obtain ⟨n, hnx⟩ : ∃ n, xs.length = n := ⟨_, rfl⟩
  have hny : ys.length = n := by rw [← hb.len, ha.len, hnx]
  rw [hnx, hny]
  rw [hnx] at hl
  have Ha := Lib.hid ha
  have Hb := Lib.hid hb
  have HN := Lib.hid hn
  have Hx := Lib.hid hnx
  have Hy := Lib.hid hny
  have ht : ((n : Int) != (n : Int)) = false := by simp
  clear ha hb hn hnx hny
  go_enter Try.func18, Try.ntmps18
  go_wp2_with fail
  go_loopw [5] (fun i wr => ∃ j : Nat, i = .int .i64 j ∧ j ≤ n ∧ Below w.heap.size w wr) (fun i _ => n - (intOf i).toNat)
  case atStart => exact ⟨0, rfl, by omega, Below.refl _ _⟩
  case round =>
    obtain ⟨j, rfl, hj, hbel⟩ := hrel
    have Hbel := Lib.hid hbel
    by_cases hlt : j < n
    · have hx : j < xs.length := by have := Hx.out; omega
      have hy : j < ys.length := by have := Hy.out; omega
      have hj2 : j < l.length := by rw [Ha.out.len]; exact hx
      obtain ⟨b, off, rfl, hba, hf⟩ := (Ha.out.rd.below hbel).elem serCells_length (by decide) hx
      obtain ⟨b', off', rfl, hba', hg⟩ := (Hb.out.rd.below hbel).elem serCells_length (by decide) hy
      have f0 := hf 0 _ rfl
      have f1 := hf 1 _ rfl
      have g0 := hg 0 _ rfl
      have g1 := hg 1 _ rfl
      obtain ⟨i1, l1, r1⟩ := (Ha.out.at_ j hx).below hbel
      obtain ⟨i2, l2, r2⟩ := (Hb.out.at_ j hy).below hbel
      have hnl := HN.out _ (List.getElem_mem hj2)
      generalize xs[j] = x at *
      generalize ys[j] = y at *
      generalize l[j] = s at *
      obtain ⟨I1, A1, n1, c1⟩ := x
      obtain ⟨I2, A2, n2, c2⟩ := y
      obtain ⟨I, L⟩ := s
      simp only [Nat.add_zero] at f0 f1 g0 g1 i1 l1 r1 i2 l2 r2 hnl
      subst i1 l1 i2 l2
      have f1' : wr.cell? ⟨b, off + j * 2 + 1, none⟩ = some (.slice A1 L.length c1) := by rw [Nat.add_assoc]; exact f1
      have g1' : wr.cell? ⟨b', off' + j * 2 + 1, none⟩ = some (.slice A2 L.length c2) := by rw [Nat.add_assoc]; exact g1
      have q := fun m => same13_quiet A1 A2 c1 c2 L (wr.drewN m) (r1.below (below_drewN (Below.refl _ _) _)) (r2.below (below_drewN (Below.refl _ _) _)) (by omega)
      have HQ := Lib.hid q
      have e1 : ((I : Int) != I) = false := by simp
      have hk1 : (j : Int) < n := by omega
      clear q hf hg f1 g1 r1 r2 hnl hbel
      obtain ⟨k, hk⟩ : ∃ k, L.length = k := ⟨_, rfl⟩
      rw [hk] at f1' g1' HQ
      clear hk
      go_wp2_with fail
      go_quiet ((go_at_call 12; exact Calls.quiet_of (HQ.out _)))
      go_wp2_with fail
      go_roundw
      case rel => exact ⟨j + 1, by go_num, by omega, below_drewN Hbel.out _⟩
      case measure => simp [intOf]; omega
    · obtain rfl : j = n := by omega
      go_wp2_with fail
      go_ret
      exact ⟨rfl, Hbel.out⟩
end Go.Proofs.Ytmafdbdmmfpeeaa
