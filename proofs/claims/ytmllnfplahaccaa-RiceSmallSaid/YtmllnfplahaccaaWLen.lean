/-
  The walks of Len and New, and how many bits a writer has.
-/
import Derived.Test.YtmllnfplahaccaaWRice
namespace Go.Proofs.Ytmllnfplahaccaa
open Go Go.RowKit

def WSt.len (s : WSt) : Nat := 8 * s.L.length + s.m
theorem put_bits (s : WSt) (n k : Nat) : (s.put n k).len = s.len + k := by
  unfold WSt.put WSt.len
  split <;> simp <;> omega
theorem all_bits : ∀ (k : Nat) (s : WSt) (n : Nat), (s.all n k).len = s.len + k := by
  intro k
  induction k using Nat.strongRecOn with
  | ind k ih =>
    intro s n
    by_cases hc : 8 < k
    · rw [all_big hc, ih (k - 8) (by omega), put_bits]; omega
    · rw [all_small hc, put_bits]
theorem rice_bits (s : WSt) (n k : Nat) : (s.rice n k).len = s.len + costOne n k := by
  unfold WSt.rice costOne
  by_cases hq : 24 ≤ n / 2 ^ k
  · rw [if_pos hq, if_neg (by omega), all_bits, all_bits]
  · rw [if_neg hq, if_pos (by omega), all_bits, all_bits]; omega

theorem blen_any (R b : Nat) (x y : Value) (l : List UInt8) (w : World) (h : Bld R b x y l w) :
    Calls Try.prog 37 #[.pointer (some ⟨b, 0, none⟩)] w fun e w' => e = .returned (.int .i64 l.length) ∧ w = w' := by
  obtain ⟨hb, p, v, hp, hh, ho⟩ := h
  obtain ⟨A, c, rfl⟩ := own_row ho
  have c1 : w.cell? ⟨b, 1, none⟩ = some (.slice A l.length c) := by rw [Lib.cell_of_heap hh]; rfl
  go_enter Try.func37, Try.ntmps37
  go_wp2_with fail
  go_ret
  exact ⟨rfl, rfl⟩

set_option maxRecDepth 100000 in
set_option maxHeartbeats 1000000 in
theorem len_any (R b : Nat) (s : WSt) (w : World) (h : WrOf R b s w) (hok : s.ok) (hl : s.L.length < 1099511626000) :
    Calls Try.prog 16 #[.pointer (some ⟨b, 0, none⟩)] w fun e w' => e = .returned (.int .i64 s.len) ∧ WrOf R b s w' ∧ Beside R b w w' := by
  have hW := h
  obtain ⟨⟨c2, c3⟩, -⟩ := bld_cells h
  obtain ⟨L, a, m⟩ := s
  obtain ⟨hm, -⟩ := hok
  simp only at hm hl c3
  have B := Lib.hid (blen_any R b _ _ _ w.drew hW)
  have hlen : Hid ((WSt.len ⟨L, a, m⟩ : Int) = 8 * (L.length : Int) + (m : Int)) := by unfold WSt.len; exact (by omega : ((8 * L.length + m : Nat) : Int) = 8 * (L.length : Int) + (m : Int))
  have HW := Lib.hid hW
  simp only at B
  clear hW h c2
  generalize hn : L.length = n at *
  have hm8 : (m : Int) < 8 := by omega
  have e1 : IntKind.i64.wrap (8 * (n : Int)) = 8 * (n : Int) := IntWalk.i64_in _ (by omega)
  have e2 : IntKind.i64.wrap (8 * (n : Int) + (m : Int)) = 8 * (n : Int) + (m : Int) := IntWalk.i64_in _ (by omega)
  clear hn
  go_enter Try.func16, Try.ntmps16
  go_wp2_with fail
  go_region_held3 (fun w' => w'.cell? ⟨b, 3, none⟩ = some (.int .i64 m)) (go_keep) (first | (go_at_call 37; refine B.out.mono ?_; rintro e w2 ⟨rfl, rfl⟩))
  go_wp2_with fail
  go_ret
  exact ⟨ret_int hlen.out.symm, HW.out, (Beside.refl _ _ _).drewr⟩
end Go.Proofs.Ytmllnfplahaccaa
