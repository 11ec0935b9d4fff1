/-
  The walks of the writer's Len, Bytes and New; how many bits a writer has.
-/
import Derived.Test.YtjendmojkdkipaaBitPlain
import Derived.Test.YtjendmojkdkipaaVPutN
namespace Go.Proofs.Ytjendmojkdkipaa
open Go Go.RowKit

def WSt.len (s : WSt) : Nat := 8 * s.L.length + s.m
theorem put_bits (s : WSt) (n k : Nat) : (s.put n k).len = s.len + k := by
  unfold WSt.put WSt.len
  split <;> simp <;> omega
theorem all_bits : ∀ (k : Nat) (s : WSt) (n : Nat), (s.all n k).len = s.len + k := by
  intro k
  induction k using Nat.strongRecOn with
  | ind k ih =>
    intro s n
    by_cases hc : 8 < k
    · rw [all_big hc, ih (k - 8) (by omega), put_bits]; omega
    · rw [all_small hc, put_bits]
theorem rice_bits (s : WSt) (n k : Nat) : (s.rice n k).len = s.len + costOne n k := by
  unfold WSt.rice costOne
  by_cases hq : 24 ≤ n / 2 ^ k
  · rw [if_pos hq, if_neg (by omega), all_bits, all_bits]
  · rw [if_neg hq, if_pos (by omega), all_bits, all_bits]; omega

/-- a writer's own block -/
def WBlk (b : Nat) (n a m : Nat) (w : World) : Prop := ∃ p A c, w.heap[b]? = some (.cells #[p, .slice A n c, .int .u64 a, .int .i64 m] 71 (0, 0))
theorem WrOf.blk {R : Nat → Prop} {b : Nat} {s : WSt} {w : World} (h : WrOf R b s w) : WBlk b s.L.length s.a s.m w := by
  obtain ⟨_, _, p, v, _, hh, ho⟩ := h
  obtain ⟨A, c, rfl⟩ := ho.form
  exact ⟨p, A, c, hh⟩
theorem WBlk.later {b n a m : Nat} {w w' : World} (h : WBlk b n a m w) (hb : w'.heap[b]? = w.heap[b]?) : WBlk b n a m w' := by
  obtain ⟨p, A, c, hh⟩ := h
  exact ⟨p, A, c, hb.trans hh⟩

def Same (w w' : World) : Prop := Stays (fun _ => True) w w'
theorem Same.refl (w : World) : Same w w := Stays.refl _ _
theorem Same.drew (w : World) : Same w w.drew := (Stays.refl _ _).drewr
theorem Same.stays {w w' : World} (h : Same w w') (R : Nat → Prop) : Stays R w w' := Stays.mono h fun _ _ => trivial

theorem new_any (w : World) :
    Calls Try.prog 19 #[] w fun e w' => e = .returned (.pointer (some ⟨w.heap.size, 0, none⟩)) ∧ w' = w.alloc (.cells #[.pointer none, .slice none 0 0, .int .u64 0, .int .i64 0] 71) := by
  go_enter Try.func19, Try.ntmps19
  go_wp2_with fail
  go_ret
  exact ⟨rfl, rfl⟩

def WSt.none : WSt := ⟨[], 0, 0⟩
theorem none_ok : WSt.none.ok := by unfold WSt.ok WSt.none; decide
theorem new_wr {R : Nat → Prop} {b : Nat} {w : World} (hh : w.heap[b]? = some (.cells #[.pointer none, .slice none 0 0, .int .u64 0, .int .i64 0] 71 (0, 0))) (hb : R b) : WrOf R b WSt.none w :=
  fresh_later (tl := [.int .u64 0, .int .i64 0]) hh fits_writer hb
theorem rice_ok {s : WSt} {n k : Nat} (h : s.ok) (hk : k ≤ 40) : (s.rice n k).ok ∧ (s.rice n k).L.length ≤ s.L.length + 20 := by
  unfold WSt.rice
  by_cases hq : 24 ≤ n / 2 ^ k
  · rw [if_pos hq]
    obtain ⟨h1, l1⟩ := all_ok 24 s 16777215 h
    obtain ⟨h2, l2⟩ := all_ok 64 _ n h1
    exact ⟨h2, by omega⟩
  · rw [if_neg hq]
    obtain ⟨h1, l1⟩ := all_ok (n / 2 ^ k + 1) s ((2 ^ (n / 2 ^ k) - 1) * 2) h
    obtain ⟨h2, l2⟩ := all_ok k _ (n % 2 ^ k) h1
    exact ⟨h2, by omega⟩
end Go.Proofs.Ytjendmojkdkipaa
