/-
  The walk of zig.Uint.
-/
import Derived.Test.YtjendmojkdkipaaOwn
import Derived.Test.YtjendmojkdkipaaZigPlain
namespace Go.Proofs.Ytjendmojkdkipaa
open Go Go.RowKit

theorem u8_or128 (m : Nat) : bits .or .u8 ((m : Int) % 256) 128 = ((byt (m % 128 + 128)).toNat : Int) := by
  rw [u8_lt _ (by omega)]
  have e : (m : Int) % 256 = ((m % 256 : Nat) : Int) := by omega
  rw [e]
  have := u8_or_nat (m % 256) 128 (by omega) (by omega)
  have e2 : (128 : Int) = ((128 : Nat) : Int) := rfl
  rw [e2, this]
  have key : ∀ x : Fin 256, x.val ||| 128 = x.val % 128 + 128 := by decide +kernel
  have := key ⟨m % 256, by omega⟩
  simp only at this
  rw [this]; omega

theorem u8_of {m : Nat} (h : m < 256) : (m : Int) = ((byt m).toNat : Int) := by
  rw [u8_lt _ h]

theorem u8inf : (Try.prog.info? 5).map (fun i => (i.zero, i.size, i.bytes)) = some (some (.int .u8 0), 1, 1) := by kernel_rfl

set_option maxRecDepth 100000 in
set_option maxHeartbeats 1000000 in
theorem uint_any (n : Nat) (w : World) (h : n < 18446744073709551616) :
    Calls Try.prog 15 #[.int .u64 n] w fun e w' => e = .returned (.string (S (uint n))) ∧ Below w.heap.size w w' := by
  have hmk : ∀ w, (Instr.makeSlice 37 (.int .i64 0) (.int .i64 10)).run Try.prog w = .ok (.slice (some ⟨w.heap.size, 0, none⟩) 0 10) (w.alloc (.cells #[.int .u8 0, .int .u8 0, .int .u8 0, .int .u8 0, .int .u8 0, .int .u8 0, .int .u8 0, .int .u8 0, .int .u8 0, .int .u8 0] 5)) := fun _ => by kernel_rfl
  go_enter Try.func15, Try.ntmps15
  go_wp2
  go_loopw [0, 3] (fun x b wr => ∃ m pre, x = .int .u64 (m : Nat) ∧ uint n = pre ++ uint m ∧ pre.length + (uint m).length ≤ 10 ∧ wr.ownsRow w.heap.size 5 1 b pre.length (cellsOf pre) ∧ Below w.heap.size w wr ∧ w.heap.size ≤ wr.heap.size) (fun x _ _ => (intOf x).toNat)
  case atStart => exact ⟨n, [], rfl, rfl, by have := uint_len_ten h; simpa using this, World.ownsRow_made _ _ _ (Nat.le_refl _) (by decide) rfl, (Below.refl _ _).alloc (Nat.le_refl _) _, by simp⟩
  case round =>
    obtain ⟨m, pre, rfl, hpre, hlen, hown, hbel, hsz⟩ := hrel
    have Hpre := Lib.hid hpre
    clear hpre hmk h
    by_cases hlt : 128 ≤ m
    · have hub := uint_big hlt
      have Hub := Lib.hid hub
      clear hub
      go_wp2_with (at_builtin; refine wpList_append_byte rfl _ _ 37 rfl 5 Try.underlying37 u8inf w.heap.size _ pre _ w _ _ _ (u8_or128 m) hown rfl hbel hsz rfl (by omega) ?_; intro v' w1 hown1 hgr1 hbel1 hsz1 hlt1 hnn1)
      go_roundw
      case rel => exact ⟨m / 128, pre ++ [byt (m % 128 + 128)], by go_num, by rw [Hpre.out, Hub.out]; simp, by rw [Hub.out] at hlen; simp at hlen ⊢; omega, by simpa using hown1, hbel1, hsz1⟩
      case measure => simp [intOf]; omega
    · have hm : m < 256 := by omega
      have hus := uint_small (show m < 128 by omega)
      have Hus := Lib.hid hus
      clear hus
      go_wp2_with (at_builtin; refine wpList_append_byte rfl _ _ 37 rfl 5 Try.underlying37 u8inf w.heap.size _ pre _ w _ _ _ (u8_of hm) hown rfl hbel hsz rfl (by omega) ?_; intro v' w1 hown1 hgr1 hbel1 hsz1 hlt1 hnn1; have hcv := run_ownedBytes_string (P := Try.prog) (src := 37) (dst := 9) hown1 Try.underlying37 Try.underlying5 Try.underlying9 hnn1)
      go_ret
      exact ⟨ret_str (by rw [Hpre.out, Hus.out]), hbel1⟩
end Go.Proofs.Ytjendmojkdkipaa
