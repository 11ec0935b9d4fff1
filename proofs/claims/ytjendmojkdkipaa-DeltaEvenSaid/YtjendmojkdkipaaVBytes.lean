/-
  The walk of the writer's Bytes.
-/
import Derived.Test.YtjendmojkdkipaaVLen
import Derived.Test.YtjendmojkdkipaaRWriter
namespace Go.Proofs.Ytjendmojkdkipaa
open Go Go.RowKit
attribute [local go_sem ↓] Go.wp_at_zero Go.wp_at_succ

/-- 'string(b)' of one byte that lies somewhere -/
theorem run_one_at {P : Program} {src dst e : TypeId} (c : UInt8)
    (hs : P.underlying src = some (.slice e)) (he : P.underlying e = some (.int .u8)) (hd : P.underlying dst = some .string) (w : World) (g : Nat) (h0 : w.cell? ⟨g, 0, none⟩ = some (.int .u8 (c.toNat : Int))) :
    (convert src dst (.slice (some ⟨g, 0, none⟩) 1 1)).run P w = .ok (.string (S [c])) w := by
  refine run_convert_bytes_back w src dst e ⟨g, 0, none⟩ 1 [c] hs he hd fun j hj => ?_
  obtain rfl : j = 0 := by simpa using hj
  exact h0

theorem wr_later {R R' : Nat → Prop} {b : Nat} {s : WSt} {w w' : World} (h : WrOf R b s w) (hb : R' b) (hs : ∀ k, k < w.heap.size → w'.heap[k]? = w.heap[k]?) (hR : ∀ k, k < w.heap.size → R' k → R k) : WrOf R' b s w' := by
  obtain ⟨h1, hT, p, v, hp, hh, ho, hn⟩ := h
  refine ⟨hb, hT, p, v, hp, (hs b (Array.getElem?_eq_some_iff.1 hh).1).trans hh, ?_⟩
  have hlt : ∀ g, v.ownBlock = some g → g < w.heap.size := fun g hg => (ho.lt g hg).2
  exact Lie.shift (Lie.later ⟨ho, hn⟩ fun g hg => hs g (hlt g hg)) fun g hg hR' => hn g hg (hR g (hlt g hg) hR')

set_option maxRecDepth 100000 in
set_option maxHeartbeats 1000000 in
theorem bytes_any (R : Nat → Prop) (b : Nat) (s : WSt) (w : World) (h : WrOf R b s w) (hok : s.ok) (hR : Old R w) (hl : s.L.length < 1099511626000) :
    Calls Try.prog 21 #[.pointer (some ⟨b, 0, none⟩)] w fun e w' => e = .returned (.string (S s.out)) ∧ Stays R w w' := by
  obtain ⟨⟨c2, c3⟩, -⟩ := bld_cells h
  have hb : R b := h.1
  have hbl : b < w.heap.size := hR b hb
  have ST := Lib.hid (fun w' (h' : WrOf R b s w') (hR' : Old R w') => string_any R b _ _ s.L w' h' hR')
  by_cases hm : s.m = 0
  · have ho : s.out = s.L := by unfold WSt.out; rw [if_pos hm]
    rw [ho]
    have hm0 : ((s.m : Int) == 0) = true := by rw [hm]; rfl
    have HH := Lib.hid h
    have HR := Lib.hid hR
    clear ho h hm hok
    go_enter Try.func21, Try.ntmps21
    go_wp2_with fail
    refine (ST.out _ HH.out HR.out).mono ?_
    rintro e w1 ⟨rfl, hs⟩
    go_wp2_with fail
    go_ret
    exact ⟨rfl, hs⟩
  · obtain ⟨hm8, ha⟩ := hok
    obtain ⟨x, hx⟩ : ∃ x, x = s.a * 2 ^ (8 - s.m) := ⟨_, rfl⟩
    have ho : S s.out = S s.L ++ S [byt x] := by unfold WSt.out; rw [if_neg hm, S_append, ← hx]
    rw [ho]
    have hxl : x < 256 := by
      have : s.a * 2 ^ (8 - s.m) < 2 ^ s.m * 2 ^ (8 - s.m) := Nat.mul_lt_mul_of_pos_right ha (Nat.two_pow_pos _)
      rw [← Nat.pow_add, show s.m + (8 - s.m) = 8 by omega] at this
      omega
    obtain ⟨t, ht⟩ : ∃ t, t = 8 - s.m := ⟨_, rfl⟩
    have hm0 : ((s.m : Int) == 0) = false := beq_eq_false_iff_ne.2 (by omega)
    have e1 : IntKind.i64.wrap (8 - (s.m : Int)) = (t : Int) := by rw [IntWalk.i64_in _ (by omega)]; omega
    have e2 : IntKind.u64.wrap (t : Int) = (t : Int) := IntWalk.u64_in _ (by omega)
    have hmn : min t 64 = t := by omega
    have e3 : IntKind.u64.wrap ((s.a : Int) * 2 ^ t) = (x : Int) := by
      have : (s.a : Int) * 2 ^ t = ((s.a * 2 ^ t : Nat) : Int) := by norm_cast
      rw [this, ht, ← hx]
      exact IntWalk.u64_in _ (by omega)
    have e4 : IntKind.u8.wrap (x : Int) = ((byt x).toNat : Int) := byt_wrap x
    have HH := Lib.hid h
    have HR := Lib.hid hR
    clear ho h hm ha hx ht hxl
    have hone := fun w => run_one_string (P := Try.prog) (src := 37) (dst := 9) (e := 5) w ((byt x).toNat : Int) (byt x) rfl Try.underlying37 Try.underlying5 Try.underlying9
    have m8 : (s.m : Int) < 8 := by omega
    have hone2 := run_one_at (P := Try.prog) (src := 37) (dst := 9) (e := 5) (byt x) Try.underlying37 Try.underlying5 Try.underlying9 (w.alloc (.cells #[.int .u8 ((byt x).toNat : Int)] 5)).drew w.heap.size (by
      have := cell_new w #[.int .u8 ((byt x).toNat : Int)] 5 0 _ rfl
      rw [add_none] at this
      exact this)
    have keep2 : ∀ w' : World, (∀ k, R k → w'.heap[k]? = w.heap[k]?) → w'.cell? ⟨b, 2, none⟩ = some (.int .u64 s.a) ∧ w'.cell? ⟨b, 3, none⟩ = some (.int .i64 s.m) := fun w' hk => by
      have e := hk b hb
      simp only [World.cell?, e] at c2 c3 ⊢
      exact ⟨c2, c3⟩
    have hal := Lib.hid (fun k (hk : k < w.heap.size) => Lib.alloc_old w (.cells #[.int .u8 ((byt x).toNat : Int)] 5) k hk)
    have ST2 := Lib.hid (fun w' (hw : w'.heap = (w.alloc (.cells #[.int .u8 ((byt x).toNat : Int)] 5)).heap) =>
      string_any (fun k => R k ∨ k = w.heap.size) b _ _ s.L w' (wr_later HH.out (.inl hb) (fun k hk => by rw [hw]; exact hal.out k hk) (fun k hk hR => hR.elim id (fun e => absurd e (by omega)))) (fun k hk => by
        have hz : w'.heap.size = w.heap.size + 1 := by rw [hw]; simp
        rcases hk with h | h
        · have := HR.out k h; omega
        · omega))
    have cell5 := Lib.hid (fun w5 (h5 : Stays (fun k => R k ∨ k = w.heap.size) (w.alloc (.cells #[.int .u8 ((byt x).toNat : Int)] 5)) w5) => by
      have := cell_new w #[.int .u8 ((byt x).toNat : Int)] 5 0 _ rfl
      rw [add_none] at this
      exact (World.cell?_of_block (h5.block w.heap.size (.inr rfl))).trans this)
    have Hkeep := Lib.hid keep2
    clear keep2
    have HB := Lib.hid hb
    clear hb
    have sz1 : (S s.L).size ≤ 1099511626000 := by rw [S_size]; omega
    have sz2 : (S [byt x]).size ≤ 1 := by rw [S_size]; exact Nat.le_refl 1
    go_enter Try.func21, Try.ntmps21
    go_wp2_with fail
    go_region_held (fun w' => w'.cell? ⟨b, 2, none⟩ = some (.int .u64 s.a) ∧ w'.cell? ⟨b, 3, none⟩ = some (.int .i64 s.m))
      (go_keep)
      (first
        | (go_at_call 38; refine (ST.out w.drew HH.out HR.out).mono ?_; rintro e w5 ⟨rfl, hs5⟩; obtain ⟨g2, g3⟩ := Hkeep.out _ hs5.block)
        | (go_at_call 38; refine (ST2.out _ (by rfl)).mono ?_; rintro e w5 ⟨rfl, hs5'⟩; have hs5 := hs5'.drewl; obtain ⟨g2, g3⟩ := Hkeep.out _ fun k hk => (hs5.block k (.inl hk)).trans (hal.out k (HR.out k hk)); have hc5 := run_one_at (P := Try.prog) (src := 37) (dst := 9) (e := 5) (byt x) Try.underlying37 Try.underlying5 Try.underlying9 w5 w.heap.size (cell5.out w5 hs5)))
    all_goals
      go_wp2_with fail
      go_ret
      refine ⟨rfl, ?_⟩
      first
        | exact hs5.drewl.allocr HR.out _
        | exact ((Stays.refl R w).allocr HR.out _).trans (hs5.mono fun k hk => .inl hk)
end Go.Proofs.Ytjendmojkdkipaa
