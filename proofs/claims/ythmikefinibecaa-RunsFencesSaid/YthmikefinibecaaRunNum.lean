/-
  The reader of numbers of runs.
-/
import Derived.Test.YthmikefinibecaaRunPlain
import Derived.Test.YthmikefinibecaaButKit
namespace Go.Proofs.Ythmikefinibecaa
open Go Go.RowKit

/-- a reader of the text s at a place -/
def RunOf (b : Nat) (s : ByteArray) (a : Int) (ok : Bool) (w : World) : Prop := w.heap[b]? = some (.cells #[.string s, .int .i64 a, .bool ok] 77 (0, 0))
theorem RunOf.cells {b : Nat} {s : ByteArray} {a : Int} {ok : Bool} {w : World} (h : RunOf b s a ok w) : w.cell? ⟨b, 0, none⟩ = some (.string s) ∧ w.cell? ⟨b, 1, none⟩ = some (.int .i64 a) ∧ w.cell? ⟨b, 2, none⟩ = some (.bool ok) ∧ w.frozen? ⟨b, 1, none⟩ = false ∧ w.frozen? ⟨b, 2, none⟩ = false :=
  ⟨(Lib.cell_of_heap h 0).trans rfl, (Lib.cell_of_heap h 1).trans rfl, (Lib.cell_of_heap h 2).trans rfl, Lib.frozen_of_heap h 1, Lib.frozen_of_heap h 2⟩
theorem RunOf.at {b : Nat} {s : ByteArray} {a a' : Int} {ok : Bool} {w : World} (h : RunOf b s a ok w) : RunOf b s a' ok (w.setCell ⟨b, 1, none⟩ (.int .i64 a')) := by
  unfold RunOf at *
  simp [World.setCell, Array.getElem?_modify, h]
theorem RunOf.off {b : Nat} {s : ByteArray} {a : Int} {ok ok' : Bool} {w : World} (h : RunOf b s a ok w) : RunOf b s a ok' (w.setCell ⟨b, 2, none⟩ (.bool ok')) := by
  unfold RunOf at *
  simp [World.setCell, Array.getElem?_modify, h]
theorem RunOf.frame {b : Nat} {s : ByteArray} {a : Int} {ok : Bool} {w w' : World} (h : RunOf b s a ok w) (hb : w'.heap[b]? = w.heap[b]?) : RunOf b s a ok w' := hb.trans h
theorem RunOf.drewN {b : Nat} {s : ByteArray} {a : Int} {ok : Bool} {w : World} (h : RunOf b s a ok w) (n : Nat) : RunOf b s a ok (w.drewN n) := h
theorem but_drewN (b : Nat) (w : World) (n : Nat) : But b w (w.drewN n) := ⟨rfl, rfl, rfl, rfl, fun _ _ => rfl⟩

set_option maxRecDepth 100000 in
set_option maxHeartbeats 1000000 in
theorem number_any (b : Nat) (s : ByteArray) (a : Int) (ok : Bool) (below : Nat) (w : World) (h : RunOf b s a ok w) (hs : s.size ≤ 1000000) (hb : below ≤ 1099511627776) :
    Calls Try.prog 36 #[.pointer (some ⟨b, 0, none⟩), .int .i64 below] w fun e w' => e = .returned (.int .i64 (numP s.data.toList a ok below).1) ∧ RunOf b s (numP s.data.toList a ok below).2.1 (numP s.data.toList a ok below).2.2 w' ∧ But b w w' := by
  obtain ⟨c0, c1, c2, z1, z2⟩ := h.cells
  have HH := Lib.hid h
  have G := fun w => getUint_any s a w (by omega)
  have hn := getAt_lt s.data.toList a
  unfold numP
  obtain ⟨g, hg⟩ : ∃ g, getAt s.data.toList a = g := ⟨_, rfl⟩
  simp only [hg] at G hn ⊢
  obtain ⟨n, a2, e⟩ := g
  simp only at G hn ⊢
  have hbw : IntKind.u64.wrap (below : Int) = (below : Int) := by rw [IntKind.wrap_u64]; omega
  have HG := Lib.hid (fun w => (G w).mono fun e w' (h : e = _ ∧ w = w') => (⟨h.1, h.2.symm⟩ : e = _ ∧ w' = w))
  clear G h hg
  have hc : ok = false ∨ (ok = true ∧ e ≠ 0) ∨ (ok = true ∧ e = 0 ∧ below ≤ n) ∨ (ok = true ∧ e = 0 ∧ n < below) := by
    cases ok
    · exact .inl rfl
    · right
      by_cases h1 : e = 0
      · right
        by_cases h2 : n < below
        · exact .inr ⟨rfl, h1, h2⟩
        · exact .inl ⟨rfl, h1, by omega⟩
      · exact .inl ⟨rfl, h1⟩
  rcases hc with rfl | ⟨rfl, h1⟩ | ⟨rfl, h1, h2⟩ | ⟨rfl, h1, h2⟩
  · rw [if_neg (by simp)]
    go_enter Try.func36, Try.ntmps36
    go_wp2_with fail
    go_quiet ((go_at_call 47; exact Calls.quiet_of_same (HG.out _)))
    go_wp2_with fail
    go_ret
    exact ⟨rfl, (HH.out.drewN _).off, (but_drewN _ _ _).trans (but_set _ _ _ _)⟩
  · rw [if_neg (by simp [h1])]
    have k1 : ((e : Int) == 0) = false := beq_eq_false_iff_ne.2 (by omega)
    have k2 : ((e : Int) != 0) = true := by rw [bne, k1]; rfl
    clear h1
    go_enter Try.func36, Try.ntmps36
    go_wp2_with fail
    go_quiet ((go_at_call 47; exact Calls.quiet_of_same (HG.out _)))
    go_wp2_with fail
    go_ret
    exact ⟨rfl, (HH.out.drewN _).off, (but_drewN _ _ _).trans (but_set _ _ _ _)⟩
  · rw [if_neg (by omega)]
    subst h1
    have k3 : decide ((below : Int) ≤ (n : Int)) = true := decide_eq_true (by omega)
    have k4 : decide (below ≤ n) = true := decide_eq_true h2
    go_enter Try.func36, Try.ntmps36
    go_wp2_with fail
    go_quiet ((go_at_call 47; exact Calls.quiet_of_same (HG.out _)))
    go_wp2_with fail
    go_ret
    exact ⟨rfl, (HH.out.drewN _).off, (but_drewN _ _ _).trans (but_set _ _ _ _)⟩
  · rw [if_pos ⟨rfl, h1, h2⟩]
    subst h1
    have k3 : decide ((below : Int) ≤ (n : Int)) = false := decide_eq_false (by omega)
    have k4 : decide (below ≤ n) = false := decide_eq_false (by omega)
    have hnw : IntKind.i64.wrap (n : Int) = (n : Int) := by rw [IntKind.wrap_i64]; omega
    go_enter Try.func36, Try.ntmps36
    go_wp2_with fail
    go_quiet ((go_at_call 47; exact Calls.quiet_of_same (HG.out _)))
    go_wp2_with fail
    go_ret
    exact ⟨rfl, (HH.out.drewN _).at, (but_drewN _ _ _).trans (but_set _ _ _ _)⟩
end Go.Proofs.Ythmikefinibecaa
