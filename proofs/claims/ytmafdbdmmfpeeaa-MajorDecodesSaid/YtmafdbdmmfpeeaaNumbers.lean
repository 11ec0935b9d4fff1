/-
  delta.numbers: the iterator's contract.
-/
import Derived.Test.YtmafdbdmmfpeeaaPackB
import Derived.Test.YtmafdbdmmfpeeaaPackF
import Derived.Test.YtmafdbdmmfpeeaaPackA
import Derived.RangeFuncFrom
import Derived.Shelf.Abstract
import Derived.Shelf.RegionOpen
import Derived.OwnWalkIn
import Derived.TacticsInMore
import Derived.LoopNIn
import Derived.LoopIn
import Derived.Lib.SliceRun
import Derived.Lib.Builder
namespace Go.Proofs.Ytmafdbdmmfpeeaa
open Go Go.RowKit Go.Shelf
attribute [local go_sem] Oper.semAt_some

theorem numbers_any (A : Option Addr) (n c : Nat) (w : World) :
    Calls Try.prog 39 #[.slice A n c] w fun e w' => e = .returned (.func (.func 59) #[] #[.pointer (some ⟨w.heap.size, 0, none⟩)]) ∧ w' = w.alloc (.cells #[.slice A n c] 26) := by
  go_enter Try.func39, Try.ntmps39
  go_wp2_with fail
  go_ret
  exact ⟨rfl, rfl⟩

/-- what a round keeps: what lies below n₀, and the block Bn -/
def KpN (n₀ Bn : Nat) (W W' : World) : Prop := W.heap.size ≤ W'.heap.size ∧ ∀ k, k < n₀ ∨ k = Bn → W'.heap[k]? = W.heap[k]?
theorem KpN.trans {n₀ Bn : Nat} {A B C : World} (h : KpN n₀ Bn A B) (k : KpN n₀ Bn B C) : KpN n₀ Bn A C := ⟨Nat.le_trans h.1 k.1, fun i hi => (k.2 i hi).trans (h.2 i hi)⟩

theorem grown_drewN (w : World) (n : Nat) (row : Option Nat) : w.grownBy (w.drewN n) row := ⟨rfl, rfl, rfl, Nat.le_refl _, fun _ _ _ => rfl⟩

set_option maxRecDepth 100000 in
set_option maxHeartbeats 1000000 in
theorem numbers_stops (n : Nat) (n₀ Bn : Nat) (A : Option Addr) (c : Nat) (l : List Sample) (w : World) (hn : n₀ ≤ w.heap.size) (hBn : Bn < w.heap.size) (hbox : w.cell? ⟨Bn, 0, none⟩ = some (.slice A l.length c))
    (hrd : Rd w 2 A l.length (l.flatMap sampleCells)) (hA : ∀ b off, A = some ⟨b, off, none⟩ → b < n₀) (hf : Fine l) (h1 : 2 ≤ l.length) (hl : l.length ≤ 5000) (hc : l.length ≤ c) (hcm : c ≤ maxLen) :
    SeqStopsK Fence.wide n Try.prog 59 #[.pointer (some ⟨Bn, 0, none⟩)] (fun x : Nat × Nat => #[.int .u64 (x.1 : Int), .int .u64 (x.2 : Int)]) (KpN n₀ Bn)
      (fun xs => xs = nums l) (fun pre => pre <+: nums l) (l.length - 1) w := fun L J Jx W hW hJ hJx hY h0 => by
  refine callsIn_of_wp Try.func59 rfl trivial ?_ rfl
  simp only [Try.ntmps59, List.size_toArray, List.length_cons, List.length_nil, Nat.reduceAdd, Nat.reduceSub, Array.replicate_succ, Array.replicate_zero, List.push_toArray, List.append_toArray, List.nil_append, List.cons_append]
  obtain ⟨b, off, rfl, hb, hcell⟩ := hrd.2 (by omega)
  have hrdW := hrd.below hW
  have hbn := hA b off rfl
  have hboxW : W.cell? ⟨Bn, 0, none⟩ = some (.slice (some ⟨b, off, none⟩) l.length c) := (hW.cell (p := ⟨Bn, 0, none⟩) hBn).trans hbox
  have hc1 : ¬ c = 1 := by omega
  have hsz := hW.size
  have HJ := Lib.hid hJ
  have HJx := Lib.hid hJx
  have HY := Lib.hid hY
  have Hf := Lib.hid hf
  have HA := Lib.hid hA
  have Hcell := Lib.hid hcell
  have Hcm := Lib.hid hcm
  clear hJ hJx hY hf hA hcell hrd hcm
  gi_wp2
  gi_loopw [3, 10] (fun av ix wr => ∃ j : Nat, ix = .int .i64 j ∧ j ≤ l.length - 1 ∧ av = .int .i64 (ahead l j) ∧ J ((nums l).take j) wr ∧ KpN n₀ Bn W wr) (fun _ ix _ => l.length - (intOf ix).toNat)
  case atStart => exact ⟨0, rfl, by omega, rfl, h0, Nat.le_refl _, fun _ _ => rfl⟩
  case round =>
    obtain ⟨j, rfl, hj, rfl, hJj, hK⟩ := hrel
    by_cases hlt : j < l.length - 1
    · have hwr : wr.heap[b]? = W.heap[b]? := hK.2 b (.inl hbn)
      have hwB : wr.heap[Bn]? = W.heap[Bn]? := hK.2 Bn (.inr rfl)
      have hbx := (World.cell?_of_block (a := ⟨Bn, 0, none⟩) hwB).trans hboxW
      obtain ⟨b', off', hA', _, f0, f1⟩ := sample_at hrdW (show j < l.length by omega)
      obtain ⟨rfl, rfl⟩ : b = b' ∧ off = off' := by simpa using hA'
      obtain ⟨b', off', hA'', _, e0, e1⟩ := sample_at hrdW (show j + 1 < l.length by omega)
      obtain ⟨rfl, rfl⟩ : b = b' ∧ off = off' := by simpa using hA''
      have f0' := (World.cell?_of_block (a := ⟨b, off + j * 2, none⟩) hwr).trans f0
      have f1' := (World.cell?_of_block (a := ⟨b, off + j * 2 + 1, none⟩) hwr).trans f1
      have e0' := (World.cell?_of_block (a := ⟨b, off + (j + 1) * 2, none⟩) hwr).trans e0
      have e1' := (World.cell?_of_block (a := ⟨b, off + (j + 1) * 2 + 1, none⟩) hwr).trans e1
      rw [← sAt_get] at f0' f1' e0' e1'
      rw [show off + (j + 1) * 2 = off + 2 + j * 2 by omega] at e0' e1'
      have hd := dist_lt Hf.out (show j + 1 < l.length by omega)
      have ha := ahead_lt Hf.out (show j < l.length by omega)
      have w1 : IntKind.i64.wrap ((sAt l (j + 1)).T - (sAt l j).T) = dist l j := IntWalk.i64_in _ (by have : dist l j = (sAt l (j + 1)).T - (sAt l j).T := rfl; omega)
      obtain ⟨y1, hy1⟩ : ∃ y1, dist l j - ahead l j = y1 := ⟨_, rfl⟩
      have w2 : IntKind.i64.wrap (dist l j - ahead l j) = y1 := (IntWalk.i64_in _ (by omega)).trans hy1
      have w3 : IntKind.i64.wrap ((sAt l (j + 1)).V - (sAt l j).V) = wrapV ((sAt l (j + 1)).V - (sAt l j).V) := rfl
      have hv := wrapV_in ((sAt l (j + 1)).V - (sAt l j).V)
      have F1 := Lib.hid (fun w => (fold_any y1 w (by omega) (by omega)).mono fun e w' (h : e = _ ∧ w = w') => (⟨h.1, h.2.symm⟩ : e = _ ∧ w' = w))
      have F2 := Lib.hid (fun w => (fold_any (wrapV ((sAt l (j + 1)).V - (sAt l j).V)) w hv.1 hv.2).mono fun e w' (h : e = _ ∧ w = w') => (⟨h.1, h.2.symm⟩ : e = _ ∧ w' = w))
      have hnum : numAt l j = (foldN y1, foldN (wrapV ((sAt l (j + 1)).V - (sAt l j).V))) := by rw [← hy1]; rfl
      have hnt := nums_take (show j + 1 < l.length by omega)
      rw [hnum] at hnt
      have hah : ahead l (j + 1) = dist l j := rfl
      have Hah := Lib.hid hah
      have Hnt := Lib.hid hnt
      have HJj := Lib.hid hJj
      have HK := Lib.hid hK
      clear hd ha hv hnum hy1 hah hnt hJj hK hwr hwB hA' hA'' f0 f1 e0 e1
      generalize wrapV ((sAt l (j + 1)).V - (sAt l j).V) = y2 at *
      generalize (sAt l (j + 1)).T = t1 at *
      generalize (sAt l (j + 1)).V = v1 at *
      generalize (sAt l j).T = t0 at *
      generalize (sAt l j).V = v0 at *
      generalize dist l j = d at *
      obtain ⟨W1, hW1, g0, g1, g2, g3, gb, gx, gy, hJ1, hK1⟩ : ∃ W1, wr.alloc (.cells #[.int .i64 t1, .int .i64 v1] 60) = W1 ∧ W1.cell? ⟨b, off + j * 2, none⟩ = some (.int .i64 t0) ∧ W1.cell? ⟨b, off + j * 2 + 1, none⟩ = some (.int .i64 v0)
          ∧ W1.cell? ⟨b, off + 2 + j * 2, none⟩ = some (.int .i64 t1) ∧ W1.cell? ⟨b, off + 2 + j * 2 + 1, none⟩ = some (.int .i64 v1) ∧ W1.cell? ⟨Bn, 0, none⟩ = some (.slice (some ⟨b, off, none⟩) l.length c)
          ∧ W1.cell? ⟨wr.heap.size, 0, none⟩ = some (.int .i64 t1) ∧ W1.cell? ⟨wr.heap.size, 1, none⟩ = some (.int .i64 v1) ∧ Hid (J ((nums l).take j) W1) ∧ Hid (KpN n₀ Bn W W1) :=
        ⟨_, rfl, Lib.cell?_alloc_some _ f0', Lib.cell?_alloc_some _ f1', Lib.cell?_alloc_some _ e0', Lib.cell?_alloc_some _ e1', Lib.cell?_alloc_some _ hbx, by simp, by simp, Lib.hid (HJ.out _ _ _ none HJj.out (World.grownBy_alloc wr _ none) (fun r e => by cases e)),
          Lib.hid (HK.out.trans ⟨by simp, fun k hk => Lib.alloc_old wr _ k (by
            have := HK.out.1
            rcases hk with hk | rfl
            · omega
            · omega)⟩)⟩
      gi_wp2
      generalize wr.heap.size = B1 at *
      clear hW1 hbx f0' f1' e0' e1'
      refine wpIn_wide.2 ?_
      go_quiet (fail)
      gi_wp2
      have hmix : (Try.prog).follows .mixedOrders = true := by kernel_rfl
      have hJ2 : Hid (∀ k, J ((nums l).take j) (W1.drewN k)) := Lib.hid fun k => HJ.out _ _ _ none hJ1.out (grown_drewN _ _ _) (fun r e => by cases e)
      have hK2 : Hid (∀ k, KpN n₀ Bn W (W1.drewN k)) := Lib.hid fun k => hK1.out.trans ⟨Nat.le_refl _, fun _ _ => rfl⟩
      refine region_still_tail_in free_wide 14 hmix (noDefer_of (by kernel_rfl)) (by kernel_rfl) ?_
      simp only [List.take_succ_cons, List.take_zero, List.drop_succ_cons, List.drop_zero]
      have hjl : j < l.length := by omega
      iterate 4 still_step
      still_call F1.out _
      iterate 8 still_step
      still_call F2.out _
      refine wpStill_nil ?_
      obtain ⟨fn, tmps, assign, body, hy, hR⟩ := HY.out ((nums l).take j) (foldN y1, foldN y2) (W1.drewN (nq + 1)) (hJ2.out _) (by rw [List.length_take, nums_length]; omega)
      rw [← Hnt.out] at hR
      dsimp only at hy
      gi_wp2
      refine ⟨fun e => (by cases e), hR.mono ?_⟩
      rintro e W3 (⟨rfl, hJ3, hk3⟩ | ⟨rfl, hJx3⟩)
      · have HJ3 := Lib.hid hJ3
        have Hk3 := Lib.hid hk3
        clear hJ3 hk3 hR hy
        gi_wp2
        refine ⟨⟨j + 1, rfl, by omega, by rw [Hah.out], HJ3.out, ((hK2.out _).trans Hk3.out)⟩, ?_⟩
        simp [intOf]
        omega
      · have HJx3 := Lib.hid hJx3
        clear hJx3 hR hy
        gi_wp2
        refine bodyPost_ret (results_none rfl _ _ _) rfl ?_
        exact ⟨⟨_, rfl⟩, .inr ⟨_, List.take_prefix _ _, HJx3.out⟩⟩
    · obtain rfl : j = l.length - 1 := by omega
      have HJj := Lib.hid hJj
      clear hJj
      gi_wp2
      go_end0
      have e : (nums l).take (l.length - 1) = nums l := List.take_of_length_le (by rw [nums_length]; exact Nat.le_refl _)
      rw [e] at HJj
      exact ⟨⟨_, rfl⟩, .inl ⟨_, rfl, HJj.out⟩⟩
end Go.Proofs.Ytmafdbdmmfpeeaa
