/-
  The document's Encode.
-/
import Derived.Test.YtbheoahpaidpmaaDoorRManRight
import Derived.Test.YtbheoahpaidpmaaDoorMEncode
import Derived.StillTailTactics
namespace Go.Proofs.YtbheoahpaidpmaaDoor
open Go Go.RowKit

theorem intInf : (Tryd.prog.info? 3).map (fun i => (i.zero, i.size, i.bytes)) = some (some (.int .i64 0), 1, 8) := by kernel_rfl
/-- a new row of ones -/
theorem rd_ints (w : World) (us : List Value) (T : TypeId) : Rd (w.alloc (.cells us.toArray T)) 1 (some ⟨w.heap.size, 0, none⟩) us.length us := by
  have h := heap_alloc_new w (.cells us.toArray T)
  refine ⟨by simp, fun _ => ⟨_, _, rfl, by simp, fun j y hy => ?_⟩⟩
  rw [Lib.cell_of_heap h, Nat.zero_add]
  simpa using hy
/-- where the first loop stands -/
def REncRel (B0 n : Nat) (P : List PartV) (w0 : World) (sv iv : Value) (wr : World) : Prop :=
  ∃ (i : Nat) (A5 : Option Addr) (c5 : Nat), iv = .int .i64 i ∧ sv = .slice A5 (3 * i + 1) c5 ∧ i ≤ n ∧ Lie (fun k => k < B0 + 1) 3 1 (.slice A5 (3 * i + 1) c5) (3 * i + 1) (natC (preL n P i)) wr ∧ Below (B0 + 1) w0 wr

set_option linter.unusedSimpArgs false in
set_option maxRecDepth 100000 in
set_option maxHeartbeats 8000000 in
theorem rencode_any (A : Option Addr) (n c : Nat) (s : St) (w : World) (hr : Rd w 3 A n (s.Parts.flatMap partCells)) (hn : s.Parts.length = n) (hl : n ≤ 100000) (hfl : ∀ p ∈ s.Parts, p.File.length ≤ 1000000) :
    Calls Tryd.prog 21 #[stVal A n c s] w (EncPost s w) := by
  obtain ⟨B0, hB⟩ : ∃ B, w.heap.size = B := ⟨_, rfl⟩
  obtain ⟨P, N, Q, O, D, T, X⟩ := s
  have HRt := fun (w' : World) (h : Below w.heap.size w w') => rright_any A n c ⟨P, N, Q, O, D, T, X⟩ w' (hr.below h) hn (by omega) hfl
  unfold stVal at HRt ⊢
  simp only at hr hn hfl HRt ⊢
  obtain ⟨w0, hw0, hs0, hb0, k0⟩ : ∃ w0, w.alloc (.cells (stC A n c ⟨P, N, Q, O, D, T, X⟩) 31) = w0 ∧ w0.heap.size = B0 + 1 ∧ Below w.heap.size w w0 ∧ w0.heap[B0]? = some (.cells (stC A n c ⟨P, N, Q, O, D, T, X⟩) 31 (0, 0)) :=
    ⟨_, rfl, by simp [hB], Below.one _ _, by rw [← hB]; exact heap_alloc_new _ _⟩
  have HR := Lib.hid hr
  have Hn := Lib.hid hn
  have HFL := Lib.hid hfl
  have HB := Lib.hid hB
  have HC := Lib.hid (HRt w0 hb0)
  have HB00 := Lib.hid hb0
  have K0 := Lib.hid k0
  obtain ⟨a0, a1, a2, a3, a4, a5, a6, -⟩ := seven k0
  clear hr hn hfl hb0 k0 HRt
  go_enter Tryd.func21, Tryd.ntmps21
  go_wp2_with fail
  try simp only [hw0]
  clear hw0
  refine HC.out.mono ?_
  rintro e1 w1 ⟨b, rfl, hbk, hb1⟩
  cases b with
  | false =>
    have HNO := Lib.hid (show ¬ OkSt ⟨P, N, Q, O, D, T, X⟩ from fun h => by have := hbk.2 h; cases this)
    have HB1 := Lib.hid (HB00.out.then hb1)
    clear hbk hb1
    go_wp2_with fail
    go_ret2
    exact ⟨.inr ⟨HNO.out, rfl⟩, HB1.out⟩
  | true =>
    have HOk := Lib.hid (hbk.1 rfl)
    obtain ⟨b2, hb2'⟩ : ∃ b, w1.heap.size = b := ⟨_, rfl⟩
    have hb2 : B0 + 1 ≤ b2 := by have := hb1.size; omega
    obtain ⟨W2, hW2, hbel2, hl2⟩ : ∃ W, w1.alloc (.cells #[.int .i64 n] 3) = W ∧ Below (B0 + 1) w0 W ∧ Lie (fun k => k < B0 + 1) 3 1 (.slice (some ⟨b2, 0, none⟩) 1 1) 1 (natC [n]) W := by
      refine ⟨_, rfl, (hs0 ▸ hb1).trans ((Below.one w1 _).mono (by omega)), ?_⟩
      refine ⟨⟨by simp [natC], .inr ⟨b2, 1, #[.int .i64 n], rfl, Nat.zero_le _, by rw [← hb2']; exact heap_alloc_new _ _, Nat.le_refl _, by decide, by simp, by simp [natC]⟩⟩, fun g hg hk => ?_⟩
      have : b2 = g := by simpa [Value.ownBlock] using hg
      simp only at hk
      omega
    have k2 := (hbel2.block B0 (by omega)).trans K0.out
    clear a0 a1 a2 a3 a4 a5 a6
    have k1 := (hb1.block B0 (by omega)).trans K0.out
    obtain ⟨a0, a1, a2, a3, a4, a5, a6, -⟩ := seven k1
    have H2 := Lib.hid (And.intro hl2 hbel2)
    clear hbk hb1 k1 k2 hbel2 hl2
    go_wp2_with fail
    try simp only [hW2]
    clear hW2 hb2' a0 a1 a2 a3 a4 a5 a6
    go_loopw [4, 5] (fun sv iv wr => REncRel B0 n P w0 sv iv wr) (fun _ iv _ => n - (intOf iv).toNat)
    case atStart => exact ⟨0, _, _, rfl, rfl, Nat.zero_le _, H2.out.1, H2.out.2⟩
    case round =>
      obtain ⟨i, A5, c5, rfl, rfl, hi, hlie, hbel⟩ := hrel
      have hsz : B0 + 1 ≤ wr.heap.size := by have := hbel.size; omega
      have kr := (hbel.block B0 (by omega)).trans K0.out
      have hbel' : Below w.heap.size w wr := HB00.out.then (hs0.symm ▸ hbel)
      obtain ⟨a0, a1, a2, a3, a4, a5, a6, -⟩ := seven kr
      clear kr H2
      by_cases hlt : i < n
      · have hlt' : i < P.length := by have := Hn.out; omega
        have hk1 : (i : Int) < n := by omega
        obtain ⟨gb, off, rfl, hgb, s0, s1, s2⟩ := part_at (HR.out.below hbel') hlt'
        obtain ⟨p, hp⟩ : ∃ p, P[i] = p := ⟨_, rfl⟩
        rw [hp] at s0 s1 s2
        have hgB : gb < B0 := by
          obtain ⟨_, _, e, h, -⟩ := part_at HR.out hlt'
          cases e
          rwa [HB.out] at h
        have hmem : p ∈ P := by rw [← hp]; exact List.getElem_mem hlt'
        obtain ⟨g1, g2, g3, g4, g5, g6, g7⟩ := okst_num (s := ⟨P, N, Q, O, D, T, X⟩) HOk.out hmem
        have hfl : (S p.File).size ≤ 1000000000 := by have := HFL.out p hmem; rw [S_size]; omega
        have hpre : natC (preL n P (i + 1)) = natC (preL n P i) ++ [.int .i64 p.Day, .int .i64 p.Layout, .int .i64 (numF p.File)] := by
          unfold preL
          rw [show P.take (i + 1) = P.take i ++ [P[i]] by rw [List.take_append_getElem], List.flatMap_append, hp]
          unfold natC partN
          simp only [List.flatMap_cons, List.flatMap_nil, List.append_nil, List.map_cons, List.map_append, List.map_nil, List.cons_append, List.nil_append]
          rw [Int.toNat_of_nonneg g1, Int.toNat_of_nonneg g3, Int.toNat_of_nonneg g5]
        obtain ⟨pD, pL, pF⟩ := p
        simp only at s0 s1 s2 hfl hpre
        have HNm := fun w => rnumber_any (S pF) w hfl
        rw [S_toList] at HNm
        have HNum := Lib.hid HNm
        have Hpre := Lib.hid hpre
        have Hl := Lib.hid hlie
        have Hb := Lib.hid hbel
        clear hp hmem g1 g2 g3 g4 g5 g6 g7 hfl hpre hlie hbel hbel' hlt' HNm hgb
        go_wp2_with fail
        refine wp_region_held_drew (S := fun w' => w'.cell? ⟨B0, 0, none⟩ = some (.slice (some ⟨gb, off, none⟩) n c) ∧ w'.cell? ⟨gb, off + i * 3, none⟩ = some (.int .i64 pD) ∧ w'.cell? ⟨gb, off + i * 3 + 1, none⟩ = some (.int .i64 pL) ∧ w'.cell? ⟨gb, off + i * 3 + 2, none⟩ = some (.string (S pF))) (by kernel_rfl) ?_ (fun hHeld => ?_)
        · go_keep
        refine wpAnyH_take (i := 0) (oi := _) (v := ?_) (by simp only [List.getElem?_toArray, List.getElem?_cons_succ, List.getElem?_cons_zero]; rfl) (by kernel_rfl) (by kernel_rfl) (by kernel_rfl) (by exact fun _ _ _ h => h) (Or.inl ⟨by rfl, ?_⟩) (by assumption) ?_
        rotate_left
        · (intro w hSw; (try dsimp only at hSw); go_simp) <;> with_reducible rfl
        try simp only [Act.put, List.setIfInBounds_toArray, List.set_cons_zero, List.set_cons_succ]
        refine wpAnyH_take (i := 1) (oi := _) (v := ?_) (by simp only [List.getElem?_toArray, List.getElem?_cons_succ, List.getElem?_cons_zero]; rfl) (by kernel_rfl) (by kernel_rfl) (by kernel_rfl) (by exact fun _ _ _ h => h) (Or.inl ⟨by rfl, ?_⟩) (by assumption) ?_
        rotate_left
        · (intro w hSw; (try dsimp only at hSw); go_simp) <;> with_reducible rfl
        try simp only [Act.put, List.setIfInBounds_toArray, List.set_cons_zero, List.set_cons_succ]
        refine wpAnyH_take (i := 2) (oi := _) (v := ?_) (by simp only [List.getElem?_toArray, List.getElem?_cons_succ, List.getElem?_cons_zero]; rfl) (by kernel_rfl) (by kernel_rfl) (by kernel_rfl) (by exact fun _ _ _ h => h) (Or.inl ⟨by rfl, ?_⟩) (by assumption) ?_
        rotate_left
        · (intro w hSw; (try dsimp only at hSw); go_simp) <;> with_reducible rfl
        try simp only [Act.put, List.setIfInBounds_toArray, List.set_cons_zero, List.set_cons_succ]
        refine wpAnyH_take (i := 3) (oi := _) (v := ?_) (by simp only [List.getElem?_toArray, List.getElem?_cons_succ, List.getElem?_cons_zero]; rfl) (by kernel_rfl) (by kernel_rfl) (by kernel_rfl) (by exact fun _ _ _ h => h) (Or.inl ⟨by rfl, ?_⟩) (by assumption) ?_
        rotate_left
        · (intro w hSw; (try dsimp only at hSw); go_simp) <;> with_reducible rfl
        try simp only [Act.put, List.setIfInBounds_toArray, List.set_cons_zero, List.set_cons_succ]
        refine wpAnyH_take (i := 4) (oi := _) (v := ?_) (by simp only [List.getElem?_toArray, List.getElem?_cons_succ, List.getElem?_cons_zero]; rfl) (by kernel_rfl) (by kernel_rfl) (by kernel_rfl) (by exact fun _ _ _ h => h) (Or.inl ⟨by rfl, ?_⟩) (by assumption) ?_
        rotate_left
        · (intro w hSw; (try dsimp only at hSw); go_simp) <;> with_reducible rfl
        try simp only [Act.put, List.setIfInBounds_toArray, List.set_cons_zero, List.set_cons_succ]
        refine wpAnyH_take (i := 5) (oi := _) (v := ?_) (by simp only [List.getElem?_toArray, List.getElem?_cons_succ, List.getElem?_cons_zero]; rfl) (by kernel_rfl) (by kernel_rfl) (by kernel_rfl) (by exact fun _ _ _ h => h) (Or.inl ⟨by rfl, ?_⟩) (by assumption) ?_
        rotate_left
        · (intro w hSw; (try dsimp only at hSw); go_simp) <;> with_reducible rfl
        try simp only [Act.put, List.setIfInBounds_toArray, List.set_cons_zero, List.set_cons_succ]
        refine wpAnyH_take (i := 6) (oi := _) (v := ?_) (by simp only [List.getElem?_toArray, List.getElem?_cons_succ, List.getElem?_cons_zero]; rfl) (by kernel_rfl) (by kernel_rfl) (by kernel_rfl) (by exact fun _ _ _ h => h) (Or.inl ⟨by rfl, ?_⟩) (by assumption) ?_
        rotate_left
        · (intro w hSw; (try dsimp only at hSw); go_simp) <;> with_reducible rfl
        try simp only [Act.put, List.setIfInBounds_toArray, List.set_cons_zero, List.set_cons_succ]
        refine wpAnyH_take (i := 7) (oi := _) (v := ?_) (by simp only [List.getElem?_toArray, List.getElem?_cons_succ, List.getElem?_cons_zero]; rfl) (by kernel_rfl) (by kernel_rfl) (by kernel_rfl) (by exact fun _ _ _ h => h) (Or.inl ⟨by rfl, ?_⟩) (by assumption) ?_
        rotate_left
        · (intro w hSw; (try dsimp only at hSw); go_simp) <;> with_reducible rfl
        try simp only [Act.put, List.setIfInBounds_toArray, List.set_cons_zero, List.set_cons_succ]
        refine wpAnyH_take (i := 8) (oi := _) (v := ?_) (by simp only [List.getElem?_toArray, List.getElem?_cons_succ, List.getElem?_cons_zero]; rfl) (by kernel_rfl) (by kernel_rfl) (by kernel_rfl) (by exact fun _ _ _ h => h) (Or.inl ⟨by rfl, ?_⟩) (by assumption) ?_
        rotate_left
        · (intro w hSw; (try dsimp only at hSw); go_simp) <;> with_reducible rfl
        try simp only [Act.put, List.setIfInBounds_toArray, List.set_cons_zero, List.set_cons_succ]
        refine wpAnyH_take (i := 9) (oi := _) (v := ?_) (by simp only [List.getElem?_toArray, List.getElem?_cons_succ, List.getElem?_cons_zero]; rfl) (by kernel_rfl) (by kernel_rfl) (by kernel_rfl) (by exact fun _ _ _ h => h) (Or.inl ⟨by rfl, ?_⟩) (by assumption) ?_
        rotate_left
        · (intro w hSw; (try dsimp only at hSw); go_simp) <;> with_reducible rfl
        try simp only [Act.put, List.setIfInBounds_toArray, List.set_cons_zero, List.set_cons_succ]
        refine wpAnyH_take (i := 10) (oi := _) (v := ?_) (by simp only [List.getElem?_toArray, List.getElem?_cons_succ, List.getElem?_cons_zero]; rfl) (by kernel_rfl) (by kernel_rfl) (by kernel_rfl) (by exact fun _ _ _ h => h) (Or.inl ⟨by rfl, ?_⟩) (by assumption) ?_
        rotate_left
        · (intro w hSw; (try dsimp only at hSw); go_simp) <;> with_reducible rfl
        try simp only [Act.put, List.setIfInBounds_toArray, List.set_cons_zero, List.set_cons_succ]
        refine wpAnyH_take (i := 11) (oi := _) (v := ?_) (by simp only [List.getElem?_toArray, List.getElem?_cons_succ, List.getElem?_cons_zero]; rfl) (by kernel_rfl) (by kernel_rfl) (by kernel_rfl) (by exact fun _ _ _ h => h) (Or.inl ⟨by rfl, ?_⟩) (by assumption) ?_
        rotate_left
        · (intro w hSw; (try dsimp only at hSw); go_simp) <;> with_reducible rfl
        try simp only [Act.put, List.setIfInBounds_toArray, List.set_cons_zero, List.set_cons_succ]
        refine wpAnyH_take (i := 12) (oi := _) (v := ?_) (by simp only [List.getElem?_toArray, List.getElem?_cons_succ, List.getElem?_cons_zero]; rfl) (by kernel_rfl) (by kernel_rfl) (by kernel_rfl) (by exact fun _ _ _ h => h) (Or.inl ⟨by rfl, ?_⟩) (by assumption) ?_
        rotate_left
        · (intro w hSw; (try dsimp only at hSw); go_simp) <;> with_reducible rfl
        try simp only [Act.put, List.setIfInBounds_toArray, List.set_cons_zero, List.set_cons_succ]
        refine wpAnyH_take (i := 13) (oi := _) (v := ?_) (by simp only [List.getElem?_toArray, List.getElem?_cons_succ, List.getElem?_cons_zero]; rfl) (by kernel_rfl) (by kernel_rfl) (by kernel_rfl) (by exact fun _ _ _ h => h) (Or.inl ⟨by rfl, ?_⟩) (by assumption) ?_
        rotate_left
        · (intro w hSw; (try dsimp only at hSw); go_simp) <;> with_reducible rfl
        try simp only [Act.put, List.setIfInBounds_toArray, List.set_cons_zero, List.set_cons_succ]
        refine wpAnyH_take (i := 14) (oi := _) (v := ?_) (by simp only [List.getElem?_toArray, List.getElem?_cons_succ, List.getElem?_cons_zero]; rfl) (by kernel_rfl) (by kernel_rfl) (by kernel_rfl) (by exact fun _ _ _ h => h) (Or.inl ⟨by rfl, ?_⟩) (by assumption) ?_
        rotate_left
        · (intro w hSw; (try dsimp only at hSw); go_simp) <;> with_reducible rfl
        try simp only [Act.put, List.setIfInBounds_toArray, List.set_cons_zero, List.set_cons_succ]
        refine wpAnyH_take (i := 15) (oi := _) (v := ?_) (by simp only [List.getElem?_toArray, List.getElem?_cons_succ, List.getElem?_cons_zero]; rfl) (by kernel_rfl) (by kernel_rfl) (by kernel_rfl) (by exact fun _ _ _ h => h) (Or.inl ⟨by rfl, ?_⟩) (by assumption) ?_
        rotate_left
        · (intro w hSw; (try dsimp only at hSw); go_simp) <;> with_reducible rfl
        try simp only [Act.put, List.setIfInBounds_toArray, List.set_cons_zero, List.set_cons_succ]
        refine wpAnyH_take (i := 16) (oi := _) (v := ?_) (by simp only [List.getElem?_toArray, List.getElem?_cons_succ, List.getElem?_cons_zero]; rfl) (by kernel_rfl) (by kernel_rfl) (by kernel_rfl) (by exact fun _ _ _ h => h) (Or.inl ⟨by rfl, ?_⟩) (by assumption) ?_
        rotate_left
        · (intro w hSw; (try dsimp only at hSw); go_simp) <;> with_reducible rfl
        try simp only [Act.put, List.setIfInBounds_toArray, List.set_cons_zero, List.set_cons_succ]
        refine wpAnyH_take (i := 17) (oi := _) (v := ?_) (by simp only [List.getElem?_toArray, List.getElem?_cons_succ, List.getElem?_cons_zero]; rfl) (by kernel_rfl) (by kernel_rfl) (by kernel_rfl) (by exact fun _ _ _ h => h) (Or.inl ⟨by rfl, ?_⟩) (by assumption) ?_
        rotate_left
        · (intro w hSw; (try dsimp only at hSw); go_simp) <;> with_reducible rfl
        try simp only [Act.put, List.setIfInBounds_toArray, List.set_cons_zero, List.set_cons_succ]
        refine wpAnyH_take (i := 18) (oi := _) (v := ?_) (by simp only [List.getElem?_toArray, List.getElem?_cons_succ, List.getElem?_cons_zero]; rfl) (by kernel_rfl) (by kernel_rfl) (by kernel_rfl) (by exact fun _ _ _ h => h) (Or.inl ⟨by rfl, ?_⟩) (by assumption) ?_
        rotate_left
        · (intro w hSw; (try dsimp only at hSw); go_simp) <;> with_reducible rfl
        try simp only [Act.put, List.setIfInBounds_toArray, List.set_cons_zero, List.set_cons_succ]
        refine wpAnyH_ready (rs := [19]) (by kernel_rfl) (by simp) ?_
        refine (AllReadyH.cons (o := _) (by simp only [List.getElem?_toArray, List.getElem?_cons_succ, List.getElem?_cons_zero]; rfl) (fun K hK => ?_) AllReadyH.nil)
        go_simp
        refine (HNum.out _).mono ?_
        rintro e6 w6 ⟨rfl, rfl⟩
        go_wp2_with fail
        refine hK.out _ _ ?_ (fun hHeld => ?_)
        · exact hHeld
        clear hK K
        try simp only [Act.put, List.setIfInBounds_toArray, List.set_cons_zero, List.set_cons_succ]
        refine wpAnyH_ready (rs := [20]) (by kernel_rfl) (by simp) ?_
        refine (AllReadyH.cons (o := _) (by simp only [List.getElem?_toArray, List.getElem?_cons_succ, List.getElem?_cons_zero]; rfl) (fun K hK => ?_) AllReadyH.nil)
        go_simp
        refine hK.out _ _ ?_ (fun hHeld => ?_)
        · exact ⟨Lib.cell?_alloc_some _ hHeld.1, Lib.cell?_alloc_some _ hHeld.2.1, Lib.cell?_alloc_some _ hHeld.2.2.1, Lib.cell?_alloc_some _ hHeld.2.2.2⟩
        clear hK K
        try simp only [Act.put, List.setIfInBounds_toArray, List.set_cons_zero, List.set_cons_succ]
        refine wpAnyH_ready (rs := [21]) (by kernel_rfl) (by simp) ?_
        refine (AllReadyH.cons (o := _) (by simp only [List.getElem?_toArray, List.getElem?_cons_succ, List.getElem?_cons_zero]; rfl) (fun K hK => ?_) AllReadyH.nil)
        have hob : B0 + 1 ≤ (wr.drew.alloc (.cells #[.int .i64 pD, .int .i64 pL, .int .i64 (numF pF)] 3)).heap.size := by simp; omega
        refine step_append_rd_row rfl (.tmp 22) (.tmp 42) 83 rfl 3 (.int .i64 0) 1 8 Tryd.underlying83 intInf rfl (by decide) (fun k => k < B0 + 1) (3 * i + 1) _ (.slice A5 (3 * i + 1) c5) _ ((Hl.out.below (Below.refl _ wr).drew).below (Below.one _ _)) rfl (fun k hk => Nat.lt_of_lt_of_le hk hob) _ 3 _ [.int .i64 pD, .int .i64 pL, .int .i64 (numF pF)] rfl (rd_ints _ _ _) (by intro u hu; simp at hu; rcases hu with rfl | rfl | rfl <;> rfl) (by unfold maxLen; omega) (by omega) ?_
        intro v8 w8 hown8 hst8 hgr8 hat8
        obtain ⟨A8, c8, rfl⟩ := hown8.form
        have Hl8 := Lib.hid hown8
        have Hb8 := Lib.hid ((Hb.out.trans (((Below.refl wr.heap.size wr).drew.mono (by omega)).trans ((Below.one wr.drew (.cells #[.int .i64 pD, .int .i64 pL, .int .i64 (numF pF)] 3)).mono (by show _ ≤ wr.heap.size; omega)))).trans (hst8.below fun k hk => hk))
        clear hgr8 hat8
        refine hK.out _ _ ?_ (fun hHeld => ?_)
        · exact ⟨(World.cell?_of_block (a := ⟨B0, 0, none⟩) (hst8.block _ (by simp only; omega))).trans hHeld.1, (World.cell?_of_block (a := ⟨gb, off + i * 3, none⟩) (hst8.block _ (by simp only; omega))).trans hHeld.2.1, (World.cell?_of_block (a := ⟨gb, off + i * 3 + 1, none⟩) (hst8.block _ (by simp only; omega))).trans hHeld.2.2.1, (World.cell?_of_block (a := ⟨gb, off + i * 3 + 2, none⟩) (hst8.block _ (by simp only; omega))).trans hHeld.2.2.2⟩
        clear hK K
        try simp only [Act.put, List.setIfInBounds_toArray, List.set_cons_zero, List.set_cons_succ]
        refine wpAnyH_take (i := 22) (oi := _) (v := ?_) (by simp only [List.getElem?_toArray, List.getElem?_cons_succ, List.getElem?_cons_zero]; rfl) (by kernel_rfl) (by kernel_rfl) (by kernel_rfl) (by exact fun _ _ _ h => h) (Or.inl ⟨by rfl, ?_⟩) (by assumption) ?_
        rotate_left
        · (intro w hSw; (try dsimp only at hSw); go_simp) <;> with_reducible rfl
        try simp only [Act.put, List.setIfInBounds_toArray, List.set_cons_zero, List.set_cons_succ]
        refine wpAnyH_done (by kernel_rfl) ?_ _
        go_wp2_with fail
        go_roundw
        case rel => exact ⟨i + 1, A8, c8, by go_num, rfl, by omega, by rw [Hpre.out]; exact Hl8.out, Hb8.out⟩
        case measure => simp [intOf]; omega
      · obtain rfl : i = n := by omega
        have HPre := Lib.hid (show preL i P i = i :: P.flatMap partN by unfold preL; rw [List.take_of_length_le (by rw [Hn.out]; exact Nat.le_refl _)])
        have h1 := HOk.out.n0
        have h3 := HOk.out.p0
        simp only at h1 h3
        have kr := (hbel.block B0 (by omega)).trans K0.out
        cases O with
        | true =>
          have hz : 0 ≤ D ∧ 0 ≤ T ∧ 0 ≤ X := by
            obtain ⟨p, hp, hb, -, h4, h5⟩ := HOk.out.conv rfl
            obtain ⟨hm, hd⟩ := findP_mem hp
            obtain ⟨g1, g2, -⟩ := okst_num HOk.out hm
            unfold bitOk at hb
            simp only at *
            omega
          have hob8 : B0 + 1 ≤ (wr.alloc (.cells #[.int .i64 N, .int .i64 Q] 3)).heap.size := by simp; omega
          have HEL := Lib.hid (show natC (preL i P i) ++ [.int .i64 N, .int .i64 Q] ++ [.int .i64 1, .int .i64 D, .int .i64 T, .int .i64 X] = natC (encL ⟨P, N, Q, true, D, T, X⟩) by
            unfold encL endN
            rw [HPre.out]
            simp [natC, Int.max_eq_left, h1, h3, hz.1, hz.2.1, hz.2.2, Hn.out])
          have HLen := Lib.hid (show (encL ⟨P, N, Q, true, D, T, X⟩).length = 3 * i + 1 + 2 + 4 by
            unfold encL endN
            rw [List.length_cons, List.length_append, partsN_length, Hn.out]
            first | (simp; done) | (simp; omega))
          clear h1 h3 hz
          go_wp2_with (at_builtin; first
            | (refine wpList_append_rd_row rfl (.tmp 44) (.tmp 49) 83 (by rfl) 3 (.int .i64 0) 1 8 Tryd.underlying83 intInf rfl (by decide) (fun k => k < B0 + 1) (3 * i + 1) _ (.slice A5 (3 * i + 1) c5) _ (hlie.below (Below.one _ _)) (by rfl) (fun q hq => Nat.lt_of_lt_of_le hq hob8) _ 2 _ [.int .i64 N, .int .i64 Q] (by rfl) (rd_ints _ _ _) (by intro u hu; simp at hu; rcases hu with rfl | rfl <;> rfl) (by unfold maxLen; omega) (by omega) ?_; intro v8 w8 hown8 hst8 hgr8 hat8; obtain ⟨A8, c8, rfl⟩ := hown8.form; clear hgr8 hat8; have hb8 : Below (B0 + 1) wr w8 := ((Below.one wr (.cells #[.int .i64 N, .int .i64 Q] 3)).mono hsz).trans (hst8.below fun k hk => hk); clear hst8; have hz8 : B0 + 1 ≤ w8.heap.size := Nat.le_trans hsz hb8.size; have k8 := (hb8.block B0 (by omega)).trans kr; clear a0 a1 a2 a3 a4 a5 a6; obtain ⟨a0, a1, a2, a3, a4, a5, a6, -⟩ := seven k8)
            | (refine wpList_append_rd_row rfl (.tmp 53) (.tmp 60) 83 (by rfl) 3 (.int .i64 0) 1 8 Tryd.underlying83 intInf rfl (by decide) (fun k => k < B0 + 1) (3 * i + 1 + 2) _ (.slice A8 (3 * i + 1 + 2) c8) _ (hown8.below (Below.one _ _)) (by rfl) (fun q hq => Nat.lt_of_lt_of_le hq (Nat.le_trans hz8 (Below.one w8 (.cells #[.int .i64 1, .int .i64 D, .int .i64 T, .int .i64 X] 3)).size)) _ 4 _ [.int .i64 1, .int .i64 D, .int .i64 T, .int .i64 X] (by rfl) (rd_ints _ _ _) (by intro u hu; simp at hu; rcases hu with rfl | rfl | rfl | rfl <;> rfl) (by unfold maxLen; omega) (by omega) ?_; intro v9 w9 hown9 hst9 hgr9 hat9; obtain ⟨A9, c9, rfl⟩ := hown9.form; clear hgr9 hat9; have hb9 : Below (B0 + 1) wr w9 := hb8.trans (((Below.one w8 (.cells #[.int .i64 1, .int .i64 D, .int .i64 T, .int .i64 X] 3)).mono hz8).trans (hst9.below fun k hk => hk)); clear hst9))
          rw [HEL.out] at hown9
          obtain ⟨m, hm⟩ : ∃ m, 3 * i + 1 + 2 + 4 = m := ⟨_, rfl⟩
          obtain ⟨LF, hLF⟩ : ∃ LF, encL ⟨P, N, Q, true, D, T, X⟩ = LF := ⟨_, rfl⟩
          rw [hm, hLF] at hown9
          try rw [hm]
          have HEnc := Lib.hid (show LF.flatMap uint = encB ⟨P, N, Q, true, D, T, X⟩ by rw [← hLF]; rfl)
          have Hm := Lib.hid (show LF.length = m by rw [← hLF, HLen.out]; exact hm)
          have HSm := Lib.hid (show ∀ x ∈ LF, x ≤ 1099511627776 by rw [← hLF]; exact encL_small HOk.out (by simp only; have := Hn.out; omega))
          have Hm4 := Lib.hid (show m ≤ 400000 by omega)
          have Hl9 := Lib.hid hown9
          have HB9 := Lib.hid (HB00.out.then (show Below w0.heap.size w0 w9 by rw [hs0]; exact hbel.trans hb9))
          clear hown9 hown8 hb8 hb9 hz8 hm hLF HEL HLen hlie hbel hbel' kr a0 a1 a2 a3 a4 a5 a6 hob8
          go_loopw [6, 7] (fun sv iv wr => ∃ k : Nat, iv = .int .i64 k ∧ sv = .string (S ((LF.take k).flatMap uint)) ∧ k ≤ m ∧ Below w9.heap.size w9 wr) (fun _ iv _ => m - (intOf iv).toNat)
          case atStart => exact ⟨0, rfl, rfl, Nat.zero_le _, Below.refl _ _⟩
          case round =>
            obtain ⟨k, rfl, rfl, hk, hbk⟩ := hrel
            by_cases hkm : k < m
            · have hkm' : k < LF.length := by have := Hm.out; omega
              have hk2 : (k : Int) < m := by omega
              have hm3 : m ≤ 400000 := Hm4.out
              obtain ⟨x, hx⟩ : ∃ x, LF[k] = x := ⟨_, rfl⟩
              have hx63 : x < 9223372036854775808 := by
                have := HSm.out x (by rw [← hx]; exact List.getElem_mem hkm')
                omega
              obtain ⟨g9, o9, e9, hg9, hc9⟩ := (Hl9.out.rd.below hbk).2 (by omega)
              cases e9
              have s0 : wr.cell? ⟨g9, o9 + k, none⟩ = some (.int .i64 x) := hc9 k _ (by simp [natC, hkm', hx])
              have hfl : (LF.take (k + 1)).flatMap uint = (LF.take k).flatMap uint ++ uint x := by
                rw [show LF.take (k + 1) = LF.take k ++ [LF[k]] by rw [List.take_append_getElem], List.flatMap_append, hx]; simp
              have hwm : IntKind.u64.wrap (x : Int) = (x : Int) := IntWalk.u64_in _ (by omega)
              have HU := Lib.hid (fun w => ruint_any x w (by omega))
              have hsz : ((LF.take k).flatMap uint).length + (uint x).length ≤ 8000000 := by
                have h1 := flat_len (LF.take k) fun y hy => by have := HSm.out y (List.mem_of_mem_take hy); omega
                have h2 := uint_len_ten (n := x) (by omega)
                rw [List.length_take] at h1
                omega
              have Hsz := Lib.hid hsz
              have Hfl := Lib.hid hfl
              have Hbk := Lib.hid hbk
              obtain ⟨q, hq⟩ : ∃ q, (LF.take k).flatMap uint = q := ⟨_, rfl⟩
              rw [hq] at Hsz Hfl ⊢
              clear hx hx63 hg9 hc9 hfl hbk hsz hkm' hq
              go_wp2_with fail
              refine (HU.out _).mono ?_
              rintro e7 w7 ⟨rfl, hb7⟩
              have hadd := S_append q (uint x)
              have hsz1 : (S q).size + (S (uint x)).size ≤ 8000000 := by rw [S_size, S_size]; exact Hsz.out
              have Hb7 := Lib.hid (Hbk.out.then hb7)
              clear hb7
              go_wp2_with fail
              go_roundw
              case rel => exact ⟨k + 1, by go_num, by rw [Hfl.out], by omega, Hb7.out⟩
              case measure => simp [intOf]; omega
            · obtain rfl : k = m := by omega
              have HF := Lib.hid (show LF.take k = LF from List.take_of_length_le (by rw [Hm.out]; exact Nat.le_refl _))
              have Hbk := Lib.hid (HB9.out.then hbk)
              clear hbk
              go_wp2_with fail
              go_ret2
              exact ⟨.inl ⟨HOk.out, congrArg (fun z => Ending.returned (Value.tuple #[.string (S z), .int .i64 0])) (by rw [HF.out, HEnc.out])⟩, Hbk.out⟩
        | false =>
          have hob8 : B0 + 1 ≤ (wr.alloc (.cells #[.int .i64 N, .int .i64 Q] 3)).heap.size := by simp; omega
          have HEL := Lib.hid (show natC (preL i P i) ++ [.int .i64 N, .int .i64 Q] ++ [.int .i64 0] = natC (encL ⟨P, N, Q, false, D, T, X⟩) by
            unfold encL endN
            rw [HPre.out]
            simp [natC, Int.max_eq_left, h1, h3, Hn.out])
          have HLen := Lib.hid (show (encL ⟨P, N, Q, false, D, T, X⟩).length = 3 * i + 1 + 2 + 1 by
            unfold encL endN
            rw [List.length_cons, List.length_append, partsN_length, Hn.out]
            first | (simp; done) | (simp; omega))
          clear h1 h3
          go_wp2_with (at_builtin; first
            | (refine wpList_append_rd_row rfl (.tmp 44) (.tmp 49) 83 (by rfl) 3 (.int .i64 0) 1 8 Tryd.underlying83 intInf rfl (by decide) (fun k => k < B0 + 1) (3 * i + 1) _ (.slice A5 (3 * i + 1) c5) _ (hlie.below (Below.one _ _)) (by rfl) (fun q hq => Nat.lt_of_lt_of_le hq hob8) _ 2 _ [.int .i64 N, .int .i64 Q] (by rfl) (rd_ints _ _ _) (by intro u hu; simp at hu; rcases hu with rfl | rfl <;> rfl) (by unfold maxLen; omega) (by omega) ?_; intro v8 w8 hown8 hst8 hgr8 hat8; obtain ⟨A8, c8, rfl⟩ := hown8.form; clear hgr8 hat8; have hb8 : Below (B0 + 1) wr w8 := ((Below.one wr (.cells #[.int .i64 N, .int .i64 Q] 3)).mono hsz).trans (hst8.below fun k hk => hk); clear hst8; have hz8 : B0 + 1 ≤ w8.heap.size := Nat.le_trans hsz hb8.size; have k8 := (hb8.block B0 (by omega)).trans kr; clear a0 a1 a2 a3 a4 a5 a6; obtain ⟨a0, a1, a2, a3, a4, a5, a6, -⟩ := seven k8)
            | (refine wpList_append_rd_row rfl (.tmp 62) (.tmp 63) 83 (by rfl) 3 (.int .i64 0) 1 8 Tryd.underlying83 intInf rfl (by decide) (fun k => k < B0 + 1) (3 * i + 1 + 2) _ (.slice A8 (3 * i + 1 + 2) c8) _ (hown8.below (Below.one _ _)) (by rfl) (fun q hq => Nat.lt_of_lt_of_le hq (Nat.le_trans hz8 (Below.one w8 (.cells #[.int .i64 0] 3)).size)) _ 1 _ [.int .i64 0] (by rfl) (rd_ints _ _ _) (by intro u hu; simp at hu; subst hu; rfl) (by unfold maxLen; omega) (by omega) ?_; intro v9 w9 hown9 hst9 hgr9 hat9; obtain ⟨A9, c9, rfl⟩ := hown9.form; clear hgr9 hat9; have hb9 : Below (B0 + 1) wr w9 := hb8.trans (((Below.one w8 (.cells #[.int .i64 0] 3)).mono hz8).trans (hst9.below fun k hk => hk)); clear hst9))
          rw [HEL.out] at hown9
          obtain ⟨m, hm⟩ : ∃ m, 3 * i + 1 + 2 + 1 = m := ⟨_, rfl⟩
          obtain ⟨LF, hLF⟩ : ∃ LF, encL ⟨P, N, Q, false, D, T, X⟩ = LF := ⟨_, rfl⟩
          rw [hm, hLF] at hown9
          try rw [hm]
          have HEnc := Lib.hid (show LF.flatMap uint = encB ⟨P, N, Q, false, D, T, X⟩ by rw [← hLF]; rfl)
          have Hm := Lib.hid (show LF.length = m by rw [← hLF, HLen.out]; exact hm)
          have HSm := Lib.hid (show ∀ x ∈ LF, x ≤ 1099511627776 by rw [← hLF]; exact encL_small HOk.out (by simp only; have := Hn.out; omega))
          have Hm4 := Lib.hid (show m ≤ 400000 by omega)
          have Hl9 := Lib.hid hown9
          have HB9 := Lib.hid (HB00.out.then (show Below w0.heap.size w0 w9 by rw [hs0]; exact hbel.trans hb9))
          clear hown9 hown8 hb8 hb9 hz8 hm hLF HEL HLen hlie hbel hbel' kr a0 a1 a2 a3 a4 a5 a6 hob8
          go_loopw [6, 7] (fun sv iv wr => ∃ k : Nat, iv = .int .i64 k ∧ sv = .string (S ((LF.take k).flatMap uint)) ∧ k ≤ m ∧ Below w9.heap.size w9 wr) (fun _ iv _ => m - (intOf iv).toNat)
          case atStart => exact ⟨0, rfl, rfl, Nat.zero_le _, Below.refl _ _⟩
          case round =>
            obtain ⟨k, rfl, rfl, hk, hbk⟩ := hrel
            by_cases hkm : k < m
            · have hkm' : k < LF.length := by have := Hm.out; omega
              have hk2 : (k : Int) < m := by omega
              have hm3 : m ≤ 400000 := Hm4.out
              obtain ⟨x, hx⟩ : ∃ x, LF[k] = x := ⟨_, rfl⟩
              have hx63 : x < 9223372036854775808 := by
                have := HSm.out x (by rw [← hx]; exact List.getElem_mem hkm')
                omega
              obtain ⟨g9, o9, e9, hg9, hc9⟩ := (Hl9.out.rd.below hbk).2 (by omega)
              cases e9
              have s0 : wr.cell? ⟨g9, o9 + k, none⟩ = some (.int .i64 x) := hc9 k _ (by simp [natC, hkm', hx])
              have hfl : (LF.take (k + 1)).flatMap uint = (LF.take k).flatMap uint ++ uint x := by
                rw [show LF.take (k + 1) = LF.take k ++ [LF[k]] by rw [List.take_append_getElem], List.flatMap_append, hx]; simp
              have hwm : IntKind.u64.wrap (x : Int) = (x : Int) := IntWalk.u64_in _ (by omega)
              have HU := Lib.hid (fun w => ruint_any x w (by omega))
              have hsz : ((LF.take k).flatMap uint).length + (uint x).length ≤ 8000000 := by
                have h1 := flat_len (LF.take k) fun y hy => by have := HSm.out y (List.mem_of_mem_take hy); omega
                have h2 := uint_len_ten (n := x) (by omega)
                rw [List.length_take] at h1
                omega
              have Hsz := Lib.hid hsz
              have Hfl := Lib.hid hfl
              have Hbk := Lib.hid hbk
              obtain ⟨q, hq⟩ : ∃ q, (LF.take k).flatMap uint = q := ⟨_, rfl⟩
              rw [hq] at Hsz Hfl ⊢
              clear hx hx63 hg9 hc9 hfl hbk hsz hkm' hq
              go_wp2_with fail
              refine (HU.out _).mono ?_
              rintro e7 w7 ⟨rfl, hb7⟩
              have hadd := S_append q (uint x)
              have hsz1 : (S q).size + (S (uint x)).size ≤ 8000000 := by rw [S_size, S_size]; exact Hsz.out
              have Hb7 := Lib.hid (Hbk.out.then hb7)
              clear hb7
              go_wp2_with fail
              go_roundw
              case rel => exact ⟨k + 1, by go_num, by rw [Hfl.out], by omega, Hb7.out⟩
              case measure => simp [intOf]; omega
            · obtain rfl : k = m := by omega
              have HF := Lib.hid (show LF.take k = LF from List.take_of_length_le (by rw [Hm.out]; exact Nat.le_refl _))
              have Hbk := Lib.hid (HB9.out.then hbk)
              clear hbk
              go_wp2_with fail
              go_ret2
              exact ⟨.inl ⟨HOk.out, congrArg (fun z => Ending.returned (Value.tuple #[.string (S z), .int .i64 0])) (by rw [HF.out, HEnc.out])⟩, Hbk.out⟩
end Go.Proofs.YtbheoahpaidpmaaDoor
