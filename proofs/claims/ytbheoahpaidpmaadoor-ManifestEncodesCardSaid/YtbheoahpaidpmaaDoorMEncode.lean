/-
  manifest.Encode.
-/
import Derived.Test.YtbheoahpaidpmaaDoorMRight
import Derived.Test.YtbheoahpaidpmaaDoorManPut
import Derived.Test.YtbheoahpaidpmaaDoorManEncP
import Derived.StillTailTactics
namespace Go.Proofs.YtbheoahpaidpmaaDoor
open Go Go.RowKit

theorem partsN_length : ∀ l : List PartV, (l.flatMap partN).length = 3 * l.length
  | [] => rfl
  | p :: l => by rw [List.flatMap_cons, List.length_append, partN_length, partsN_length l, List.length_cons]; omega
/-- the numbers of the first parts -/
def preL (n : Nat) (P : List PartV) (i : Nat) : List Nat := n :: (P.take i).flatMap partN
theorem pre_short {P : List PartV} {N Q : Int} {O : Bool} {D T X : Int} (h : OkSt ⟨P, N, Q, O, D, T, X⟩) {n i : Nat} (hn : P.length = n) (hl : n ≤ 100000) (hi : i ≤ n) : ((preL n P i).flatMap uint).length ≤ 10000000 := by
  have h1 : ∀ x ∈ preL n P i, x < 18446744073709551616 := by
    intro x hx
    unfold preL at hx
    rw [List.mem_cons, List.mem_flatMap] at hx
    rcases hx with rfl | ⟨p, hp, hx⟩
    · omega
    · obtain ⟨h1, h2, h3, h4, h5, h6, -⟩ := okst_num h (List.mem_of_mem_take hp)
      simp only [partN, List.mem_cons, List.not_mem_nil, or_false] at hx
      rcases hx with rfl | rfl | rfl <;> omega
  have h2 := flat_len _ h1
  have h3 : (preL n P i).length = 3 * i + 1 := by
    unfold preL
    rw [List.length_cons, partsN_length, List.length_take]
    omega
  omega

theorem pre_len {P : List PartV} {N Q : Int} {O : Bool} {D T X : Int} (h : OkSt ⟨P, N, Q, O, D, T, X⟩) {n i : Nat} (hn : P.length = n) (hl : n ≤ 100000) (hi : i ≤ n) : ((preL n P i).flatMap uint).length ≤ 100000000 := Nat.le_trans (pre_short h hn hl hi) (by decide)
/-- where the loop stands -/
def EncRel (B0 b4 n : Nat) (P : List PartV) (W4 : World) (iv : Value) (wr : World) : Prop :=
  ∃ i : Nat, iv = .int .i64 i ∧ i ≤ n ∧ BldAt B0 b4 ((preL n P i).flatMap uint) wr ∧ Kp B0 b4 W4 wr
set_option linter.unusedSimpArgs false in
set_option maxRecDepth 100000 in
set_option maxHeartbeats 8000000 in
theorem mencode_any (A : Option Addr) (n c : Nat) (s : St) (w : World) (hr : Rd w 3 A n (s.Parts.flatMap partCells)) (hn : s.Parts.length = n) (hl : n ≤ 100000) (hfl : ∀ p ∈ s.Parts, p.File.length ≤ 1000000) (hp : Pow w) (he : Errs w) :
    Calls Tryd.prog 20 #[stVal A n c s] w (EncPost s w) := by
  obtain ⟨B0, hB⟩ : ∃ B, w.heap.size = B := ⟨_, rfl⟩
  obtain ⟨P, N, Q, O, D, T, X⟩ := s
  have HRt := fun (w' : World) (h : Below w.heap.size w w') => mright_any A n c ⟨P, N, Q, O, D, T, X⟩ w' (hr.below h) hn (by omega) hfl (hp.below h) (he.below h)
  unfold stVal at HRt ⊢
  simp only at hr hn hfl HRt ⊢
  obtain ⟨w0, hw0, hs0, hb0, k0⟩ : ∃ w0, w.alloc (.cells (stC A n c ⟨P, N, Q, O, D, T, X⟩) 25) = w0 ∧ w0.heap.size = B0 + 1 ∧ Below w.heap.size w w0 ∧ w0.heap[B0]? = some (.cells (stC A n c ⟨P, N, Q, O, D, T, X⟩) 25 (0, 0)) :=
    ⟨_, rfl, by simp [hB], Below.one _ _, by rw [← hB]; exact heap_alloc_new _ _⟩
  have HR := Lib.hid hr
  have Hn := Lib.hid hn
  have HFL := Lib.hid hfl
  have HB := Lib.hid hB
  have HPo := Lib.hid hp
  have HEr := Lib.hid he
  have HC := Lib.hid (HRt w0 hb0)
  have HB00 := Lib.hid hb0
  have K0 := Lib.hid k0
  obtain ⟨a0, a1, a2, a3, a4, a5, a6, -⟩ := seven k0
  have hmf : ∀ (fn : Fn) (first cap : Array Value) (w : World), (Instr.makeFunc fn first cap).run Tryd.prog w = .ok (.func fn first cap) w := fun _ _ _ _ => rfl
  clear hr hn hfl hb0 k0 hp he HRt
  go_enter Tryd.func20, Tryd.ntmps20
  go_wp2_with fail
  try simp only [hw0]
  clear hw0
  refine HC.out.mono ?_
  rintro e1 w1 ⟨b, rfl, hbk, hb1⟩
  cases b with
  | false =>
    have HNO := Lib.hid (show ¬ OkSt ⟨P, N, Q, O, D, T, X⟩ from fun h => by have := hbk.2 h; cases this)
    have HB1 := Lib.hid (HB00.out.then hb1)
    clear hbk hb1
    go_wp2_with fail
    go_ret2
    exact ⟨.inr ⟨HNO.out, rfl⟩, HB1.out⟩
  | true =>
    have HOk := Lib.hid (hbk.1 rfl)
    have k1 := (hb1.block B0 (by omega)).trans K0.out
    obtain ⟨b4, hb4'⟩ : ∃ b, w1.heap.size = b := ⟨_, rfl⟩
    have hb4 : B0 < b4 := by have := hb1.size; omega
    obtain ⟨W4, hW4, hb14, hbl4⟩ : ∃ W, w1.alloc (.cells #[.pointer none, .slice none 0 0] 82) = W ∧ Below w1.heap.size w1 W ∧ BldAt B0 b4 [] W := ⟨_, rfl, Below.one _ _, by rw [← hb4']; exact BldAt.new w1 B0 (by omega)⟩
    have hs4 : W4.heap.size = b4 + 1 := by rw [← hW4, ← hb4']; simp
    have k4 := (hb14.block B0 (by omega)).trans k1
    have HBW4 := Lib.hid (show Below B0 w W4 by have := HB00.out.then (hb1.then hb14); rw [HB.out] at this; exact this)
    have HB4 := Lib.hid (show B0 ≤ b4 by omega)
    have HB4s := Lib.hid (show b4 < W4.heap.size by omega)
    have HNE0 := Lib.hid (show B0 ≠ b4 by omega)
    have K4 := Lib.hid k4
    have HBl4 := Lib.hid hbl4
    obtain ⟨b5, hb5'⟩ : ∃ b, W4.heap.size = b := ⟨_, rfl⟩
    obtain ⟨W5, hW5, hb45, q5⟩ : ∃ W, W4.alloc (.cells #[.int .i64 n] 3) = W ∧ Below W4.heap.size W4 W ∧ W.heap[b5]? = some (.cells #[.int .i64 n] 3 (0, 0)) := ⟨_, rfl, Below.one _ _, by rw [← hb5']; exact heap_alloc_new _ _⟩
    have HC5 := Lib.hid (put_any B0 b4 b5 1 [] [n] W5 (hbl4.below hb45) (by have := hb45.size; omega) (by exact q5) (by intro x hx; simp at hx; omega) (by simp) (by simp))
    have H45 := Lib.hid hb45
    clear a0 a1 a2 a3 a4 a5 a6
    obtain ⟨a0, a1, a2, a3, a4, a5, a6, -⟩ := seven k4
    clear hbk hb1 k1 hb14 hbl4 k4 hb45 q5 hs4
    go_wp2_with fail
    try simp only [hW4, hW5]
    clear hW4 hW5 hb5' hb4'
    refine HC5.out.mono ?_
    rintro e6 w6 ⟨⟨v6, rfl⟩, hbl6, hk6⟩
    have HBl6 := Lib.hid (show BldAt B0 b4 ((preL n P 0).flatMap uint) w6 by simpa [preL] using hbl6)
    have HK6 := Lib.hid ((Kp.below H45.out).trans hk6)
    clear hbl6 hk6
    have k6 := HK6.out.cells K4.out (by decide) HNE0.out
    clear a0 a1 a2 a3 a4 a5 a6
    obtain ⟨a0, a1, a2, a3, a4, a5, a6, -⟩ := seven k6
    clear k6
    go_wp2_with fail
    clear a0 a1 a2 a3 a4 a5 a6
    go_loopw [21] (fun iv wr => EncRel B0 b4 n P W4 iv wr) (fun iv _ => n - (intOf iv).toNat)
    case atStart => exact ⟨0, rfl, Nat.zero_le _, HBl6.out, HK6.out⟩
    case round =>
      obtain ⟨i, rfl, hi, hbl, hk⟩ := hrel
      have kr := hk.cells K4.out (by decide) HNE0.out
      obtain ⟨a0, a1, a2, a3, a4, a5, a6, -⟩ := seven kr
      by_cases hlt : i < n
      · have hlt' : i < P.length := by have := Hn.out; omega
        have hk1 : (i : Int) < n := by omega
        have hbw := hk.to HB4.out HBW4.out (by have := HBW4.out.size; have := HB4.out; have := HB4s.out; omega)
        obtain ⟨gb, off, rfl, hgb, s0, s1, s2⟩ := part_at (HR.out.below (by rw [HB.out]; exact hbw)) hlt'
        obtain ⟨p, hp⟩ : ∃ p, P[i] = p := ⟨_, rfl⟩
        rw [hp] at s0 s1 s2
        have hmem : p ∈ P := by rw [← hp]; exact List.getElem_mem hlt'
        obtain ⟨g1, g2, g3, g4, g5, g6, g7⟩ := okst_num (s := ⟨P, N, Q, O, D, T, X⟩) HOk.out hmem
        have hfl : p.File.length ≤ 1000000000 := by have := HFL.out p hmem; omega
        have hpre : preL n P (i + 1) = preL n P i ++ partN p := by
          unfold preL
          rw [show P.take (i + 1) = P.take i ++ [P[i]] by rw [List.take_append_getElem], List.flatMap_append, hp]
          simp
        obtain ⟨pD, pL, pF⟩ := p
        simp only at s0 s1 s2 g1 g2 g3 g4 g5 g6 hfl
        obtain ⟨b7, hb7'⟩ : ∃ b, wr.heap.size = b := ⟨_, rfl⟩
        obtain ⟨W7, hW7, hb7, q7⟩ : ∃ W, wr.alloc (.cells #[.int .i64 pD, .int .i64 pL, .string (S pF)] 40) = W ∧ Below wr.heap.size wr W ∧ W.heap[b7]? = some (.cells #[.int .i64 pD, .int .i64 pL, .string (S pF)] 40 (0, 0)) := ⟨_, rfl, Below.one _ _, by rw [← hb7']; exact heap_alloc_new _ _⟩
        have hb4w : b4 < wr.heap.size := by have := hk.size; have := HB4s.out; omega
        have HNE := Lib.hid (show b7 ≠ b4 by omega)
        have HBW7 := Lib.hid (hbw.trans (hb7.mono (by have := hbw.size; have := HBW4.out.size; have := HB4.out; omega)))
        have HBl7 := Lib.hid (hbl.below hb7)
        have Hk7 := Lib.hid (hk.trans (Kp.below hb7))
        have Q7 := Lib.hid q7
        have Hfl := Lib.hid hfl
        have HNat := Lib.hid (show (natC (partN ⟨pD, pL, pF⟩)).toArray = #[.int .i64 pD, .int .i64 pL, .int .i64 (numF pF)] by
          unfold natC partN
          simp only [List.map_cons, List.map_nil]
          rw [Int.toNat_of_nonneg g1, Int.toNat_of_nonneg g3, Int.toNat_of_nonneg g5])
        have HSm := Lib.hid (show ∀ x ∈ partN ⟨pD, pL, pF⟩, x < 9223372036854775808 by
          intro x hx
          simp only [partN, List.mem_cons, List.not_mem_nil, or_false] at hx
          rcases hx with rfl | rfl | rfl <;> omega)
        have Hlen := Lib.hid (show ((preL n P i).flatMap uint).length ≤ 100000000 from pre_len HOk.out Hn.out (by omega) hi)
        have Hpre := Lib.hid hpre
        clear hp hmem g1 g2 g3 g4 g5 g6 g7 hfl hpre hbl hk hbw hb7 q7 hb4w hlt'
        go_wp2_with fail
        try simp only [hW7]
        clear hW7 s0 s1 s2 hgb
        refine wp_region_held_drew (S := fun w' => Kp B0 b4 W7 w') (by kernel_rfl) ?_ (fun hHeld => ?_)
        · exact Kp.below (Below.refl _ _).drew
        refine wpAnyH_take (i := 0) (oi := _) (v := ?_) (by simp only [List.getElem?_toArray, List.getElem?_cons_succ, List.getElem?_cons_zero]; rfl) (by kernel_rfl) (by kernel_rfl) (by kernel_rfl) (by exact fun _ _ _ h => h) (Or.inl ⟨by rfl, ?_⟩) (by assumption) ?_
        rotate_left
        · (intro w' hSw; have qSw := hSw.cells Q7.out (by decide) HNE.out; obtain ⟨y0, y1, y2, -⟩ := three qSw; clear qSw; go_simp) <;> with_reducible rfl
        try simp only [Act.put, List.setIfInBounds_toArray, List.set_cons_zero, List.set_cons_succ]
        refine wpAnyH_take (i := 1) (oi := _) (v := ?_) (by simp only [List.getElem?_toArray, List.getElem?_cons_succ, List.getElem?_cons_zero]; rfl) (by kernel_rfl) (by kernel_rfl) (by kernel_rfl) (by exact fun _ _ _ h => h) (Or.inl ⟨by rfl, ?_⟩) (by assumption) ?_
        rotate_left
        · (intro w' hSw; have qSw := hSw.cells Q7.out (by decide) HNE.out; obtain ⟨y0, y1, y2, -⟩ := three qSw; clear qSw; go_simp) <;> with_reducible rfl
        try simp only [Act.put, List.setIfInBounds_toArray, List.set_cons_zero, List.set_cons_succ]
        refine wpAnyH_take (i := 2) (oi := _) (v := ?_) (by simp only [List.getElem?_toArray, List.getElem?_cons_succ, List.getElem?_cons_zero]; rfl) (by kernel_rfl) (by kernel_rfl) (by kernel_rfl) (by exact fun _ _ _ h => h) (Or.inl ⟨by rfl, ?_⟩) (by assumption) ?_
        rotate_left
        · (intro w' hSw; have qSw := hSw.cells Q7.out (by decide) HNE.out; obtain ⟨y0, y1, y2, -⟩ := three qSw; clear qSw; go_simp) <;> with_reducible rfl
        try simp only [Act.put, List.setIfInBounds_toArray, List.set_cons_zero, List.set_cons_succ]
        refine wpAnyH_take (i := 3) (oi := _) (v := ?_) (by simp only [List.getElem?_toArray, List.getElem?_cons_succ, List.getElem?_cons_zero]; rfl) (by kernel_rfl) (by kernel_rfl) (by kernel_rfl) (by exact fun _ _ _ h => h) (Or.inl ⟨by rfl, ?_⟩) (by assumption) ?_
        rotate_left
        · (intro w' hSw; have qSw := hSw.cells Q7.out (by decide) HNE.out; obtain ⟨y0, y1, y2, -⟩ := three qSw; clear qSw; go_simp) <;> with_reducible rfl
        try simp only [Act.put, List.setIfInBounds_toArray, List.set_cons_zero, List.set_cons_succ]
        refine wpAnyH_take (i := 4) (oi := _) (v := ?_) (by simp only [List.getElem?_toArray, List.getElem?_cons_succ, List.getElem?_cons_zero]; rfl) (by kernel_rfl) (by kernel_rfl) (by kernel_rfl) (by exact fun _ _ _ h => h) (Or.inl ⟨by rfl, ?_⟩) (by assumption) ?_
        rotate_left
        · (intro w' hSw; have qSw := hSw.cells Q7.out (by decide) HNE.out; obtain ⟨y0, y1, y2, -⟩ := three qSw; clear qSw; go_simp) <;> with_reducible rfl
        try simp only [Act.put, List.setIfInBounds_toArray, List.set_cons_zero, List.set_cons_succ]
        refine wpAnyH_take (i := 5) (oi := _) (v := ?_) (by simp only [List.getElem?_toArray, List.getElem?_cons_succ, List.getElem?_cons_zero]; rfl) (by kernel_rfl) (by kernel_rfl) (by kernel_rfl) (by exact fun _ _ _ h => h) (Or.inl ⟨by rfl, ?_⟩) (by assumption) ?_
        rotate_left
        · (intro w' hSw; have qSw := hSw.cells Q7.out (by decide) HNE.out; obtain ⟨y0, y1, y2, -⟩ := three qSw; clear qSw; go_simp) <;> with_reducible rfl
        try simp only [Act.put, List.setIfInBounds_toArray, List.set_cons_zero, List.set_cons_succ]
        refine wpAnyH_take (i := 6) (oi := _) (v := ?_) (by simp only [List.getElem?_toArray, List.getElem?_cons_succ, List.getElem?_cons_zero]; rfl) (by kernel_rfl) (by kernel_rfl) (by kernel_rfl) (by exact fun _ _ _ h => h) (Or.inl ⟨by rfl, ?_⟩) (by assumption) ?_
        rotate_left
        · (intro w' hSw; have qSw := hSw.cells Q7.out (by decide) HNE.out; obtain ⟨y0, y1, y2, -⟩ := three qSw; clear qSw; go_simp) <;> with_reducible rfl
        try simp only [Act.put, List.setIfInBounds_toArray, List.set_cons_zero, List.set_cons_succ]
        refine wpAnyH_ready (rs := [7]) (by kernel_rfl) (by simp) ?_
        refine (AllReadyH.cons (o := _) (by simp only [List.getElem?_toArray, List.getElem?_cons_succ, List.getElem?_cons_zero]; rfl) (fun K hK => ?_) AllReadyH.nil)
        go_simp
        have hbw := hHeld.to HB4.out HBW7.out (by have := HBW7.out.size; have := HB4.out; omega)
        refine (mnumber_any pF _ Hfl.out (HPo.out.below (by rw [HB.out]; exact hbw)) (HEr.out.below (by rw [HB.out]; exact hbw))).mono ?_
        rintro e8 w8 ⟨rfl, hb8⟩
        go_wp2_with fail
        refine hK.out _ _ ?_ (fun hHeld => ?_)
        · exact hHeld.trans (Kp.below hb8)
        clear hK K
        try simp only [Act.put, List.setIfInBounds_toArray, List.set_cons_zero, List.set_cons_succ]
        obtain ⟨b9, hb9⟩ : ∃ b, w8.heap.size = b := ⟨_, rfl⟩
        obtain ⟨W9, hW9, hb89, q9⟩ : ∃ W, w8.alloc (.cells #[.int .i64 pD, .int .i64 pL, .int .i64 (numF pF)] 3) = W ∧ Below w8.heap.size w8 W ∧ W.heap[b9]? = some (.cells #[.int .i64 pD, .int .i64 pL, .int .i64 (numF pF)] 3 (0, 0)) := ⟨_, rfl, Below.one _ _, by rw [← hb9]; exact heap_alloc_new _ _⟩
        refine wpAnyH_ready (rs := [8]) (by kernel_rfl) (by simp) ?_
        refine (AllReadyH.cons (o := _) (by simp only [List.getElem?_toArray, List.getElem?_cons_succ, List.getElem?_cons_zero]; rfl) (fun K hK => ?_) AllReadyH.nil)
        go_simp
        refine hK.out _ _ ?_ (fun hHeld => ?_)
        · exact hHeld.trans (Kp.below hb89)
        clear hK K
        try simp only [Act.put, List.setIfInBounds_toArray, List.set_cons_zero, List.set_cons_succ]
        refine wpAnyH_ready (rs := [9]) (by kernel_rfl) (by simp) ?_
        refine (AllReadyH.cons (o := _) (by simp only [List.getElem?_toArray, List.getElem?_cons_succ, List.getElem?_cons_zero]; rfl) (fun K hK => ?_) AllReadyH.nil)
        go_simp
        have hbl9 := (HBl7.out.below ((Below.refl _ _).drew : Below W7.heap.size W7 W7.drew)).below hb8
        refine (put_any B0 b4 b9 3 _ (partN ⟨pD, pL, pF⟩) W9 (hbl9.below hb89) (by have := hHeld.size; have := HBW7.out.size; have := HB4.out; omega) (by rw [HNat.out]; exact q9) HSm.out (by rw [partN_length]; omega) Hlen.out).mono ?_
        rintro e10 w10 ⟨⟨v10, rfl⟩, hb10, hk10⟩
        go_wp2_with fail
        refine hK.out _ _ ?_ (fun hHeld => ?_)
        · exact hHeld.trans hk10
        clear hK K
        try simp only [Act.put, List.setIfInBounds_toArray, List.set_cons_zero, List.set_cons_succ]
        refine wpAnyH_done (by kernel_rfl) ?_ _
        go_wp2_with fail
        go_roundw
        case rel => exact ⟨i + 1, by go_num, by omega, by rw [Hpre.out, List.flatMap_append]; exact hb10, Hk7.out.trans hHeld⟩
        case measure => simp [intOf]; omega
      · obtain rfl : i = n := by omega
        have HPre := Lib.hid (show preL i P i = i :: P.flatMap partN by unfold preL; rw [List.take_of_length_le (by rw [Hn.out]; exact Nat.le_refl _)])
        have h1 := HOk.out.n0
        have h2 := HOk.out.n1
        have h3 := HOk.out.p0
        have h4 := HOk.out.p1
        simp only at h1 h2 h3 h4
        obtain ⟨b10, hb10'⟩ : ∃ b, wr.heap.size = b := ⟨_, rfl⟩
        obtain ⟨W10, hW10, hb10, q10⟩ : ∃ W, wr.alloc (.cells #[.int .i64 N, .int .i64 Q] 3) = W ∧ Below wr.heap.size wr W ∧ W.heap[b10]? = some (.cells #[.int .i64 N, .int .i64 Q] 3 (0, 0)) := ⟨_, rfl, Below.one _ _, by rw [← hb10']; exact heap_alloc_new _ _⟩
        have hplen := pre_len HOk.out Hn.out (by omega) (Nat.le_refl i)
        have HC10 := Lib.hid (put_any B0 b4 b10 2 _ [N.toNat, Q.toNat] W10 (hbl.below hb10) (by have := hk.size; have := HBW4.out.size; have := hb10.size; have := HB4.out; have := HB4s.out; omega)
          (by rw [show (natC [N.toNat, Q.toNat]).toArray = #[.int .i64 N, .int .i64 Q] from by simp only [natC, List.map_cons, List.map_nil]; rw [Int.toNat_of_nonneg h1, Int.toNat_of_nonneg h3]]; exact q10) (by intro x hx; simp only [List.mem_cons, List.not_mem_nil, or_false] at hx; rcases hx with rfl | rfl <;> omega) (by simp) (by omega))
        have HKr := Lib.hid (hk.trans (Kp.below hb10))
        have Hlen12 := Lib.hid (show ((preL i P i).flatMap uint ++ [N.toNat, Q.toNat].flatMap uint).length ≤ 100000000 by
          have g1 := pre_short HOk.out Hn.out (by omega) (Nat.le_refl i)
          have g2 := flat_len [N.toNat, Q.toNat] (by intro x hx; simp only [List.mem_cons, List.not_mem_nil, or_false] at hx; rcases hx with rfl | rfl <;> omega)
          rw [List.length_append]
          simp only [List.length_cons, List.length_nil] at g2
          omega)
        clear h1 h2 h3 h4 hbl hk hb10 q10 kr hplen
        go_wp2_with fail
        try simp only [hW10]
        clear hW10 hb10' a0 a1 a2 a3 a4 a5 a6
        refine HC10.out.mono ?_
        rintro e11 w11 ⟨⟨v11, rfl⟩, hbl11, hk11⟩
        have HBl11 := Lib.hid hbl11
        have HK11 := Lib.hid (HKr.out.trans hk11)
        have k11 := HK11.out.cells K4.out (by decide) HNE0.out
        obtain ⟨a0, a1, a2, a3, a4, a5, a6, -⟩ := seven k11
        clear hbl11 hk11 k11
        cases O with
        | true =>
          obtain ⟨hz1, hz2, hz3⟩ : 0 ≤ D ∧ 0 ≤ T ∧ 0 ≤ X ∧ D < 17179869184 ∧ T ≤ 1 ∧ X ≤ 5000 := by
            obtain ⟨p, hp, hb, -, h4, h5⟩ := HOk.out.conv rfl
            obtain ⟨hm, hd⟩ := findP_mem hp
            obtain ⟨g1, g2, -⟩ := okst_num HOk.out hm
            unfold bitOk at hb
            simp only at *
            omega
          obtain ⟨b12, hb12'⟩ : ∃ b, w11.heap.size = b := ⟨_, rfl⟩
          obtain ⟨W12, hW12, hb112, q12⟩ : ∃ W, w11.alloc (.cells #[.int .i64 1, .int .i64 D, .int .i64 T, .int .i64 X] 3) = W ∧ Below w11.heap.size w11 W ∧ W.heap[b12]? = some (.cells #[.int .i64 1, .int .i64 D, .int .i64 T, .int .i64 X] 3 (0, 0)) := ⟨_, rfl, Below.one _ _, by rw [← hb12']; exact heap_alloc_new _ _⟩
          have HC12 := Lib.hid (put_any B0 b4 b12 4 _ [1, D.toNat, T.toNat, X.toNat] W12 (HBl11.out.below hb112) (by have := HK11.out.size; have := HBW4.out.size; have := hb112.size; have := HB4.out; have := HB4s.out; omega) (by rw [show (natC [1, D.toNat, T.toNat, X.toNat]).toArray = #[.int .i64 1, .int .i64 D, .int .i64 T, .int .i64 X] from by simp only [natC, List.map_cons, List.map_nil]; rw [Int.toNat_of_nonneg hz1, Int.toNat_of_nonneg hz2, Int.toNat_of_nonneg hz3.1]; rfl]; exact q12) (by intro x hx; simp only [List.mem_cons, List.not_mem_nil, or_false] at hx; rcases hx with rfl | rfl | rfl | rfl <;> omega) (by simp) Hlen12.out)
          have H112 := Lib.hid hb112
          clear hb112 q12 hz1 hz2 hz3
          go_wp2_with fail
          try simp only [hW12]
          clear hW12 hb12'
          refine HC12.out.mono ?_
          rintro e13 w13 ⟨⟨v13, rfl⟩, hbl13, hk13⟩
          have HBl13 := Lib.hid hbl13
          have HK13 := Lib.hid ((HK11.out.trans (Kp.below H112.out)).trans hk13)
          have HS := Lib.hid (str_at B0 b4 _ w13 HBl13.out)
          clear hbl13 hk13 a0 a1 a2 a3 a4 a5 a6
          go_wp2_with fail
          refine HS.out.mono ?_
          rintro e14 w14 ⟨rfl, hk14⟩
          have HEnd := Lib.hid ((HK13.out.trans hk14).to HB4.out HBW4.out (by have := HBW4.out.size; have := HB4.out; have := HB4s.out; omega))
          have HEq := Lib.hid (show ((preL i P i).flatMap uint ++ [N.toNat, Q.toNat].flatMap uint) ++ [1, D.toNat, T.toNat, X.toNat].flatMap uint = encB ⟨P, N, Q, true, D, T, X⟩ by
            unfold encB encL endN
            rw [HPre.out]
            simp [Hn.out])
          clear hk14
          go_wp2_with fail
          go_ret2
          have heq := HEq.out
          simp only [List.flatMap_cons, List.flatMap_nil, List.append_nil, List.append_assoc] at heq
          exact ⟨.inl ⟨HOk.out, congrArg (fun z => Ending.returned (Value.tuple #[.string (S z), .int .i64 0])) heq⟩, by rw [HB.out]; exact HEnd.out⟩
        | false =>
          obtain ⟨b12, hb12'⟩ : ∃ b, w11.heap.size = b := ⟨_, rfl⟩
          obtain ⟨W12, hW12, hb112, q12⟩ : ∃ W, w11.alloc (.cells #[.int .i64 0] 3) = W ∧ Below w11.heap.size w11 W ∧ W.heap[b12]? = some (.cells #[.int .i64 0] 3 (0, 0)) := ⟨_, rfl, Below.one _ _, by rw [← hb12']; exact heap_alloc_new _ _⟩
          have HC12 := Lib.hid (put_any B0 b4 b12 1 _ [0] W12 (HBl11.out.below hb112) (by have := HK11.out.size; have := HBW4.out.size; have := hb112.size; have := HB4.out; have := HB4s.out; omega) (by rw [show (natC [0]).toArray = #[.int .i64 0] from rfl]; exact q12) (by intro x hx; simp at hx; omega) (by simp) Hlen12.out)
          have H112 := Lib.hid hb112
          clear hb112 q12
          go_wp2_with fail
          try simp only [hW12]
          clear hW12 hb12'
          refine HC12.out.mono ?_
          rintro e13 w13 ⟨⟨v13, rfl⟩, hbl13, hk13⟩
          have HBl13 := Lib.hid hbl13
          have HK13 := Lib.hid ((HK11.out.trans (Kp.below H112.out)).trans hk13)
          have HS := Lib.hid (str_at B0 b4 _ w13 HBl13.out)
          clear hbl13 hk13 a0 a1 a2 a3 a4 a5 a6
          go_wp2_with fail
          refine HS.out.mono ?_
          rintro e14 w14 ⟨rfl, hk14⟩
          have HEnd := Lib.hid ((HK13.out.trans hk14).to HB4.out HBW4.out (by have := HBW4.out.size; have := HB4.out; have := HB4s.out; omega))
          have HEq := Lib.hid (show ((preL i P i).flatMap uint ++ [N.toNat, Q.toNat].flatMap uint) ++ [0].flatMap uint = encB ⟨P, N, Q, false, D, T, X⟩ by
            unfold encB encL endN
            rw [HPre.out]
            simp [Hn.out])
          clear hk14
          go_wp2_with fail
          go_ret2
          have heq := HEq.out
          simp only [List.flatMap_cons, List.flatMap_nil, List.append_nil, List.append_assoc] at heq
          exact ⟨.inl ⟨HOk.out, congrArg (fun z => Ending.returned (Value.tuple #[.string (S z), .int .i64 0])) heq⟩, by rw [HB.out]; exact HEnd.out⟩
end Go.Proofs.YtbheoahpaidpmaaDoor
