/-
  manifest.right: a state is right.
-/
import Derived.Test.YtbheoahpaidpmaaDoorManOkP
import Derived.Test.YtbheoahpaidpmaaDoorMNumber
import Derived.Test.YtbheoahpaidpmaaDoorMapSet
import Derived.Carry
namespace Go.Proofs.YtbheoahpaidpmaaDoor
open Go Go.RowKit

theorem SetAt.drew {w : World} {b n : Nat} {M : List UInt8 → Bool} (h : SetAt w b n M) : SetAt w.drew b n M := h
/-- a text more -/
theorem set_step {P : List PartV} {i : Nat} {M : List UInt8 → Bool} {p : PartV} {hi : i < P.length} (hM : ∀ g, M g = true ↔ ∃ k, ∃ _ : k < i, ∃ hkP : k < P.length, P[k].File = g) (hp : P[i] = p) :
    ∀ g, (decide (g = p.File) || M g) = true ↔ ∃ k, ∃ _ : k < i + 1, ∃ hkP : k < P.length, P[k].File = g := fun g => by
  rw [Bool.or_eq_true, decide_eq_true_iff, hM g]
  constructor
  · rintro (rfl | ⟨k, hk, hkP, e⟩)
    · exact ⟨i, by omega, hi, by rw [hp]⟩
    · exact ⟨k, by omega, hkP, e⟩
  · rintro ⟨k, hk, hkP, e⟩
    by_cases h : k = i
    · subst h
      rw [hp] at e
      exact .inl e.symm
    · exact .inr ⟨k, by omega, hkP, e⟩
theorem within_no {n m : Int} (h : ¬ (0 ≤ n ∧ n ≤ m)) : withinB n m = false := by
  unfold withinB
  rw [← Bool.not_eq_true, Bool.and_eq_true, decide_eq_true_iff, decide_eq_true_iff]
  exact h
theorem within_yes {n m : Int} (h : 0 ≤ n ∧ n ≤ m) : withinB n m = true := by
  unfold withinB
  rw [Bool.and_eq_true, decide_eq_true_iff, decide_eq_true_iff]
  exact h
/-- where the loop stands -/
def RightRel (P : List PartV) (N : Int) (B n : Nat) (A : Option Addr) (c : Nat) (s : St) (lv iv : Value) (wr w : World) : Prop :=
  ∃ (i : Nat) (last : Int) (M : List UInt8 → Bool), iv = .int .i64 i ∧ lv = .int .i64 last ∧ i ≤ n ∧ ((i = 0 ∧ last = -1) ∨ ∃ j, i = j + 1 ∧ ∃ hj : j < P.length, last = P[j].Day) ∧ (∀ j, j < i → (hj : j < P.length) → partOk P N j hj) ∧
    SetAt wr (B + 1) i M ∧ (∀ g, M g = true ↔ ∃ k, ∃ _ : k < i, ∃ hkP : k < P.length, P[k].File = g) ∧ wr.heap[B]? = some (.cells (stC A n c s) 25 (0, 0)) ∧ Below B w wr

set_option linter.unusedSimpArgs false in
set_option maxRecDepth 100000 in
set_option maxHeartbeats 16000000 in
theorem mright_any (A : Option Addr) (n c : Nat) (s : St) (w : World) (hr : Rd w 3 A n (s.Parts.flatMap partCells)) (hn : s.Parts.length = n) (hl : n ≤ 100000) (hfl : ∀ p ∈ s.Parts, p.File.length ≤ 1000000) (hp : Pow w) (he : Errs w) :
    Calls Tryd.prog 41 #[stVal A n c s] w (RtPost s w) := by
  obtain ⟨B, hB⟩ : ∃ B, w.heap.size = B := ⟨_, rfl⟩
  obtain ⟨P, N, Q, O, D, T, X⟩ := s
  unfold stVal
  simp only at hr hn hfl ⊢
  obtain ⟨w0, hw0, hs0, hb0, k0⟩ : ∃ w0, w.alloc (.cells (stC A n c ⟨P, N, Q, O, D, T, X⟩) 25) = w0 ∧ w0.heap.size = B + 1 ∧ Below B w w0 ∧ w0.heap[B]? = some (.cells (stC A n c ⟨P, N, Q, O, D, T, X⟩) 25 (0, 0)) :=
    ⟨_, rfl, by simp [hB], hB ▸ Below.one _ _, by rw [← hB]; exact heap_alloc_new _ _⟩
  obtain ⟨w1, hw1, hb1, hset1⟩ : ∃ w1, w0.alloc (.map #[] 0) = w1 ∧ Below w0.heap.size w0 w1 ∧ SetAt w1 (B + 1) 0 (fun _ => false) := ⟨_, rfl, Below.one _ _, by rw [← hs0]; exact SetAt.made w0⟩
  have HR := Lib.hid hr
  have Hn := Lib.hid hn
  have HFL := Lib.hid hfl
  have HB := Lib.hid hB
  have HP := Lib.hid hp
  have HER := Lib.hid he
  have hk1 := (hb1.block B (by omega)).trans k0
  have H1 := Lib.hid (And.intro hset1 (And.intro hk1 (hb0.trans (hb1.mono (by omega)))))
  obtain ⟨a0, a1, a2, a3, a4, a5, a6, -⟩ := seven hk1
  have hmm := @run_makeMap Tryd.prog
  clear hr hn hfl hb0 k0 hp he hb1 hset1 hk1
  go_enter Tryd.func41, Tryd.ntmps41
  go_wp2_with fail
  try simp only [hw0, hw1]
  clear hw0 hw1 hB a0 a1 a2 a3 a4 a5 a6 hmm
  go_loopw [4, 15] (fun lv iv wr => RightRel P N B n A c ⟨P, N, Q, O, D, T, X⟩ lv iv wr w) (fun _ iv _ => n - (intOf iv).toNat)
  case atStart => exact ⟨0, -1, fun _ => false, rfl, rfl, Nat.zero_le _, .inl ⟨rfl, rfl⟩, (fun j hj => absurd hj (by omega)), H1.out.1, (fun g => ⟨(fun h => by cases h), (fun ⟨k, hk, _⟩ => absurd hk (by omega))⟩), H1.out.2.1, H1.out.2.2⟩
  case round =>
    obtain ⟨i, last, M, rfl, rfl, hi, hlast, hok, hset, hM, k0, hbel⟩ := hrel
    obtain ⟨a0, a1, a2, a3, a4, a5, a6, -⟩ := seven k0
    by_cases hlt : i < n
    · have hlt' : i < P.length := by have := Hn.out; omega
      have hk1 : (i : Int) < n := by omega
      obtain ⟨gb, off, rfl, hgb, s0, s1, s2⟩ := part_at (HR.out.below (by rw [HB.out]; exact hbel)) hlt'
      obtain ⟨pp, hpp⟩ : ∃ p, P[i] = p := ⟨_, rfl⟩
      rw [hpp] at s0 s1 s2
      have hfl : pp.File.length ≤ 1000000000 := by have := HFL.out pp (by rw [← hpp]; exact List.getElem_mem hlt'); omega
      have HOK : OkSt ⟨P, N, Q, O, D, T, X⟩ → partOk P N i hlt' := fun h => okst_part h hlt'
      unfold partOk at HOK
      simp only [hpp] at HOK
      have HDM : OkSt ⟨P, N, Q, O, D, T, X⟩ → last < pp.Day := fun h => by
        have h1 := (HOK h).1
        have h2 := (HOK h).2.2.2.2.1
        rcases hlast with ⟨rfl, rfl⟩ | ⟨j, rfl, hjP, rfl⟩
        · have := h1.1; omega
        · exact h2 j rfl hjP
      obtain ⟨pD, pL, pF⟩ := pp
      obtain ⟨f, hf⟩ : ∃ f, numF pF = f := ⟨_, rfl⟩
      simp only [hf] at HOK
      simp only at s0 s1 s2 hfl HDM
      have Hpp := Lib.hid hpp
      have Hf := Lib.hid hf
      obtain ⟨b1, hb1'⟩ : ∃ b, wr.heap.size = b := ⟨_, rfl⟩
      have hB1 : B + 2 ≤ b1 := by have := hset.lt; omega
      obtain ⟨W1, hW1, hb01, q1⟩ : ∃ W, wr.alloc (.cells #[.int .i64 pD, .int .i64 pL, .string (S pF)] 40) = W ∧ Below wr.heap.size wr W ∧ W.heap[b1]? = some (.cells #[.int .i64 pD, .int .i64 pL, .string (S pF)] 40 (0, 0)) :=
        ⟨_, rfl, Below.one _ _, by rw [← hb1']; exact heap_alloc_new _ _⟩
      have k0' := (hb01.block B (by omega)).trans k0
      have hset1 := hset.below hb01
      have hbel1 : Below B w W1 := hbel.trans (hb01.mono (by omega))
      have hsz1 : b1 < W1.heap.size := (Array.getElem?_eq_some_iff.1 q1).1
      have HNm := mnumber_any pF W1 hfl (HP.out.below (by rw [HB.out]; exact hbel1)) (HER.out.below (by rw [HB.out]; exact hbel1))
      rw [hf] at HNm
      have HNum := Lib.hid HNm
      obtain ⟨p0, p1, p2, -⟩ := three q1
      have Hok := Lib.hid hok
      have HOKh := Lib.hid HOK
      have HDMh := Lib.hid HDM
      have Hlast := Lib.hid hlast
      have Hset1 := Lib.hid hset1
      have K0' := Lib.hid k0'
      have Q1 := Lib.hid q1
      have Hbel1 := Lib.hid hbel1
      have Hfl := Lib.hid hfl
      clear hpp hf hbel hok hlast q1 k0' HNm HOK HDM hset hset1 hb01 hbel1 k0 hfl
      go_wp2_with fail
      try simp only [hW1]
      clear hW1
      refine HNum.out.mono ?_
      rintro e W2 ⟨rfl, hb2⟩
      clear s0 s1 s2 hgb a0 a1 a2 a3 a4 a5 a6 p0 p1 p2
      have k2 := (hb2.block B (by omega)).trans K0'.out
      have q2 := (hb2.block b1 hsz1).trans Q1.out
      have hset2 := Hset1.out.below hb2
      have hlook := hset2.look pF Hfl.out
      obtain ⟨c0, c1, c2, c3, c4, c5, c6, -⟩ := seven k2
      obtain ⟨p0, p1, p2, -⟩ := three q2
      have Hset2 := Lib.hid hset2
      have K2 := Lib.hid k2
      have Q2 := Lib.hid q2
      have HBW2 := Lib.hid (show Below w.heap.size w W2 by rw [HB.out]; exact Hbel1.out.trans (hb2.mono (by omega)))
      have hsz2 : W1.heap.size ≤ W2.heap.size := hb2.size
      have HM := Lib.hid (hM pF)
      have HMall := Lib.hid hM
      clear hM
      have H2 := Lib.hid (fun w => within_any pL 1 w)
      rw [within_bit] at H2
      clear hb2 k2 q2 hset2
      by_cases d1 : pD ≤ last
      · have HNO := Lib.hid (show ¬ OkSt ⟨P, N, Q, O, D, T, X⟩ from fun h => by have := HDMh.out h; omega)
        have v1 : decide (pD ≤ last) = true := decide_eq_true d1
        clear d1 hlook
        go_wp2_with fail
        go_ret
        exact RtPost.no HNO.out HBW2.out
      have v1 : decide (pD ≤ last) = false := decide_eq_false d1
      by_cases d2 : 17179869184 ≤ pD
      · have HNO := Lib.hid (show ¬ OkSt ⟨P, N, Q, O, D, T, X⟩ from fun h => by have := (HOKh.out h).1.2; omega)
        have v2 : decide (17179869184 ≤ pD) = true := decide_eq_true d2
        clear d2 hlook
        go_wp2_with fail
        go_ret
        exact RtPost.no HNO.out HBW2.out
      have v2 : decide (17179869184 ≤ pD) = false := decide_eq_false d2
      by_cases d3 : ¬ bitOk pL
      · have HNO := Lib.hid (show ¬ OkSt ⟨P, N, Q, O, D, T, X⟩ from fun h => d3 (HOKh.out h).2.1)
        rw [decide_eq_false d3] at H2
        clear d3 hlook
        go_wp2_with fail
        refine (H2.out _).mono ?_
        rintro e5 w5 ⟨rfl, rfl⟩
        go_wp2_with fail
        go_ret
        exact RtPost.no HNO.out HBW2.out
      replace d3 : bitOk pL := Decidable.not_not.1 d3
      rw [decide_eq_true d3] at H2
      by_cases d4 : f < 0
      · have HNO := Lib.hid (show ¬ OkSt ⟨P, N, Q, O, D, T, X⟩ from fun h => by have := (HOKh.out h).2.2.1; omega)
        have v4 : decide (f < 0) = true := decide_eq_true d4
        clear d4 hlook
        go_wp2_with fail
        refine (H2.out _).mono ?_
        rintro e5 w5 ⟨rfl, rfl⟩
        go_wp2_with fail
        go_ret
        exact RtPost.no HNO.out HBW2.out
      have v4 : decide (f < 0) = false := decide_eq_false d4
      by_cases d5 : N ≤ f
      · have HNO := Lib.hid (show ¬ OkSt ⟨P, N, Q, O, D, T, X⟩ from fun h => by have := (HOKh.out h).2.2.2.1; omega)
        have v5 : decide (N ≤ f) = true := decide_eq_true d5
        clear d5 hlook
        go_wp2_with fail
        refine (H2.out _).mono ?_
        rintro e5 w5 ⟨rfl, rfl⟩
        go_wp2_with fail
        go_ret
        exact RtPost.no HNO.out HBW2.out
      have v5 : decide (N ≤ f) = false := decide_eq_false d5
      by_cases d6 : M pF = true
      · have HNO := Lib.hid (show ¬ OkSt ⟨P, N, Q, O, D, T, X⟩ from fun h => by
            obtain ⟨k, hk, hkP, e⟩ := HM.out.1 d6
            exact (HOKh.out h).2.2.2.2.2 k hk e)
        rw [d6] at hlook
        clear d6
        go_wp2_with fail
        refine (H2.out _).mono ?_
        rintro e5 w5 ⟨rfl, rfl⟩
        go_wp2_with fail
        go_ret
        exact RtPost.no HNO.out HBW2.out
      have D0 := Lib.hid (show 0 ≤ pD by rcases Hlast.out with ⟨-, e⟩ | ⟨j, hj, hjP, e⟩
                                         · omega
                                         · have := (Hok.out j (by omega) hjP).1.1; omega)
      have d6' : M pF = false := by simpa using d6
      rw [d6'] at hlook
      have D1 := Lib.hid (show partOk P N i (by have := Hn.out; omega) by
        unfold partOk
        rw [Hpp.out]
        simp only [Hf.out]
        refine ⟨⟨D0.out, by omega⟩, d3, by omega, by omega, fun j hj hjP => ?_, fun k hk e => ?_⟩
        · rcases Hlast.out with ⟨rfl, -⟩ | ⟨j', hj', hjP', e'⟩
          · omega
          · obtain rfl : j' = j := by omega
            omega
        · have := HM.out.2 ⟨k, hk, (by have := Hn.out; omega), e⟩
          rw [this] at d6'
          cases d6')
      clear d1 d2 d3 d4 d5 d6 d6'
      obtain ⟨W3, hrun, hset3, hgr⟩ := Hset2.out.drew.put (by unfold maxLen; omega) pF Hfl.out
      have HB3 := Lib.hid ((show Below B w W2 by have := HBW2.out; rw [HB.out] at this; exact this).drew.grown hgr (by show B ≤ W2.heap.size; omega) (fun k hk => by cases hk; omega))
      have k3 := (hgr.block B (by show B < W2.heap.size; omega) (by simp)).trans K2.out
      have q3 := (hgr.block b1 (by show b1 < W2.heap.size; omega) (by simp; omega)).trans Q2.out
      obtain ⟨r0, r1, r2, -⟩ := three q3
      have K3 := Lib.hid k3
      have Hset3 := Lib.hid hset3
      have HM3 := Lib.hid (show ∀ g, (decide (g = pF) || M g) = true ↔ ∃ k, ∃ hk : k < i + 1, ∃ hkP : k < P.length, P[k].File = g from set_step HMall.out Hpp.out)
      clear k3 q3 hset3 hgr
      go_wp2_with fail
      refine (H2.out _).mono ?_
      rintro e5 w5 ⟨rfl, rfl⟩
      go_wp2_with fail
      go_region
      all_goals
        go_wp2_with fail
        go_roundw
        case rel =>
          refine ⟨i + 1, pD, _, by go_num, rfl, by omega, .inr ⟨i, rfl, by have := Hn.out; omega, by rw [Hpp.out]⟩, fun j hj hjP => ?_, Hset3.out, HM3.out, K3.out, HB3.out⟩
          by_cases e : j = i
          · subst e; exact D1.out
          · exact Hok.out j (by omega) hjP
        case measure => simp [intOf]; omega
    · obtain rfl : i = n := by omega
      have HALL := Lib.hid (show ∀ j, (hj : j < P.length) → partOk P N j hj from fun j hj => hok j (by have := Hn.out; omega) hj)
      have HC := mfind_any D A c i ⟨P, N, Q, O, D, T, X⟩ wr (HR.out.below (by rw [HB.out]; exact hbel)) Hn.out (by omega)
      obtain ⟨pf, hpf⟩ : ∃ pf, findP P D = pf := ⟨_, rfl⟩
      obtain ⟨p, hpp⟩ : ∃ p, pf.getD p0 = p := ⟨_, rfl⟩
      obtain ⟨q, hq⟩ : ∃ q, pf.isSome = q := ⟨_, rfl⟩
      unfold stVal at HC
      simp only [hpf, hpp, hq] at HC
      obtain ⟨pD, pL, pF⟩ := p
      unfold partVal at HC
      simp only at HC
      replace HC := Lib.hid HC
      have HPF0 := Lib.hid hpf
      have HPP := Lib.hid hpp
      have HQ := Lib.hid hq
      have HBx := Lib.hid (show Below w.heap.size w wr by rw [HB.out]; exact hbel)
      have K0w := Lib.hid k0
      have K0s := Lib.hid (show B < wr.heap.size from (Array.getElem?_eq_some_iff.1 k0).1)
      clear hok hset hM k0 hbel hlast hpf hpp hq
      go_wp2_with fail
      refine HC.out.mono ?_
      rintro e w5 ⟨rfl, hb5⟩
      obtain ⟨b5, hb5'⟩ : ∃ b, w5.heap.size = b := ⟨_, rfl⟩
      obtain ⟨W5, hW5, hbel5, q5⟩ : ∃ W, w5.alloc (.cells #[.int .i64 pD, .int .i64 pL, .string (S pF)] 40) = W ∧ Below wr.heap.size wr W ∧ W.heap[b5]? = some (.cells #[.int .i64 pD, .int .i64 pL, .string (S pF)] 40 (0, 0)) := ⟨_, rfl, hb5.then (Below.one _ _), by rw [← hb5']; exact heap_alloc_new _ _⟩
      have HBy := Lib.hid (HBx.out.then hbel5)
      have k5 := (hbel5.block B K0s.out).trans K0w.out
      clear a0 a1 a2 a3 a4 a5 a6
      obtain ⟨c0, c1, c2, c3, c4, c5, c6, -⟩ := seven k5
      obtain ⟨-, p1, -, -⟩ := three q5
      have H3 := Lib.hid (fun w => within_any T 1 w)
      rw [within_bit] at H3
      have H4 := Lib.hid (fun w => within_any X 5000 w)
      have H5 := Lib.hid (fun w => within_any N 1099511627776 w)
      have H6 := Lib.hid (fun w => within_any Q 1099511627776 w)
      clear hb5 hbel5 q5 k5
      cases O with
      | false =>
        by_cases z1 : ¬ D = 0
        · have HNO := Lib.hid (show ¬ OkSt ⟨P, N, Q, false, D, T, X⟩ from fun h => z1 (h.offs rfl).1)
          have y1 : (D == 0) = false := beq_eq_false_iff_ne.2 z1
          clear z1
          go_wp2_with fail
          all_goals

            go_ret
            exact RtPost.no HNO.out HBy.out
        replace z1 : D = 0 := Decidable.not_not.1 z1
        have y1 : (D == 0) = true := beq_iff_eq.2 z1
        by_cases z2 : ¬ T = 0
        · have HNO := Lib.hid (show ¬ OkSt ⟨P, N, Q, false, D, T, X⟩ from fun h => z2 (h.offs rfl).2.1)
          have y2 : (T == 0) = false := beq_eq_false_iff_ne.2 z2
          clear z1 z2
          go_wp2_with fail
          all_goals

            go_ret
            exact RtPost.no HNO.out HBy.out
        replace z2 : T = 0 := Decidable.not_not.1 z2
        have y2 : (T == 0) = true := beq_iff_eq.2 z2
        by_cases z3 : ¬ X = 0
        · have HNO := Lib.hid (show ¬ OkSt ⟨P, N, Q, false, D, T, X⟩ from fun h => z3 (h.offs rfl).2.2)
          have y3 : (X == 0) = false := beq_eq_false_iff_ne.2 z3
          clear z1 z2 z3
          go_wp2_with fail
          all_goals

            go_ret
            exact RtPost.no HNO.out HBy.out
        replace z3 : X = 0 := Decidable.not_not.1 z3
        have y3 : (X == 0) = true := beq_iff_eq.2 z3
        have HZ := Lib.hid (And.intro z1 (And.intro z2 z3))
        clear z1 z2 z3
        by_cases e1 : ¬ (0 ≤ N ∧ N ≤ 1099511627776)
        · have HNO := Lib.hid (show ¬ OkSt ⟨P, N, Q, false, D, T, X⟩ from fun h => e1 ⟨h.n0, h.n1⟩)
          rw [within_no e1] at H5
          clear e1
          go_wp2_with fail
          all_goals
            refine (H5.out _).mono ?_
            rintro e6 w6 ⟨rfl, rfl⟩
            go_wp2_with fail
            go_ret
            exact RtPost.no HNO.out HBy.out
        replace e1 : 0 ≤ N ∧ N ≤ 1099511627776 := Decidable.not_not.1 e1
        rw [within_yes e1] at H5
        by_cases e2 : ¬ (0 ≤ Q ∧ Q ≤ 1099511627776)
        · have HNO := Lib.hid (show ¬ OkSt ⟨P, N, Q, false, D, T, X⟩ from fun h => e2 ⟨h.p0, h.p1⟩)
          rw [within_no e2] at H6
          clear e1 e2
          go_wp2_with fail
          all_goals
            refine (H5.out _).mono ?_
            rintro e6 w6 ⟨rfl, rfl⟩
            go_wp2_with fail
            refine (H6.out _).mono ?_
            rintro e6 w6 ⟨rfl, rfl⟩
            go_wp2_with fail
            go_ret
            exact RtPost.no HNO.out HBy.out
        replace e2 : 0 ≤ Q ∧ Q ≤ 1099511627776 := Decidable.not_not.1 e2
        rw [within_yes e2] at H6
        have HY := Lib.hid (show OkSt ⟨P, N, Q, false, D, T, X⟩ from okst_of e1.1 e1.2 e2.1 e2.2 HALL.out (fun _ => HZ.out) (fun h => by cases h))
        clear e1 e2
        go_wp2_with fail
        all_goals
          refine (H5.out _).mono ?_
          rintro e6 w6 ⟨rfl, rfl⟩
          go_wp2_with fail
          refine (H6.out _).mono ?_
          rintro e6 w6 ⟨rfl, rfl⟩
          go_wp2_with fail
          go_ret
          exact RtPost.yes HY.out HBy.out
      | true =>
        cases pf with
        | none =>
          obtain rfl : false = q := HQ.out
          obtain ⟨yD, hyD⟩ : ∃ b, (D == 0) = b := ⟨_, rfl⟩
          obtain ⟨yT, hyT⟩ : ∃ b, (T == 0) = b := ⟨_, rfl⟩
          obtain ⟨yX, hyX⟩ : ∃ b, (X == 0) = b := ⟨_, rfl⟩
          have HNO := Lib.hid (show ¬ OkSt ⟨P, N, Q, true, D, T, X⟩ from fun h => by
            obtain ⟨p, hp, -⟩ := h.conv rfl
            have e := HPF0.out.symm.trans hp
            cases e)
          cases yD <;> cases yT <;> cases yX
          all_goals
            go_wp2_with fail
            go_ret
            exact RtPost.no HNO.out HBy.out
        | some pp =>
          obtain rfl : true = q := HQ.out
          obtain rfl : pp = ⟨pD, pL, pF⟩ := HPP.out
          have HPF := HPF0
          obtain ⟨yD, hyD⟩ : ∃ b, (D == 0) = b := ⟨_, rfl⟩
          obtain ⟨yT, hyT⟩ : ∃ b, (T == 0) = b := ⟨_, rfl⟩
          obtain ⟨yX, hyX⟩ : ∃ b, (X == 0) = b := ⟨_, rfl⟩
          by_cases z1 : ¬ bitOk T
          · have HNO := Lib.hid (show ¬ OkSt ⟨P, N, Q, true, D, T, X⟩ from fun h => by
                obtain ⟨p, hp, h2, h3, h4, h5⟩ := h.conv rfl
                exact z1 h2)
            rw [decide_eq_false z1] at H3
            clear z1
            go_wp2_with fail
            all_goals
              refine (H3.out _).mono ?_
              rintro e6 w6 ⟨rfl, rfl⟩
              go_wp2_with fail
              go_ret
              exact RtPost.no HNO.out HBy.out
          replace z1 : bitOk T := Decidable.not_not.1 z1
          rw [decide_eq_true z1] at H3
          by_cases z2 : pL = T
          · have HNO := Lib.hid (show ¬ OkSt ⟨P, N, Q, true, D, T, X⟩ from fun h => by
                obtain ⟨p, hp, h2, h3, h4, h5⟩ := h.conv rfl
                have e := HPF.out.symm.trans hp; cases e
                exact h3 z2)
            have y1 : (pL == T) = true := beq_iff_eq.2 z2
            have y1' : (pL != T) = false := by rw [bne, y1]; rfl
            clear z1 z2
            go_wp2_with fail
            all_goals
              refine (H3.out _).mono ?_
              rintro e6 w6 ⟨rfl, rfl⟩
              go_wp2_with fail
              go_ret
              exact RtPost.no HNO.out HBy.out
          have y1 : (pL == T) = false := beq_eq_false_iff_ne.2 z2
          have y1' : (pL != T) = true := by rw [bne, y1]; rfl
          by_cases z3 : ¬ (0 ≤ X ∧ X ≤ 5000)
          · have HNO := Lib.hid (show ¬ OkSt ⟨P, N, Q, true, D, T, X⟩ from fun h => by
                obtain ⟨p, hp, h2, h3, h4, h5⟩ := h.conv rfl
                exact z3 ⟨h4, h5⟩)
            rw [within_no z3] at H4
            clear z1 z2 z3
            go_wp2_with fail
            all_goals
              refine (H3.out _).mono ?_
              rintro e6 w6 ⟨rfl, rfl⟩
              go_wp2_with fail
              refine (H4.out _).mono ?_
              rintro e6 w6 ⟨rfl, rfl⟩
              go_wp2_with fail
              go_ret
              exact RtPost.no HNO.out HBy.out
          replace z3 : 0 ≤ X ∧ X ≤ 5000 := Decidable.not_not.1 z3
          rw [within_yes z3] at H4
          have HZ := Lib.hid (And.intro z1 (And.intro z2 z3))
          clear z1 z2 z3
          by_cases e1 : ¬ (0 ≤ N ∧ N ≤ 1099511627776)
          · have HNO := Lib.hid (show ¬ OkSt ⟨P, N, Q, true, D, T, X⟩ from fun h => e1 ⟨h.n0, h.n1⟩)
            rw [within_no e1] at H5
            clear e1
            go_wp2_with fail
            all_goals
              refine (H3.out _).mono ?_
              rintro e6 w6 ⟨rfl, rfl⟩
              go_wp2_with fail
              refine (H4.out _).mono ?_
              rintro e6 w6 ⟨rfl, rfl⟩
              go_wp2_with fail
              refine (H5.out _).mono ?_
              rintro e6 w6 ⟨rfl, rfl⟩
              go_wp2_with fail
              go_ret
              exact RtPost.no HNO.out HBy.out
          replace e1 : 0 ≤ N ∧ N ≤ 1099511627776 := Decidable.not_not.1 e1
          rw [within_yes e1] at H5
          by_cases e2 : ¬ (0 ≤ Q ∧ Q ≤ 1099511627776)
          · have HNO := Lib.hid (show ¬ OkSt ⟨P, N, Q, true, D, T, X⟩ from fun h => e2 ⟨h.p0, h.p1⟩)
            rw [within_no e2] at H6
            clear e1 e2
            go_wp2_with fail
            all_goals
              refine (H3.out _).mono ?_
              rintro e6 w6 ⟨rfl, rfl⟩
              go_wp2_with fail
              refine (H4.out _).mono ?_
              rintro e6 w6 ⟨rfl, rfl⟩
              go_wp2_with fail
              refine (H5.out _).mono ?_
              rintro e6 w6 ⟨rfl, rfl⟩
              go_wp2_with fail
              refine (H6.out _).mono ?_
              rintro e6 w6 ⟨rfl, rfl⟩
              go_wp2_with fail
              go_ret
              exact RtPost.no HNO.out HBy.out
          replace e2 : 0 ≤ Q ∧ Q ≤ 1099511627776 := Decidable.not_not.1 e2
          rw [within_yes e2] at H6
          have HY := Lib.hid (show OkSt ⟨P, N, Q, true, D, T, X⟩ from okst_of e1.1 e1.2 e2.1 e2.2 HALL.out (fun h => by cases h) (fun _ => ⟨_, HPF.out, HZ.out.1, HZ.out.2.1, HZ.out.2.2.1, HZ.out.2.2.2⟩))
          clear e1 e2
          go_wp2_with fail
          all_goals
            refine (H3.out _).mono ?_
            rintro e6 w6 ⟨rfl, rfl⟩
            go_wp2_with fail
            refine (H4.out _).mono ?_
            rintro e6 w6 ⟨rfl, rfl⟩
            go_wp2_with fail
            refine (H5.out _).mono ?_
            rintro e6 w6 ⟨rfl, rfl⟩
            go_wp2_with fail
            refine (H6.out _).mono ?_
            rintro e6 w6 ⟨rfl, rfl⟩
            go_wp2_with fail
            go_ret
            exact RtPost.yes HY.out HBy.out
end Go.Proofs.YtbheoahpaidpmaaDoor
