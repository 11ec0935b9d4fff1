/-
  The document's Right: a state is right.
-/
import Derived.Test.YtbheoahpaidpmaaDoorManOkP
import Derived.Test.YtbheoahpaidpmaaDoorRManNum
namespace Go.Proofs.YtbheoahpaidpmaaDoor
open Go Go.RowKit

set_option linter.unusedSimpArgs false in
set_option maxRecDepth 100000 in
set_option maxHeartbeats 16000000 in
theorem rright_any (A : Option Addr) (n c : Nat) (s : St) (w : World) (hr : Rd w 3 A n (s.Parts.flatMap partCells)) (hn : s.Parts.length = n) (hl : n ≤ 100000) (hfl : ∀ p ∈ s.Parts, p.File.length ≤ 1000000) :
    Calls Tryd.prog 14 #[stVal A n c s] w (RtPost s w) := by
  obtain ⟨B, hB⟩ : ∃ B, w.heap.size = B := ⟨_, rfl⟩
  obtain ⟨P, N, Q, O, D, T, X⟩ := s
  unfold stVal
  simp only at hr hn hfl ⊢
  obtain ⟨w0, hw0, hs0, hb0, k0⟩ : ∃ w0, w.alloc (.cells (stC A n c ⟨P, N, Q, O, D, T, X⟩) 31) = w0 ∧ w0.heap.size = B + 1 ∧ Below B w w0 ∧ w0.heap[B]? = some (.cells (stC A n c ⟨P, N, Q, O, D, T, X⟩) 31 (0, 0)) :=
    ⟨_, rfl, by simp [hB], hB ▸ Below.one _ _, by rw [← hB]; exact heap_alloc_new _ _⟩
  have HR := Lib.hid (hr.below (hB ▸ hb0))
  have Hn := Lib.hid hn
  have HFL := Lib.hid hfl
  have HB := Lib.hid hB
  have HB0 := Lib.hid hb0
  have K0 := Lib.hid k0
  have HBW := Lib.hid (show Below w.heap.size w w0 from hB ▸ hb0)
  obtain ⟨a0, a1, a2, a3, a4, a5, a6, -⟩ := seven k0
  clear hr hn hfl hb0 k0
  go_enter Tryd.func14, Tryd.ntmps14
  by_cases e1 : N < 0
  · have HNO := Lib.hid (show ¬ OkSt ⟨P, N, Q, O, D, T, X⟩ from fun h => by have := h.n0; simp only at this; omega)
    have v1 : decide (N < 0) = true := decide_eq_true e1
    clear e1
    go_wp2_with fail
    go_ret
    exact RtPost.no HNO.out HBW.out
  have v1 : decide (N < 0) = false := decide_eq_false e1
  by_cases e2 : 1099511627776 < N
  · have HNO := Lib.hid (show ¬ OkSt ⟨P, N, Q, O, D, T, X⟩ from fun h => by have := h.n1; simp only at this; omega)
    have v2 : decide (1099511627776 < N) = true := decide_eq_true e2
    clear e1 e2
    go_wp2_with fail
    go_ret
    exact RtPost.no HNO.out HBW.out
  have v2 : decide (1099511627776 < N) = false := decide_eq_false e2
  by_cases e3 : Q < 0
  · have HNO := Lib.hid (show ¬ OkSt ⟨P, N, Q, O, D, T, X⟩ from fun h => by have := h.p0; simp only at this; omega)
    have v3 : decide (Q < 0) = true := decide_eq_true e3
    clear e1 e2 e3
    go_wp2_with fail
    go_ret
    exact RtPost.no HNO.out HBW.out
  have v3 : decide (Q < 0) = false := decide_eq_false e3
  by_cases e4 : 1099511627776 < Q
  · have HNO := Lib.hid (show ¬ OkSt ⟨P, N, Q, O, D, T, X⟩ from fun h => by have := h.p1; simp only at this; omega)
    have v4 : decide (1099511627776 < Q) = true := decide_eq_true e4
    clear e1 e2 e3 e4
    go_wp2_with fail
    go_ret
    exact RtPost.no HNO.out HBW.out
  have v4 : decide (1099511627776 < Q) = false := decide_eq_false e4
  have E1 := Lib.hid (show 0 ≤ N by omega)
  have E2 := Lib.hid (show N ≤ 1099511627776 by omega)
  have E3 := Lib.hid (show 0 ≤ Q by omega)
  have E4 := Lib.hid (show Q ≤ 1099511627776 by omega)
  clear e1 e2 e3 e4
  go_wp2_with fail
  try simp only [hw0]
  clear hw0 hB a0 a1 a2 a3 a4 a5 a6 v1 v2 v3 v4
  go_loopw [3] (fun iv wr => ∃ i : Nat, iv = .int .i64 i ∧ i ≤ n ∧ (∀ j, j < i → (hj : j < P.length) → partOk P N j hj) ∧ Below (B + 1) w0 wr) (fun iv _ => n - (intOf iv).toNat)
  case atStart => exact ⟨0, rfl, Nat.zero_le _, (fun j hj => absurd hj (by omega)), Below.refl _ _⟩
  case round =>
    obtain ⟨i, rfl, hi, hok, hbel⟩ := hrel
    have k0 := (hbel.block B (by omega)).trans K0.out
    obtain ⟨a0, a1, a2, a3, a4, a5, a6, -⟩ := seven k0
    by_cases hlt : i < n
    · have hlt' : i < P.length := by have := Hn.out; omega
      have hk1 : (i : Int) < n := by omega
      obtain ⟨gb, off, rfl, hgb, s0, s1, s2⟩ := part_at (HR.out.below (hs0 ▸ hbel)) hlt'
      obtain ⟨pp, hpp⟩ : ∃ p, P[i] = p := ⟨_, rfl⟩
      rw [hpp] at s0 s1 s2
      have hfl : (S pp.File).size ≤ 1000000000 := by have := HFL.out pp (by rw [← hpp]; exact List.getElem_mem hlt'); rw [Lib.size_eq, S_toList]; omega
      have HNm := fun w => rnumber_any (S pp.File) w hfl
      rw [S_toList] at HNm
      have HOK : OkSt ⟨P, N, Q, O, D, T, X⟩ → partOk P N i hlt' := fun h => okst_part h hlt'
      unfold partOk at HOK
      simp only [hpp] at HOK
      obtain ⟨pD, pL, pF⟩ := pp
      obtain ⟨f, hf⟩ : ∃ f, numF pF = f := ⟨_, rfl⟩
      simp only [hf] at HNm HOK
      simp only at s0 s1 s2
      have HNum := Lib.hid HNm
      have Hpp := Lib.hid hpp
      have Hf := Lib.hid hf
      obtain ⟨b1, hb1'⟩ : ∃ b, wr.heap.size = b := ⟨_, rfl⟩
      have hB1 : B + 1 ≤ b1 := by have := hbel.size; omega
      obtain ⟨W1, hW1, hbel1, q1⟩ : ∃ W, wr.alloc (.cells #[.int .i64 pD, .int .i64 pL, .string (S pF)] 43) = W ∧ Below (B + 1) w0 W ∧ W.heap[b1]? = some (.cells #[.int .i64 pD, .int .i64 pL, .string (S pF)] 43 (0, 0)) :=
        ⟨_, rfl, hbel.trans ((Below.one wr _).mono (by omega)), by rw [← hb1']; exact heap_alloc_new _ _⟩
      have k0' := (hbel1.block B (by omega)).trans K0.out
      obtain ⟨c0, c1, c2, c3, c4, c5, c6, -⟩ := seven k0'
      obtain ⟨p0, p1, p2, -⟩ := three q1
      have HBW1 := Lib.hid (show Below w.heap.size w W1 by rw [HB.out]; exact HB0.out.trans (hbel1.mono (by omega)))
      have HB1 := Lib.hid hbel1
      have Q1 := Lib.hid q1
      have H1 := Lib.hid (fun w => (rday_any pD w).mono (R' := fun e w' => e = .returned (.bool (decide (dayOk pD))) ∧ w' = w) fun e w' h => ⟨h.1, h.2.symm⟩)
      have H2 := Lib.hid (fun w => (rbit_any pL w).mono (R' := fun e w' => e = .returned (.bool (decide (bitOk pL))) ∧ w' = w) fun e w' h => ⟨h.1, h.2.symm⟩)
      have Hok := Lib.hid hok
      have HOKh := Lib.hid HOK
      clear hfl hpp hf hbel hok hbel1 q1 k0' HNm HOK
      go_wp2_with fail
      try simp only [hW1]
      clear hW1
      refine (HNum.out _).mono ?_
      rintro e w4 ⟨rfl, rfl⟩
      clear s0 s1 s2 hgb
      by_cases d1 : ¬ dayOk pD
      · have HNO := Lib.hid (show ¬ OkSt ⟨P, N, Q, O, D, T, X⟩ from fun h => d1 (HOKh.out h).1)
        rw [decide_eq_false d1] at H1
        clear d1
        go_wp2_with fail
        go_quiet ((first | (go_at_call 25; exact Calls.quiet_of_same (H1.out _)) | (go_at_call 26; exact Calls.quiet_of_same (H2.out _))))
        go_wp2_with fail
        go_ret
        exact RtPost.no HNO.out (below_drewN HBW1.out _)
      replace d1 : dayOk pD := Decidable.not_not.1 d1
      rw [decide_eq_true d1] at H1
      by_cases d2 : ¬ bitOk pL
      · have HNO := Lib.hid (show ¬ OkSt ⟨P, N, Q, O, D, T, X⟩ from fun h => d2 (HOKh.out h).2.1)
        rw [decide_eq_false d2] at H2
        clear d2
        go_wp2_with fail
        go_quiet ((first | (go_at_call 25; exact Calls.quiet_of_same (H1.out _)) | (go_at_call 26; exact Calls.quiet_of_same (H2.out _))))
        go_wp2_with fail
        go_ret
        exact RtPost.no HNO.out (below_drewN HBW1.out _)
      replace d2 : bitOk pL := Decidable.not_not.1 d2
      rw [decide_eq_true d2] at H2
      by_cases d3 : f < 0
      · have HNO := Lib.hid (show ¬ OkSt ⟨P, N, Q, O, D, T, X⟩ from fun h => by have := (HOKh.out h).2.2.1; omega)
        have u1 : decide (f < 0) = true := decide_eq_true d3
        clear d3
        go_wp2_with fail
        go_quiet ((first | (go_at_call 25; exact Calls.quiet_of_same (H1.out _)) | (go_at_call 26; exact Calls.quiet_of_same (H2.out _))))
        go_wp2_with fail
        go_ret
        exact RtPost.no HNO.out (below_drewN HBW1.out _)
      have u1 : decide (f < 0) = false := decide_eq_false d3
      by_cases d4 : N ≤ f
      · have HNO := Lib.hid (show ¬ OkSt ⟨P, N, Q, O, D, T, X⟩ from fun h => by have := (HOKh.out h).2.2.2.1; omega)
        have u2 : decide (N ≤ f) = true := decide_eq_true d4
        clear d4
        go_wp2_with fail
        go_quiet ((first | (go_at_call 25; exact Calls.quiet_of_same (H1.out _)) | (go_at_call 26; exact Calls.quiet_of_same (H2.out _))))
        go_wp2_with fail
        go_ret
        exact RtPost.no HNO.out (below_drewN HBW1.out _)
      have u2 : decide (N ≤ f) = false := decide_eq_false d4
      have D1 := Lib.hid d1
      have D2 := Lib.hid d2
      have D3 := Lib.hid (show 0 ≤ f by omega)
      have D4 := Lib.hid (show f < N by omega)
      clear d1 d2 d3 d4
      by_cases i0 : i = 0
      · have D5 := Lib.hid (show ∀ i0, i = i0 + 1 → (h' : i0 < P.length) → P[i0].Day < pD from fun i0 h => by omega)
        have u0 : decide ((0 : Int) < (i : Int)) = false := decide_eq_false (by omega)
        have u0' : decide (0 < i) = false := decide_eq_false (by omega)
        clear i0
        go_wp2_with fail
        go_quiet ((first | (go_at_call 25; exact Calls.quiet_of_same (H1.out _)) | (go_at_call 26; exact Calls.quiet_of_same (H2.out _))))
        clear c0 c1 c2 c3 c4 c5 c6 p0 p1 p2 u1 u2 u0 u0'
        go_wp2_with fail
        go_loopw [6] (fun kv wk => ∃ k : Nat, kv = .int .i64 k ∧ k ≤ i ∧ (∀ j, (hj : j < k) → (hji : j < P.length) → P[j].File ≠ pF) ∧ Below (b1 + 1) W1 wk) (fun kv _ => i - (intOf kv).toNat)
        case atStart => exact ⟨0, rfl, Nat.zero_le _, (fun j hj => absurd hj (by omega)), below_drewN (Below.refl _ _) _⟩
        case round =>
          obtain ⟨k, rfl, hk, hall, hbk⟩ := hrel
          have hbk0 := HB1.out.trans (hbk.mono (by omega))
          have k2 := (hbk0.block B (by omega)).trans K0.out
          have q2 := (hbk.block b1 (by omega)).trans Q1.out
          obtain ⟨c0, -, -, -, -, -, -, -⟩ := seven k2
          obtain ⟨-, -, p2, -⟩ := three q2
          have Hall := Lib.hid hall
          have HBk := Lib.hid hbk
          have HBk0 := Lib.hid (show Below w.heap.size w wr by rw [HB.out]; exact HB0.out.trans (hbk0.mono (by omega)))
          by_cases hki : k < i
          · have hkP : k < P.length := by omega
            have k3 : (k : Int) < i := by omega
            have hk4 : (k : Int) < n := by omega
            obtain ⟨gb, off, e0, hgb, -, -, s2⟩ := part_at (HR.out.below (hs0 ▸ hbk0)) hkP
            cases e0
            obtain ⟨g, hg⟩ : ∃ g, P[k].File = g := ⟨_, rfl⟩
            rw [hg] at s2
            by_cases hfg : g = pF
            · have hcmp : ((S g).toList == (S pF).toList) = true := by rw [hfg]; simp
              have HNO := Lib.hid (show ¬ OkSt ⟨P, N, Q, O, D, T, X⟩ from fun h => (HOKh.out h).2.2.2.2.2 k hki (by rw [hg]; exact hfg))
              clear hall hbk hbk0 k2 q2 hg hfg hgb
              go_wp2_with fail
              go_quiet (fail)
              go_wp2_with fail
              go_ret
              exact RtPost.no HNO.out (below_drewN HBk0.out _)
            · have hcmp : ((S g).toList == (S pF).toList) = false := by
                rw [Lib.toList_data, Lib.toList_data, S_toList, S_toList]
                exact beq_eq_false_iff_ne.2 hfg
              have HNx := Lib.hid (show ∀ j, (hj : j < k + 1) → (hji : j < P.length) → P[j].File ≠ pF from fun j hj hji => by
                by_cases e : j = k
                · subst e; rw [hg]; exact hfg
                · exact hall j (by omega) hji)
              clear hall hbk hbk0 k2 q2 hg hfg hgb
              go_wp2_with fail
              go_quiet (fail)
              go_wp2_with fail
              go_roundw
              case rel => exact ⟨k + 1, by go_num, by omega, HNx.out, below_drewN HBk.out _⟩
              case measure => simp [intOf]; omega
          · obtain rfl : k = i := by omega
            have HX := Lib.hid (show ∀ j, j < k + 1 → (hj : j < P.length) → partOk P N j hj from fun j hj hjP => by
              by_cases e : j = k
              · subst e
                unfold partOk
                rw [Hpp.out]
                simp only [Hf.out]
                exact ⟨D1.out, D2.out, D3.out, D4.out, D5.out, fun k hk => Hall.out k hk (by omega)⟩
              · exact Hok.out j (by omega) hjP)
            have HBx := Lib.hid hbk0
            clear hall hbk hbk0 k2 q2
            go_wp2_with fail
            go_roundw
            case rel => exact ⟨k + 1, by go_num, by omega, HX.out, HBx.out⟩
            case measure => simp [intOf]; omega
      · obtain ⟨j, hj⟩ : ∃ j, i = j + 1 := ⟨i - 1, by omega⟩
        have hjP : j < P.length := by omega
        obtain ⟨gb2, off2, e2, hgb2, t0, -, -⟩ := part_at (HR.out.below (hs0 ▸ HB1.out)) hjP
        cases e2
        obtain ⟨pv, hpv⟩ : ∃ x, P[j].Day = x := ⟨_, rfl⟩
        rw [hpv] at t0
        have m2 : IntKind.i64.wrap ((i : Int) - 1) = (j : Int) := by rw [IntKind.wrap_i64]; omega
        have m3 : (j : Int) < n := by omega
        have u0 : decide ((0 : Int) < (i : Int)) = true := decide_eq_true (by omega)
        have u0' : decide (0 < i) = true := decide_eq_true (by omega)
        by_cases d5 : pD ≤ pv
        · have HNO := Lib.hid (show ¬ OkSt ⟨P, N, Q, O, D, T, X⟩ from fun h => by have := (HOKh.out h).2.2.2.2.1 j hj hjP; omega)
          have u3 : decide (pD ≤ pv) = true := decide_eq_true d5
          clear d5 hpv hgb2 hj i0 hjP
          go_wp2_with fail
          go_quiet ((first | (go_at_call 25; exact Calls.quiet_of_same (H1.out _)) | (go_at_call 26; exact Calls.quiet_of_same (H2.out _))))
          go_wp2_with fail
          go_ret
          exact RtPost.no HNO.out (below_drewN HBW1.out _)
        have D5 := Lib.hid (show ∀ i0, i = i0 + 1 → (h' : i0 < P.length) → P[i0].Day < pD from fun i0 h h' => by have e : j = i0 := (by omega); subst e; rw [hpv]; omega)
        have u3 : decide (pD ≤ pv) = false := decide_eq_false d5
        clear d5 hpv hgb2 hj i0 hjP
        go_wp2_with fail
        go_quiet ((first | (go_at_call 25; exact Calls.quiet_of_same (H1.out _)) | (go_at_call 26; exact Calls.quiet_of_same (H2.out _))))
        clear c0 c1 c2 c3 c4 c5 c6 p0 p1 p2 u1 u2 u3 u0 u0' t0 m2 m3
        go_wp2_with fail
        go_loopw [6] (fun kv wk => ∃ k : Nat, kv = .int .i64 k ∧ k ≤ i ∧ (∀ j, (hj : j < k) → (hji : j < P.length) → P[j].File ≠ pF) ∧ Below (b1 + 1) W1 wk) (fun kv _ => i - (intOf kv).toNat)
        case atStart => exact ⟨0, rfl, Nat.zero_le _, (fun j hj => absurd hj (by omega)), below_drewN (Below.refl _ _) _⟩
        case round =>
          obtain ⟨k, rfl, hk, hall, hbk⟩ := hrel
          have hbk0 := HB1.out.trans (hbk.mono (by omega))
          have k2 := (hbk0.block B (by omega)).trans K0.out
          have q2 := (hbk.block b1 (by omega)).trans Q1.out
          obtain ⟨c0, -, -, -, -, -, -, -⟩ := seven k2
          obtain ⟨-, -, p2, -⟩ := three q2
          have Hall := Lib.hid hall
          have HBk := Lib.hid hbk
          have HBk0 := Lib.hid (show Below w.heap.size w wr by rw [HB.out]; exact HB0.out.trans (hbk0.mono (by omega)))
          by_cases hki : k < i
          · have hkP : k < P.length := by omega
            have k3 : (k : Int) < i := by omega
            have hk4 : (k : Int) < n := by omega
            obtain ⟨gb, off, e0, hgb, -, -, s2⟩ := part_at (HR.out.below (hs0 ▸ hbk0)) hkP
            cases e0
            obtain ⟨g, hg⟩ : ∃ g, P[k].File = g := ⟨_, rfl⟩
            rw [hg] at s2
            by_cases hfg : g = pF
            · have hcmp : ((S g).toList == (S pF).toList) = true := by rw [hfg]; simp
              have HNO := Lib.hid (show ¬ OkSt ⟨P, N, Q, O, D, T, X⟩ from fun h => (HOKh.out h).2.2.2.2.2 k hki (by rw [hg]; exact hfg))
              clear hall hbk hbk0 k2 q2 hg hfg hgb
              go_wp2_with fail
              go_quiet (fail)
              go_wp2_with fail
              go_ret
              exact RtPost.no HNO.out (below_drewN HBk0.out _)
            · have hcmp : ((S g).toList == (S pF).toList) = false := by
                rw [Lib.toList_data, Lib.toList_data, S_toList, S_toList]
                exact beq_eq_false_iff_ne.2 hfg
              have HNx := Lib.hid (show ∀ j, (hj : j < k + 1) → (hji : j < P.length) → P[j].File ≠ pF from fun j hj hji => by
                by_cases e : j = k
                · subst e; rw [hg]; exact hfg
                · exact hall j (by omega) hji)
              clear hall hbk hbk0 k2 q2 hg hfg hgb
              go_wp2_with fail
              go_quiet (fail)
              go_wp2_with fail
              go_roundw
              case rel => exact ⟨k + 1, by go_num, by omega, HNx.out, below_drewN HBk.out _⟩
              case measure => simp [intOf]; omega
          · obtain rfl : k = i := by omega
            have HX := Lib.hid (show ∀ j, j < k + 1 → (hj : j < P.length) → partOk P N j hj from fun j hj hjP => by
              by_cases e : j = k
              · subst e
                unfold partOk
                rw [Hpp.out]
                simp only [Hf.out]
                exact ⟨D1.out, D2.out, D3.out, D4.out, D5.out, fun k hk => Hall.out k hk (by omega)⟩
              · exact Hok.out j (by omega) hjP)
            have HBx := Lib.hid hbk0
            clear hall hbk hbk0 k2 q2
            go_wp2_with fail
            go_roundw
            case rel => exact ⟨k + 1, by go_num, by omega, HX.out, HBx.out⟩
            case measure => simp [intOf]; omega
    · obtain rfl : i = n := by omega
      have HALL := Lib.hid (show ∀ j, (hj : j < P.length) → partOk P N j hj from fun j hj => hok j (by have := Hn.out; omega) hj)
      have HBx := Lib.hid (show Below w.heap.size w wr by rw [HB.out]; exact HB0.out.trans (hbel.mono (by omega)))
      have K0w := Lib.hid k0
      have K0s := Lib.hid (show B < wr.heap.size by have := hbel.size; omega)
      clear hok
      cases O with
      | false =>
        clear hbel k0
        by_cases z1 : ¬ D = 0
        · have HNO := Lib.hid (show ¬ OkSt ⟨P, N, Q, false, D, T, X⟩ from fun h => z1 (h.offs rfl).1)
          have y1 : (D == 0) = false := beq_eq_false_iff_ne.2 z1
          clear z1
          go_wp2_with fail
          go_ret
          exact RtPost.no HNO.out HBx.out
        replace z1 : D = 0 := Decidable.not_not.1 z1
        by_cases z2 : ¬ T = 0
        · have HNO := Lib.hid (show ¬ OkSt ⟨P, N, Q, false, D, T, X⟩ from fun h => z2 (h.offs rfl).2.1)
          have y1 : (D == 0) = true := beq_iff_eq.2 z1
          have y2 : (T == 0) = false := beq_eq_false_iff_ne.2 z2
          clear z1 z2
          go_wp2_with fail
          go_ret
          exact RtPost.no HNO.out HBx.out
        replace z2 : T = 0 := Decidable.not_not.1 z2
        by_cases z3 : ¬ X = 0
        · have HNO := Lib.hid (show ¬ OkSt ⟨P, N, Q, false, D, T, X⟩ from fun h => z3 (h.offs rfl).2.2)
          have y1 : (D == 0) = true := beq_iff_eq.2 z1
          have y2 : (T == 0) = true := beq_iff_eq.2 z2
          have y3 : (X == 0) = false := beq_eq_false_iff_ne.2 z3
          clear z1 z2 z3
          go_wp2_with fail
          go_ret
          exact RtPost.no HNO.out HBx.out
        replace z3 : X = 0 := Decidable.not_not.1 z3
        have HY := Lib.hid (show OkSt ⟨P, N, Q, false, D, T, X⟩ from okst_of E1.out E2.out E3.out E4.out HALL.out (fun _ => ⟨z1, z2, z3⟩) (fun h => by cases h))
        have y1 : (D == 0) = true := beq_iff_eq.2 z1
        have y2 : (T == 0) = true := beq_iff_eq.2 z2
        have y3 : (X == 0) = true := beq_iff_eq.2 z3
        clear z1 z2 z3
        go_wp2_with fail
        go_ret
        exact RtPost.yes HY.out HBx.out
      | true =>
        have HC := rfind_any D A c i ⟨P, N, Q, true, D, T, X⟩ wr (HR.out.below (hs0 ▸ hbel)) Hn.out (by omega)
        obtain ⟨pf, hpf⟩ : ∃ pf, findP P D = pf := ⟨_, rfl⟩
        unfold stVal at HC
        simp only [hpf] at HC
        replace HC := Lib.hid HC
        have HPF := Lib.hid hpf
        clear hpf hbel k0
        go_wp2_with fail
        refine HC.out.mono ?_
        rintro e w5 ⟨rfl, hb5⟩
        have H3 := Lib.hid (fun w => rbit_any T w)
        obtain ⟨b5, hb5'⟩ : ∃ b, w5.heap.size = b := ⟨_, rfl⟩
        have hk0 := (hb5.block B (by have := K0s.out; omega)).trans K0w.out
        cases pf with
        | none =>
          unfold partVal p0
          simp only [Option.getD_none, Option.isSome_none]
          have HBy := Lib.hid (HBx.out.then (hb5.then (Below.one w5 (.cells #[.int .i64 0, .int .i64 0, .string (S [])] 43))))
          have HNO := Lib.hid (show ¬ OkSt ⟨P, N, Q, true, D, T, X⟩ from fun h => by
            obtain ⟨p, hp, -⟩ := h.conv rfl
            have e := HPF.out.symm.trans hp
            cases e)
          clear hb5
          go_wp2_with fail
          go_ret
          exact RtPost.no HNO.out HBy.out
        | some pp =>
          obtain ⟨pD, pL, pF⟩ := pp
          unfold partVal
          simp only [Option.getD_some, Option.isSome_some]
          obtain ⟨W5, hW5, hbel5, q5⟩ : ∃ W, w5.alloc (.cells #[.int .i64 pD, .int .i64 pL, .string (S pF)] 43) = W ∧ Below wr.heap.size wr W ∧ W.heap[b5]? = some (.cells #[.int .i64 pD, .int .i64 pL, .string (S pF)] 43 (0, 0)) := ⟨_, rfl, hb5.then (Below.one _ _), by rw [← hb5']; exact heap_alloc_new _ _⟩
          have HBy := Lib.hid (HBx.out.then hbel5)
          have k5 := (hbel5.block B (by have := K0s.out; omega)).trans K0w.out
          obtain ⟨c0, c1, c2, c3, c4, c5, c6, -⟩ := seven k5
          obtain ⟨-, p1, -, -⟩ := three q5
          clear hb5 hk0 hbel5 q5 k5 a0 a1 a2 a3 a4 a5 a6
          by_cases z1 : ¬ bitOk T
          · have HNO := Lib.hid (show ¬ OkSt ⟨P, N, Q, true, D, T, X⟩ from fun h => by
                obtain ⟨p, hp, h2, h3, h4, h5⟩ := h.conv rfl
                exact z1 h2)
            rw [decide_eq_false z1] at H3
            clear z1
            go_wp2_with fail
            refine (H3.out _).mono ?_
            rintro e w8 ⟨rfl, rfl⟩
            go_wp2_with fail
            go_ret
            exact RtPost.no HNO.out HBy.out
          replace z1 : bitOk T := Decidable.not_not.1 z1
          rw [decide_eq_true z1] at H3
          by_cases z2 : pL = T
          · have HNO := Lib.hid (show ¬ OkSt ⟨P, N, Q, true, D, T, X⟩ from fun h => by
                obtain ⟨p, hp, h2, h3, h4, h5⟩ := h.conv rfl
                have e := HPF.out.symm.trans hp; cases e
                exact h3 z2)
            have y1 : (pL == T) = true := beq_iff_eq.2 z2
            have y1' : (pL != T) = false := by rw [bne, y1]; rfl
            clear z1 z2
            go_wp2_with fail
            refine (H3.out _).mono ?_
            rintro e w8 ⟨rfl, rfl⟩
            go_wp2_with fail
            go_ret
            exact RtPost.no HNO.out HBy.out
          have y1 : (pL == T) = false := beq_eq_false_iff_ne.2 z2
          have y1' : (pL != T) = true := by rw [bne, y1]; rfl
          by_cases z3 : ¬ 0 ≤ X
          · have HNO := Lib.hid (show ¬ OkSt ⟨P, N, Q, true, D, T, X⟩ from fun h => by
                obtain ⟨p, hp, h2, h3, h4, h5⟩ := h.conv rfl
                exact z3 h4)
            have y2 : decide (0 ≤ X) = false := decide_eq_false z3
            clear z1 z2 z3
            go_wp2_with fail
            refine (H3.out _).mono ?_
            rintro e w8 ⟨rfl, rfl⟩
            go_wp2_with fail
            go_ret
            exact RtPost.no HNO.out HBy.out
          replace z3 : 0 ≤ X := Decidable.not_not.1 z3
          have y2 : decide (0 ≤ X) = true := decide_eq_true z3
          by_cases z4 : ¬ X ≤ 5000
          · have HNO := Lib.hid (show ¬ OkSt ⟨P, N, Q, true, D, T, X⟩ from fun h => by
                obtain ⟨p, hp, h2, h3, h4, h5⟩ := h.conv rfl
                exact z4 h5)
            have y3 : decide (X ≤ 5000) = false := decide_eq_false z4
            clear z1 z2 z3 z4
            go_wp2_with fail
            refine (H3.out _).mono ?_
            rintro e w8 ⟨rfl, rfl⟩
            go_wp2_with fail
            go_ret
            exact RtPost.no HNO.out HBy.out
          replace z4 : X ≤ 5000 := Decidable.not_not.1 z4
          have y3 : decide (X ≤ 5000) = true := decide_eq_true z4
          have HY := Lib.hid (show OkSt ⟨P, N, Q, true, D, T, X⟩ from okst_of E1.out E2.out E3.out E4.out HALL.out (fun h => by cases h) (fun _ => ⟨_, HPF.out, z1, z2, z3, z4⟩))
          clear z1 z2 z3 z4
          go_wp2_with fail
          refine (H3.out _).mono ?_
          rintro e w8 ⟨rfl, rfl⟩
          go_wp2_with fail
          go_ret
          exact RtPost.yes HY.out HBy.out
end Go.Proofs.YtbheoahpaidpmaaDoor
