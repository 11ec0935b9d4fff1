/-
  The walk of the law 'DeltaMoved'.
-/
import Derived.Test.YtjendmojkdkipaaMovedPlain
import Derived.Test.YtjendmojkdkipaaRDDec
import Derived.Test.YtjendmojkdkipaaSampEq
namespace Go.Proofs.Ytjendmojkdkipaa
open Go Go.RowKit

set_option maxRecDepth 100000 in
set_option maxHeartbeats 4000000 in
theorem deltaMoved_walk (w : World) (v0 : Value) (b : Int) (g0 : ∃ A c, ∃ xs : List Sample, v0 = .slice A xs.length c ∧ Rd w 2 A xs.length (xs.flatMap sampleCells) ∧ (∀ x ∈ xs, Sample.ok x) ∧ xs.length ≤ c ∧ c ≤ maxLen) (hb0 : -9223372036854775808 ≤ b) (hb1 : b ≤ 9223372036854775807) :
    Calls Try.prog 6 #[v0, .int .i64 b] w fun e w' => e = .returned (.bool true) ∧ Below w.heap.size w w' := by
  obtain ⟨A, c, xs, rfl, hrd, hok, hc, hcm⟩ := g0
  by_cases h : 100 < xs.length
  · have hd : decide ((100 : Int) < (xs.length : Int)) = true := decide_eq_true (by omega)
    go_enter Try.func6, Try.ntmps6
    go_wp2_with fail
    go_ret
    exact ⟨rfl, Below.refl _ _⟩
  · have hd : decide ((100 : Int) < (xs.length : Int)) = false := decide_eq_false (by omega)
    have hP0 := Lib.hid (pairs_made w)
    have Hrd := Lib.hid hrd
    have Hok := Lib.hid hok
    have Hb := Lib.hid (And.intro hb0 hb1)
    have hlx : xs.length ≤ 100 := by omega
    clear hrd hok hb0 hb1 h
    go_enter Try.func6, Try.ntmps6
    go_wp2_with fail
    go_loopw [5, 6, 7] (fun lv mv ix wr => ∃ (j : Nat) (ys : List Sample) (O Q : Option Addr) (co cq : Nat), ix = .int .i64 j ∧ j ≤ xs.length ∧ lv = .slice O ys.length co ∧ mv = .slice Q ys.length cq ∧ keepL (xs.take j) = ys ∧ ys.length ≤ j ∧ Kept ys ∧ Pairs w.heap.size (.slice O ys.length co) (.slice Q ys.length cq) ys (movL b ys) w wr) (fun _ _ ix _ => xs.length - (intOf ix).toNat)
    case atStart => exact ⟨0, [], _, _, 0, 0, rfl, by omega, rfl, rfl, rfl, by simp, ⟨⟨fun x hx => (by cases hx), fun i hi => absurd hi (by simp)⟩, fun x hx => (by cases hx)⟩, hP0.out⟩
    case round =>
      clear hP0
      obtain ⟨j, ys, O, Q, co, cq, rfl, hj, rfl, rfl, hys, hyl, hk, hP⟩ := hrel
      have HP := Lib.hid hP
      have Hk := Lib.hid hk
      have Hys := Lib.hid hys
      by_cases hlt : j < xs.length
      · obtain ⟨b0, off, rfl, hb0, g0, g1⟩ := sample_at Hrd.out hlt
        obtain ⟨b', off', hA', _, f0, f1⟩ := sample_at (Hrd.out.below hP.b) hlt
        obtain ⟨rfl, rfl⟩ : b0 = b' ∧ off = off' := by simpa using hA'
        have hv := (Hok.out _ (List.getElem_mem hlt)).2
        have hnext := keepL_next hlt
        rw [hys] at hnext
        have fw1 := g1
        clear hys hP hk g0 g1 hA'
        obtain ⟨t, ht⟩ : ∃ t, andT xs[j].T = t := ⟨_, rfl⟩
        have htb := andT_in xs[j].T
        rw [ht] at htb
        have hand : bits .and .i64 xs[j].T 1073741823 = t := ht
        obtain ⟨V2, hV2⟩ : ∃ V2, wrapV (xs[j].V + b) = V2 := ⟨_, rfl⟩
        have hw2 : IntKind.i64.wrap (xs[j].V + b) = V2 := hV2
        have hkeep : keepS ys xs[j] = if ys.length = 0 ∨ lastT ys < t then ys ++ [⟨t, xs[j].V⟩] else ys := by unfold keepS; rw [ht]
        rw [hkeep] at hnext
        have hmv : movL b (ys ++ [⟨t, xs[j].V⟩]) = movL b ys ++ [⟨t, V2⟩] := by rw [movL_snoc, hV2]
        have Hmv := Lib.hid hmv
        clear hkeep ht hV2 hmv
        generalize xs[j].T = T0 at *
        generalize xs[j].V = V at *
        by_cases h0 : ys.length = 0
        · obtain rfl : ys = [] := List.eq_nil_of_length_eq_zero h0
          rw [if_pos (.inl rfl)] at hnext
          have Hnext := Lib.hid hnext
          clear hnext h0
          rw [show ([] : List Sample).length = 0 from rfl] at *
          go_wp2_with (at_builtin; first | (refine wpList_append_elem_row rfl (.tmp 48) (.tmp 56) 23 (by rfl) 25 (.agg #[.int .i64 0, .int .i64 0]) 2 16 Try.underlying23 sampleInf rfl (by decide) _ 0 _ _ wr #[.int .i64 t, .int .i64 V] rfl (by intro u hu; simp at hu; rcases hu with rfl | rfl <;> rfl) HP.out.l (by rfl) (HP.out.old (Nat.le_refl _)) (by rfl) (by unfold maxLen; omega) (by omega) ?_; intro v5 w5 hown5 hst5 hgr5 hat5; have HP5 := Lib.hid (HP.out.append (x := ⟨t, V⟩) hown5 hst5 hat5); obtain ⟨A5, c5, rfl⟩ := own_form hown5.1; have f1' := (HP5.out.b.cell (p := ⟨b0, off + j * 2 + 1, none⟩) hb0).trans fw1; clear hown5 hst5 hgr5 hat5) | (go_must (refine wpList_append_elem_row rfl (.tmp 58) (.tmp 68) 23 (by rfl) 25 (.agg #[.int .i64 0, .int .i64 0]) 2 16 Try.underlying23 sampleInf rfl (by decide) _ 0 _ _ w5 #[.int .i64 t, .int .i64 V2] rfl (by intro u hu; simp at hu; rcases hu with rfl | rfl <;> rfl) HP5.out.swap.l (by rfl) (HP5.out.swap.old (Nat.le_refl _)) (by rfl) (by unfold maxLen; omega) (by omega) ?_); intro v6 w6 hown6 hst6 hgr6 hat6; have HP6 := Lib.hid (HP5.out.swap.append (x := ⟨t, V2⟩) hown6 hst6 hat6).swap; obtain ⟨A6, c6, rfl⟩ := own_form hown6.1; clear hown6 hst6 hgr6 hat6))
          go_roundw
          case rel => exact ⟨j + 1, [⟨t, V⟩], A5, A6, c5, c6, by go_num, by omega, rfl, rfl, Hnext.out, by simp, kept_snoc Hk.out htb hv (.inl rfl), by rw [show ([⟨t, V⟩] : List Sample) = [] ++ [⟨t, V⟩] from rfl, Hmv.out]; exact HP6.out⟩
          case measure => simp [intOf]; omega
        · obtain ⟨m, hm⟩ : ∃ m, ys.length = m + 1 := ⟨ys.length - 1, by omega⟩
          obtain ⟨g, o, rfl, hgl, e0, e1⟩ := sample_at HP.out.l.rd (show m < ys.length by omega)
          have hlast : ys[m].T = lastT ys := by unfold lastT; rw [show ys.length - 1 = m by omega, sAt_get (by omega)]
          rw [hlast] at e0
          have hml : ys.length ≤ 100 := by omega
          have hm1 : (ys.length : Int) - 1 = (m : Int) := by omega
          have hm2 : (m : Int) < (ys.length : Int) := by omega
          have hm3 : ((ys.length : Int) == 0) = false := beq_eq_false_iff_ne.2 (by omega)
          have hm4 : 1 ≤ ys.length := by omega
          have Hml := Lib.hid (movL_length b ys)
          have hml2 : (movL b ys).length ≤ 100 := by rw [Hml.out]; exact hml
          by_cases hc : lastT ys < t
          · rw [if_pos (.inr hc)] at hnext
            have Hnext := Lib.hid hnext
            have Hc := Lib.hid hc
            have hcd : decide (lastT ys < t) = true := decide_eq_true hc
            clear hnext h0 hlast e1 hc hm
            generalize hlt0 : lastT ys = lt0 at *
            have Hlt0 := Lib.hid hlt0
            clear hlt0
            go_wp2_with (at_builtin; first | (refine wpList_append_elem_row rfl (.tmp 48) (.tmp 56) 23 (by rfl) 25 (.agg #[.int .i64 0, .int .i64 0]) 2 16 Try.underlying23 sampleInf rfl (by decide) _ ys.length _ _ wr #[.int .i64 t, .int .i64 V] rfl (by intro u hu; simp at hu; rcases hu with rfl | rfl <;> rfl) HP.out.l (by rfl) (HP.out.old (Nat.le_refl _)) (by rfl) (by unfold maxLen; omega) (by omega) ?_; intro v5 w5 hown5 hst5 hgr5 hat5; have HP5 := Lib.hid (HP.out.append (x := ⟨t, V⟩) hown5 hst5 hat5); obtain ⟨A5, c5, rfl⟩ := own_form hown5.1; have f1' := (HP5.out.b.cell (p := ⟨b0, off + j * 2 + 1, none⟩) hb0).trans fw1; clear hown5 hst5 hgr5 hat5) | (go_must (refine wpList_append_elem_row rfl (.tmp 58) (.tmp 68) 23 (by rfl) 25 (.agg #[.int .i64 0, .int .i64 0]) 2 16 Try.underlying23 sampleInf rfl (by decide) _ (movL b ys).length _ _ w5 #[.int .i64 t, .int .i64 V2] rfl (by intro u hu; simp at hu; rcases hu with rfl | rfl <;> rfl) HP5.out.swap.l (by rfl) (HP5.out.swap.old (Nat.le_refl _)) (by rfl) (by unfold maxLen; omega) (by omega) ?_); intro v6 w6 hown6 hst6 hgr6 hat6; have HP6 := Lib.hid (HP5.out.swap.append (x := ⟨t, V2⟩) hown6 hst6 hat6).swap; obtain ⟨A6, c6, rfl⟩ := own_form hown6.1; clear hown6 hst6 hgr6 hat6))
            go_roundw
            case rel =>
              have e1 : (ys ++ [(⟨t, V⟩ : Sample)]).length = ys.length + 1 := by simp
              refine ⟨j + 1, ys ++ [⟨t, V⟩], A5, A6, c5, c6, by go_num, by omega, by rw [e1], by rw [e1, Hml.out], Hnext.out, by rw [e1]; omega, kept_snoc Hk.out htb hv (.inr (by rw [Hlt0.out]; exact Hc.out)), ?_⟩
              rw [Hmv.out, e1]
              have := HP6.out
              rw [Hml.out] at this
              exact this
            case measure => simp [intOf]; omega
          · rw [if_neg (by omega)] at hnext
            have Hnext := Lib.hid hnext
            have hcd : decide (lastT ys < t) = false := decide_eq_false hc
            clear hnext h0 hlast e1 hc hm
            generalize lastT ys = lt0 at *
            go_wp2_with fail
            go_roundw
            case rel => exact ⟨j + 1, ys, _, Q, co, cq, by go_num, by omega, rfl, rfl, Hnext.out, by omega, Hk.out, HP.out⟩
            case measure => simp [intOf]; omega
      · obtain rfl : j = xs.length := by omega
        obtain ⟨⟨hf, hokl⟩, hfm, hokm⟩ := movL_fine (b := b) Hk.out
        obtain ⟨hl1, hl2⟩ := mov_len (b := b) Hk.out
        have hml := movL_length b ys
        obtain ⟨A1, c1, e1, hr1, hc1, hcm1⟩ := own_slice hP.l.1
        obtain ⟨A2, c2, e2, hr2, hc2, hcm2⟩ := own_slice hP.r.1
        simp only [Value.slice.injEq] at e1 e2
        obtain ⟨rfl, -, rfl⟩ := e1
        obtain ⟨rfl, -, rfl⟩ := e2
        have hb1 := encB_len hf hokl (by omega)
        have hb2 := encB_len hfm hokm (by omega)
        have E1 := denc_all O co ys wr hr1 hokl (by omega) hc1 hcm1
        have E2 := fun w' h => denc_all Q cq (movL b ys) w' h hokm (by omega) hc2 hcm2
        have E3 := fun w' h => rdenc_all Q cq (movL b ys) w' h hokm (by omega)
        rw [encV_fine hf] at E1
        simp only [encV_fine hfm, hml] at E2 E3
        obtain ⟨d1, d2⟩ := dec_enc hfm hokm (by omega)
        have D1 := fun w => ddec_one (S (encB (movL b ys))) w (by rw [S_size]; omega)
        simp only [S_toList, d1, d2, hml] at D1
        have SM := Lib.hid (fun A B ca cb w h1 h2 => same03_any A B ca cb (movL b ys) (movL b ys) w h1 h2 (by omega))
        simp only [samesB_self, hml] at SM
        rw [← S_size (encB ys), ← S_size (encB (movL b ys))] at hl1 hl2
        have hs1 : (S (encB ys)).size ≤ 1000000 := by rw [S_size]; omega
        have hs2 : (S (encB (movL b ys))).size ≤ 1000000 := by rw [S_size]; omega
        have HE1 := Lib.hid E1
        have HE2 := Lib.hid E2
        have HE3 := Lib.hid E3
        have HD1 := Lib.hid D1
        have Hr1 := Lib.hid hr1
        have Hr2 := Lib.hid hr2
        have Hb0 := Lib.hid hP.b
        have Hml := Lib.hid hml
        clear E1 E2 E3 D1 d1 d2 hf hokl hfm hokm hr1 hr2 hys hP hml hb1 hb2 hlt hyl
        generalize S (encB ys) = T1 at *
        generalize S (encB (movL b ys)) = T2 at *
        generalize (movL b ys).flatMap sampleCells = zs at *
        have k1 : decide ((T1.size : Int) - (T2.size : Int) ≤ 9) = true := decide_eq_true (by omega)
        have k2 : decide ((T2.size : Int) - (T1.size : Int) ≤ 9) = true := decide_eq_true (by omega)
        go_wp2_with fail
        refine HE1.out.mono ?_
        rintro e w1 ⟨rfl, hb1⟩
        have Hr3 := Lib.hid (Hr2.out.below hb1)
        have Hb1 := Lib.hid (Hb0.out.trans (hb1.mono Hb0.out.size))
        clear hb1
        go_wp2_with fail
        refine (HE2.out _ (by have := Hr3.out; rw [Hml.out] at this; exact this)).mono ?_
        rintro e w2 ⟨rfl, hb2⟩
        have Hr4 := Lib.hid (Hr3.out.below hb2)
        have Hb2 := Lib.hid (Hb1.out.trans (hb2.mono Hb1.out.size))
        clear hb2
        go_wp2_with fail
        refine (HD1.out _).mono ?_
        rintro e w3 ⟨B, d, rfl, hr5, _, _, hb3⟩
        have Hr5 := Lib.hid (Hr4.out.below hb3)
        have Hr6 := Lib.hid hr5
        have Hb3 := Lib.hid (Hb2.out.trans (hb3.mono Hb2.out.size))
        clear hb3 hr5
        go_wp2_with fail
        refine (HE3.out _ (by have := Hr5.out; rw [Hml.out] at this; exact this)).mono ?_
        rintro e w4 ⟨rfl, hb4⟩
        have Hr7 := Lib.hid (Hr5.out.below hb4)
        have Hr8 := Lib.hid (Hr6.out.below hb4)
        have Hb4 := Lib.hid (Hb3.out.trans (hb4.mono Hb3.out.size))
        clear hb4
        go_wp2_with fail
        refine (SM.out _ _ _ _ _ Hr8.out (by have := Hr7.out; rw [Hml.out] at this; exact this)).mono ?_
        rintro e w5 ⟨rfl, hb5⟩
        have Hb5 := Lib.hid (Hb4.out.trans (hb5.mono Hb4.out.size))
        clear hb5
        go_wp2_with fail
        go_ret
        exact ⟨rfl, Hb5.out⟩
end Go.Proofs.Ytjendmojkdkipaa
