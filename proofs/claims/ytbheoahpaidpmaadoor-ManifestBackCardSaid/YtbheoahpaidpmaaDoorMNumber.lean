/-
  manifest.number.
-/
import Derived.Test.YtbheoahpaidpmaaDoorManAtoi
import Derived.Test.YtbheoahpaidpmaaDoorManAtoiP
import Derived.Test.YtbheoahpaidpmaaDoorPackC
import Derived.Lib.AtoiErrMem
namespace Go.Proofs.YtbheoahpaidpmaaDoor
open Go Go.RowKit

/-- strconv's two errors lie there -/
def Errs (w : World) : Prop := (∃ t p, w.cell? ⟨1, 0, none⟩ = some (.iface t p)) ∧ ∃ t p, w.cell? ⟨2, 0, none⟩ = some (.iface t p)
theorem Errs.below {w w' : World} (h : Errs w) (hb : Below w.heap.size w w') : Errs w' := by
  obtain ⟨⟨t, p, h1⟩, u, q, h2⟩ := h
  exact ⟨⟨t, p, keepc hb h1⟩, u, q, keepc hb h2⟩
/-- what Atoi answers -/
def AtoiPost (t : List UInt8) (w : World) (e : Ending) (w' : World) : Prop :=
  ((∃ v, Lib.atoiAll t = .ok v ∧ e = .returned (.tuple #[.int .i64 v, .nilIface])) ∨ ((∀ v, Lib.atoiAll t ≠ .ok v) ∧ ∃ x N, e = .returned (.tuple #[.int .i64 x, .iface 119 (.pointer (some ⟨N, 0, none⟩))]))) ∧ Below w.heap.size w w'
theorem atoi_any (t : List UInt8) (w : World) (hs : t.length ≤ 1000000000) (he : Errs w) : Calls Tryd.prog 60 #[.string (S t)] w (AtoiPost t w) := by
  have hsz : (S t).size = t.length := S_size t
  have hl : (S t).data.toList = t := S_toList t
  obtain ⟨⟨tp, pv, h1⟩, tq, qv, h2⟩ := he
  match hc : Lib.atoiAll t with
  | .ok v =>
    refine (Tryd.strconv_Atoi_ok (S t) (by rw [hsz]; omega) v (by rw [hl]; exact hc) w).mono ?_
    rintro e w' ⟨rfl, hw⟩
    refine ⟨.inl ⟨v, hc, rfl⟩, ?_⟩
    rcases hw with rfl | ⟨x, rfl⟩
    · exact Below.refl _ _
    · exact Lib.bytesWorld_below _ _ _
  | Lib.NumEnd.syntax =>
    refine (Tryd.strconv_Atoi_syntax (S t) (by rw [hsz]; omega) (by rw [hl]; exact hc) _ w h1 (.inr ⟨_, _, rfl⟩)).mono ?_
    rintro e w' ⟨N, rfl, -, -, hb⟩
    exact ⟨.inr ⟨fun v e => (by rw [hc] at e; cases e), 0, N, rfl⟩, hb⟩
  | .range =>
    refine (Tryd.strconv_Atoi_range (S t) (by rw [hsz]; omega) (by rw [hl]; exact hc) _ w h2 (.inr ⟨_, _, rfl⟩)).mono ?_
    rintro e w' ⟨N, rfl, -, -, hb⟩
    exact ⟨.inr ⟨fun v e => (by rw [hc] at e; cases e), _, N, rfl⟩, hb⟩

set_option linter.unusedSimpArgs false in
set_option maxRecDepth 100000 in
set_option maxHeartbeats 4000000 in
theorem mnumber_any (l : List UInt8) (w : World) (hs : l.length ≤ 1000000000) (hp : Pow w) (he : Errs w) :
    Calls Tryd.prog 45 #[.string (S l)] w fun e w' => e = .returned (.int .i64 (numF l)) ∧ Below w.heap.size w w' := by
  have HC := Tryd.strings_CutPrefix (S l) ⟨#[102]⟩ w
  rw [S_toList] at HC
  by_cases hpre : ∃ t, l = 102 :: t
  · obtain ⟨t, rfl⟩ := hpre
    rw [show (⟨#[102]⟩ : ByteArray).data.toList = [102] from rfl, (prefix_yes t).1, (prefix_yes t).2] at HC
    replace HC := Lib.hid HC
    have HA := Lib.hid (atoi_any t w (by simp at hs; omega) he)
    have HP := Lib.hid hp
    have hNok := Lib.hid (fun h => numF_notok (t := t) h)
    have hOk := Lib.hid (fun v h => numF_ok (t := t) (v := v) h)
    obtain ⟨l, hl⟩ : ∃ l, 102 :: t = l := ⟨_, rfl⟩
    rw [hl] at HC hNok hOk ⊢
    clear hl hs hp he
    go_enter Tryd.func45, Tryd.ntmps45
    go_wp2_with fail
    refine HC.out.mono ?_
    rintro e1 w1 ⟨rfl, rfl⟩
    go_wp2_with fail
    refine HA.out.mono ?_
    rintro e2 w2 ⟨⟨v, hv, rfl⟩ | ⟨hno, x, N, rfl⟩, hb2⟩
    · obtain ⟨k1, k2, k3⟩ := hOk.out v hv
      have hbd := Lib.atoiAll_bounds hv
      have HF := Lib.hid (file_any v hbd.2 w2 (HP.out.below hb2))
      have HB2 := Lib.hid hb2
      have K1 := Lib.hid k1
      have K2 := Lib.hid k2
      have K3 := Lib.hid k3
      clear hv k1 k2 k3 hbd hb2
      by_cases hfe : fileB v = l
      · have hcmp : ((S (fileB v)).toList == (S l).toList) = true := by rw [hfe]; simp
        by_cases hbig : 100000000000000 ≤ v
        · have t1 : decide (100000000000000 ≤ v) = true := decide_eq_true hbig
          have HN := Lib.hid (K3.out hbig)
          clear hfe hbig
          go_wp2_with fail
          refine HF.out.mono ?_
          rintro e3 w3 ⟨rfl, hb3⟩
          go_wp2_with fail
          go_ret
          exact ⟨by rw [HN.out]; rfl, HB2.out.then hb3⟩
        · have t1 : decide (100000000000000 ≤ v) = false := decide_eq_false hbig
          have HN := Lib.hid (K1.out hfe (by omega))
          clear hfe hbig
          go_wp2_with fail
          refine HF.out.mono ?_
          rintro e3 w3 ⟨rfl, hb3⟩
          go_wp2_with fail
          go_ret
          exact ⟨by rw [HN.out]; rfl, HB2.out.then hb3⟩
      · have hcmp : ((S (fileB v)).toList == (S l).toList) = false := by
          rw [Lib.toList_data, Lib.toList_data, S_toList, S_toList]
          exact beq_eq_false_iff_ne.2 hfe
        have HN := Lib.hid (K2.out hfe)
        clear hfe
        go_wp2_with fail
        refine HF.out.mono ?_
        rintro e3 w3 ⟨rfl, hb3⟩
        go_wp2_with fail
        go_ret
        exact ⟨by rw [HN.out]; rfl, HB2.out.then hb3⟩
    · have HN := Lib.hid (hNok.out hno)
      have HB2 := Lib.hid hb2
      clear hno hb2
      go_wp2_with fail
      go_ret
      exact ⟨by rw [HN.out]; rfl, HB2.out⟩
  · have hpre' : ∀ t, l ≠ 102 :: t := fun t e => hpre ⟨t, e⟩
    rw [show (⟨#[102]⟩ : ByteArray).data.toList = [102] from rfl, (prefix_no hpre').1, (prefix_no hpre').2] at HC
    replace HC := Lib.hid HC
    have HN := Lib.hid (numF_noprefix hpre')
    have HA := Lib.hid (atoi_any l w (by omega) he)
    clear hs hp he hpre hpre'
    go_enter Tryd.func45, Tryd.ntmps45
    go_wp2_with fail
    refine HC.out.mono ?_
    rintro e1 w1 ⟨rfl, rfl⟩
    go_wp2_with fail
    refine HA.out.mono ?_
    rintro e2 w2 ⟨⟨v, hv, rfl⟩ | ⟨hno, x, N, rfl⟩, hb2⟩
    all_goals
      have HB2 := Lib.hid hb2
      clear hb2
      go_wp2_with fail
      go_ret
      exact ⟨by rw [HN.out]; rfl, HB2.out⟩
end Go.Proofs.YtbheoahpaidpmaaDoor
