/-
  The walk of the document's Reader's Rice.
-/
import Derived.Test.YtmllnfplahaccaaRReader
namespace Go.Proofs.Ytmllnfplahaccaa
open Go Go.RowKit

theorem lead_form (l : List Bool) (m : Nat) : ∃ r, l.take m = List.replicate (lead l m) true ++ r ∧ (r = [] ∨ ∃ r', r = false :: r') := by
  unfold lead
  rcases takeWhile_form (l.take m) with ⟨q, r, h1, h2⟩ | ⟨h1, h2⟩
  · rw [h2]; exact ⟨_, h1, .inr ⟨r, rfl⟩⟩
  · rw [h2]; exact ⟨[], by rw [List.append_nil]; exact h1, .inl rfl⟩
theorem lead_in {l : List Bool} {m q : Nat} (h : q < lead l m) : q < m ∧ ∃ hq : q < l.length, l[q] = true := by
  have hle := lead_le l m
  obtain ⟨r, h1, _⟩ := lead_form l m
  refine ⟨by omega, by omega, ?_⟩
  have h2 : (l.take m)[q]? = some true := by
    rw [h1, List.getElem?_append_left (by rw [List.length_replicate]; exact h), List.getElem?_replicate, if_pos h]
  rw [List.getElem?_take, if_pos (by omega), List.getElem?_eq_getElem (by omega)] at h2
  exact Option.some.inj h2
theorem lead_stop {l : List Bool} {m : Nat} (h : lead l m < m) (hl : lead l m < l.length) : l[lead l m] = false := by
  obtain ⟨r, h1, h2⟩ := lead_form l m
  have hlen := congrArg List.length h1
  rw [List.length_take, List.length_append, List.length_replicate] at hlen
  rcases h2 with rfl | ⟨r', rfl⟩
  · simp at hlen; omega
  · have h2 : (l.take m)[lead l m]? = some false := by
      rw [h1, List.getElem?_append_right (by rw [List.length_replicate]; exact Nat.le_refl _), List.length_replicate, Nat.sub_self]; rfl
    rw [List.getElem?_take, if_pos h, List.getElem?_eq_getElem hl] at h2
    exact Option.some.inj h2

theorem drop_bit {s : ByteArray} {j q : Nat} (h : j + q < 8 * s.size) (hq : q < ((sbits s).drop j).length) : bitN s (j + q) = (((sbits s).drop j)[q]).toNat := by
  obtain ⟨hp, e⟩ := bitN_of (s := s) (p := j + q) h
  rw [e, List.getElem_drop]

theorem bit_one (b : Nat) (s : ByteArray) (p : Nat) (w : World) (h0 : w.cell? ⟨b, 0, none⟩ = some (.string s)) (hs : s.size ≤ 1000000) (hp : p < 8 * s.size) (h : bitN s p = 1) :
    Calls Try.prog 39 #[.pointer (some ⟨b, 0, none⟩), .int .i64 p] w fun e w' => e = .returned (.int .u64 1) ∧ w = w' := by
  have B := bit_any b s p w h0 hs hp
  rw [h] at B; exact B
theorem bit_zero (b : Nat) (s : ByteArray) (p : Nat) (w : World) (h0 : w.cell? ⟨b, 0, none⟩ = some (.string s)) (hs : s.size ≤ 1000000) (hp : p < 8 * s.size) (h : bitN s p = 0) :
    Calls Try.prog 39 #[.pointer (some ⟨b, 0, none⟩), .int .i64 p] w fun e w' => e = .returned (.int .u64 0) ∧ w = w' := by
  have B := bit_any b s p w h0 hs hp
  rw [h] at B; exact B

theorem got_of {T : TypeId} {b j : Nat} {s : ByteArray} {g g' : Nat × Nat × Nat} {w w' : World} {e : Ending} (h : g = g') (he : e = .returned (.tuple #[.int .u64 (g'.1 : Nat), .int .i64 (g'.2.2 : Nat)])) (hr : RdrOf T b s (j + g'.2.1) w') (hb : But b w w') :
    e = .returned (.tuple #[.int .u64 (g.1 : Nat), .int .i64 (g.2.2 : Nat)]) ∧ RdrOf T b s (j + g.2.1) w' ∧ But b w w' := by
  subst h; exact ⟨he, hr, hb⟩

/-- behind the bits 1 at the head -/
def Ones (b : Nat) (s : ByteArray) (j q : Nat) (w wr : World) : Prop := RdrOf 63 b s (j + q) wr ∧ But b w wr

set_option maxRecDepth 100000 in
set_option maxHeartbeats 2000000 in
theorem rrice_in (b : Nat) (s : ByteArray) (j k : Nat) (w : World) (h : RdrOf 63 b s j w) (hs : s.size ≤ 1000000) (hj : j ≤ 8 * s.size) (hk : k ≤ 40) :
    Calls Try.prog 22 #[.pointer (some ⟨b, 0, none⟩), .int .i64 k] w (Got 63 b s j (riceR ((sbits s).drop j) k) w) := by
  have hk1 : decide ((k : Int) < 0) = false := decide_eq_false (by omega)
  have hk2 : decide ((40 : Int) < (k : Int)) = false := decide_eq_false (by omega)
  obtain ⟨c0, c1, f1⟩ := RdrOf.cells h
  have HH := Lib.hid h
  have hl : ((sbits s).drop j).length = 8 * s.size - j := by rw [List.length_drop, sbits_size]
  have Hl := Lib.hid hl
  have hle := lead_le ((sbits s).drop j) 24
  obtain ⟨ld, hld⟩ : ∃ ld, ld = lead ((sbits s).drop j) 24 := ⟨_, rfl⟩
  rw [hl, ← hld] at hle
  have Hle := Lib.hid hle
  have Hld := Lib.hid hld
  have Hs := Lib.hid hs
  have Hj := Lib.hid hj
  have hj64 : (j : Int) ≤ 8000000 := by omega
  have hsz : (s.size : Int) ≤ 1000000 := by omega
  clear h hl hle hld hs hj
  go_enter Try.func22, Try.ntmps22
  go_wp2_with fail
  go_loopw [7] (fun qv wr => ∃ q : Nat, qv = .int .u64 q ∧ q ≤ ld ∧ Ones b s j q w wr) (fun qv _ => 24 - (intOf qv).toNat)
  case atStart => exact ⟨0, rfl, by omega, HH.out, But.refl _ _⟩
  case round =>
    clear c0 c1 f1
    obtain ⟨q, rfl, hq, hO⟩ := hrel
    have hle := Hle.out
    have hqi : (q : Int) ≤ 24 := by omega
    have HO := Lib.hid hO
    by_cases hlt : q < ld
    · obtain ⟨l1, l2, l3⟩ := lead_in (l := (sbits s).drop j) (m := 24) (q := q) (by rw [← Hld.out]; exact hlt)
      have hjq : j + q < 8 * s.size := by have := Hl.out; omega
      have hb1 : bitN s (j + q) = 1 := by rw [drop_bit hjq l2, l3]; rfl
      have L := Lib.hid (rleft_any b s (j + q) wr hO.1 (by have := Hs.out; omega) (by omega))
      have B := Lib.hid (fun w h0 => bit_one b s (j + q) w h0 Hs.out hjq hb1)
      have d1 : decide ((q : Int) < 24) = true := decide_eq_true (by omega)
      have d2 : decide ((0 : Int) < 8 * (s.size : Int) - ((j + q : Nat) : Int)) = true := decide_eq_true (by omega)
      have d3 : decide (((j + q : Nat) : Int) < 8 * (s.size : Int)) = true := decide_eq_true (by omega)
      have Hlt := Lib.hid (And.intro hlt l1)
      obtain ⟨p, hp⟩ : ∃ p, p = j + q := ⟨_, rfl⟩
      rw [← hp] at L B d2 d3
      have hpi : (p : Int) ≤ 8000000 := by have := Hs.out; omega
      have Hp := Lib.hid hp
      clear hlt l1 l2 l3 hjq hb1 hO hq hp hle
      go_wp2_with fail
      refine L.out.mono ?_
      rintro e w1 ⟨rfl, hs1⟩
      have hr1 := hs1.rdr HO.out.1
      rw [← Hp.out] at hr1
      obtain ⟨c0, c1, f1⟩ := RdrOf.cells hr1
      have HR1 := Lib.hid hr1
      have HB1 := Lib.hid hs1
      clear hr1 hs1
      go_wp2_with fail
      refine (B.out _ c0).mono ?_
      rintro e w2 ⟨rfl, rfl⟩
      go_wp2_with fail
      go_roundw
      case rel =>
        have := Hlt.out
        refine ⟨q + 1, by go_num, by omega, ?_, (HO.out.2.trans (HB1.out.but b)).trans (but_set _ _ _ _)⟩
        have e9 : j + (q + 1) = p + 1 := by have := Hp.out; omega
        rw [e9]
        exact RdrOf.set2 (t := 1) HR1.out
      case measure => have := Hlt.out; simp [intOf]; omega
    · have hqe : q = ld := by omega
      clear hlt
      have hlen := Hl.out
      have hlead : lead ((sbits s).drop j) 24 = q := by rw [hqe]; exact Hld.out.symm
      by_cases h24 : q = 24
      · obtain rfl := h24
        clear hqe
        have hr : riceR ((sbits s).drop j) k = if 8 * s.size - j < 88 then (0, 0, 10) else if numB (((sbits s).drop (j + 24)).take 64) / 2 ^ k < 24 then (0, 0, 11) else (numB (((sbits s).drop (j + 24)).take 64), 88, 0) := by
          unfold riceR; rw [hlead, if_neg (by omega), hlen, List.drop_drop]
        have hg : getZ ((sbits s).drop (j + 24)) 64 = if 8 * s.size - j < 88 then (0, 0, 10) else (numB (((sbits s).drop (j + 24)).take 64), 64, 0) := by
          unfold getZ getR
          rw [if_pos (by decide)]
          have : ((sbits s).drop (j + 24)).length = 8 * s.size - (j + 24) := by rw [List.length_drop, sbits_size]
          rw [this]
          show (if 8 * s.size - (j + 24) < 64 then _ else _) = _
          by_cases hc : 8 * s.size - j < 88
          · rw [if_pos hc, if_pos (by omega)]
          · rw [if_neg hc, if_neg (by omega)]; rfl
        have G := rget_any b s (j + 24) 64 wr hO.1 Hs.out (by omega)
        rw [hg] at G
        have g2 : IntKind.u64.wrap (k : Int) = (k : Int) := IntWalk.u64_in _ (by omega)
        have g3 : min k 64 = k := by omega
        have hki : (k : Int) ≤ 40 := by omega
        have f24 : decide (((24 : Nat) : Int) < 24) = false := by decide
        by_cases hc : 8 * s.size - j < 88
        · rw [if_pos hc] at G hr
          have G' := Lib.hid G
          have HR := Lib.hid hr
          clear G hr hg hc hlead hlen hO hle hq
          go_wp2_with fail
          refine G'.out.mono ?_
          rintro e w1 ⟨rfl, hr1, hb1⟩
          obtain ⟨c0, c1, f1⟩ := RdrOf.cells hr1
          have HR1 := Lib.hid hr1
          have HB1 := Lib.hid hb1
          clear hr1 hb1
          go_wp2_with fail
          go_ret2
          refine got_of HR.out rfl ?_ ((HO.out.2.trans HB1.out).trans (but_set _ _ _ _))
          exact HR1.out.set
        · rw [if_neg hc] at G hr
          have hshr := shr_nat (numB (((sbits s).drop (j + 24)).take 64)) k
          generalize numB (((sbits s).drop (j + 24)).take 64) = n at *
          have hcase : (decide (((n / 2 ^ k : Nat) : Int) < 24) = true ∧ n / 2 ^ k < 24) ∨ (decide (((n / 2 ^ k : Nat) : Int) < 24) = false ∧ ¬ n / 2 ^ k < 24) := by
            by_cases hc : n / 2 ^ k < 24
            · exact .inl ⟨decide_eq_true (by omega), hc⟩
            · exact .inr ⟨decide_eq_false (by omega), hc⟩
          rcases hcase with ⟨hd4, hcc⟩ | ⟨hd4, hcc⟩
          · rw [if_pos hcc] at hr
            have G' := Lib.hid G
            have HR := Lib.hid hr
            clear G hr hg hc hlead hlen hO hle hq hcc
            generalize n / 2 ^ k = z at *
            go_wp2_with fail
            refine G'.out.mono ?_
            rintro e w1 ⟨rfl, hr1, hb1⟩
            obtain ⟨c0, c1, f1⟩ := RdrOf.cells hr1
            have HR1 := Lib.hid hr1
            have HB1 := Lib.hid hb1
            clear hr1 hb1
            go_wp2_with fail
            go_ret2
            refine got_of HR.out rfl ?_ ((HO.out.2.trans HB1.out).trans (but_set _ _ _ _))
            exact HR1.out.set
          · rw [if_neg hcc] at hr
            have G' := Lib.hid G
            have HR := Lib.hid hr
            clear G hr hg hc hlead hlen hO hle hq hcc
            generalize n / 2 ^ k = z at *
            go_wp2_with fail
            refine G'.out.mono ?_
            rintro e w1 ⟨rfl, hr1, hb1⟩
            obtain ⟨c0, c1, f1⟩ := RdrOf.cells hr1
            have HR1 := Lib.hid hr1
            have HB1 := Lib.hid hb1
            clear hr1 hb1
            go_wp2_with fail
            go_ret2
            refine got_of HR.out rfl ?_ (HO.out.2.trans HB1.out)
            exact HR1.out
      · have hlt24 : q < 24 := by omega
        have f24 : decide ((q : Int) < 24) = true := decide_eq_true (by omega)
        obtain ⟨p, hp⟩ : ∃ p, p = j + q := ⟨_, rfl⟩
        have L := Lib.hid (rleft_any b s (j + q) wr hO.1 (by have := Hs.out; omega) (by have := Hj.out; omega))
        rw [← hp] at L
        have hpi : (p : Int) ≤ 8000000 := by have := Hs.out; have := Hj.out; omega
        by_cases hend : j + q = 8 * s.size
        · have hr : riceR ((sbits s).drop j) k = (0, 0, 10) := by unfold riceR; rw [hlead, if_pos hlt24, if_pos (by rw [hlen]; omega)]
          have HR := Lib.hid hr
          have d2 : decide ((0 : Int) < 8 * (s.size : Int) - (p : Int)) = false := decide_eq_false (by omega)
          have d3 : decide ((p : Int) < 8 * (s.size : Int)) = false := decide_eq_false (by omega)
          have d4 : decide ((0 : Int) ≤ 8 * (s.size : Int) - ((p + 1 : Nat) : Int)) = false := decide_eq_false (by omega)
          have d5 : decide (((p + 1 : Nat) : Int) ≤ 8 * (s.size : Int)) = false := decide_eq_false (by omega)
          have e1 : (p : Int) + 1 = ((p + 1 : Nat) : Int) := by omega
          have L2 := Lib.hid (fun w' (h' : RdrOf 63 b s (p + 1) w') => rleft_any b s (p + 1) w' h' (by have := Hs.out; omega) (by omega))
          have hr0 := hO.1
          rw [← hp] at hr0
          have HR0 := Lib.hid hr0
          have Hp := Lib.hid hp
          generalize hp1 : p + 1 = p1 at *
          have Hp1 := Lib.hid hp1
          clear hp1 hr hlead hlen hO hle hq hqe h24 hlt24 hp hend hr0
          go_wp2_with fail
          refine L.out.mono ?_
          rintro e w1 ⟨rfl, hs1⟩
          have hr1 := hs1.rdr HR0.out
          obtain ⟨c0, c1, f1⟩ := RdrOf.cells hr1
          have HR1 := Lib.hid hr1
          have HB1 := Lib.hid hs1
          clear hr1 hs1
          go_wp2_with fail
          have hr2 := RdrOf.set (k := p1) HR1.out
          refine (L2.out _ hr2).mono ?_
          rintro e w2 ⟨rfl, hs2⟩
          have hr3 := hs2.rdr hr2
          obtain ⟨c0, c1, f1⟩ := RdrOf.cells hr3
          have HR3 := Lib.hid hr3
          have HB2 := Lib.hid hs2
          clear hr3 hs2 hr2
          go_wp2_with fail
          go_ret2
          refine got_of HR.out rfl ?_ ((((HO.out.2.trans (HB1.out.but b)).trans (but_set _ _ _ _)).trans (HB2.out.but b)).trans (but_set _ _ _ _))
          exact HR3.out.set
        · have hj8 := Hj.out
          have hs8 := Hs.out
          have hqe2 : j + q < 8 * s.size := by omega
          have hqlen : q < ((sbits s).drop j).length := by rw [hlen]; omega
          have hb0 : bitN s (j + q) = 0 := by
            rw [drop_bit hqe2 hqlen]
            have := lead_stop (l := (sbits s).drop j) (m := 24) (by omega) (by omega)
            simp only [hlead] at this
            rw [this]; rfl
          have B := Lib.hid (fun w h0 => bit_zero b s (j + q) w h0 hs8 hqe2 hb0)
          rw [← hp] at B
          have hr : riceR ((sbits s).drop j) k = if 8 * s.size - j < q + 1 + k then (0, 0, 10) else (q * 2 ^ k + numB (((sbits s).drop (p + 1)).take k), q + 1 + k, 0) := by
            unfold riceR; rw [hlead, if_pos hlt24, hlen, List.drop_drop, hp, Nat.add_assoc j q 1]
          have hg : getZ ((sbits s).drop (p + 1)) k = if 8 * s.size - j < q + 1 + k then (0, 0, 10) else (numB (((sbits s).drop (p + 1)).take k), k, 0) := by
            unfold getZ getR
            rw [if_pos ⟨by omega, by omega⟩]
            have : ((sbits s).drop (p + 1)).length = 8 * s.size - (p + 1) := by rw [List.length_drop, sbits_size]
            rw [this]
            show (if 8 * s.size - (p + 1) < k then _ else _) = _
            by_cases hc : 8 * s.size - j < q + 1 + k
            · rw [if_pos hc, if_pos (by omega)]
            · rw [if_neg hc, if_neg (by omega)]; rfl
          have G := fun w' (h' : RdrOf 63 b s (p + 1) w') => rget_any b s (p + 1) k w' h' Hs.out (by omega)
          rw [hg] at G
          have d2 : decide ((0 : Int) < 8 * (s.size : Int) - (p : Int)) = true := decide_eq_true (by omega)
          have d3 : decide ((p : Int) < 8 * (s.size : Int)) = true := decide_eq_true (by omega)
          have d4 : decide ((0 : Int) ≤ 8 * (s.size : Int) - ((p + 1 : Nat) : Int)) = true := decide_eq_true (by omega)
          have d5 : decide (((p + 1 : Nat) : Int) ≤ 8 * (s.size : Int)) = true := decide_eq_true (by omega)
          have e1 : (p : Int) + 1 = ((p + 1 : Nat) : Int) := by omega
          have L2 := Lib.hid (fun w' (h' : RdrOf 63 b s (p + 1) w') => rleft_any b s (p + 1) w' h' (by have := Hs.out; omega) (by omega))
          have hr0 := hO.1
          rw [← hp] at hr0
          have HR0 := Lib.hid hr0
          have Hp := Lib.hid hp
          have hpk : (2 : Nat) ^ k ≤ 1099511627776 := Nat.pow_le_pow_right (n := 2) (by decide) hk
          have hqk : q * 2 ^ k ≤ 24 * 1099511627776 := Nat.mul_le_mul (by omega) hpk
          have hnk : numB (((sbits s).drop (p + 1)).take k) < 2 ^ k := take_num_lt _ _ _
          generalize numB (((sbits s).drop (p + 1)).take k) = n at *
          have g2 : IntKind.u64.wrap (k : Int) = (k : Int) := IntWalk.u64_in _ (by omega)
          have g3 : min k 64 = k := by omega
          have hqc : (q : Int) * 2 ^ k = ((q * 2 ^ k : Nat) : Int) := by norm_cast
          have g4 : IntKind.u64.wrap ((q : Int) * 2 ^ k) = (q : Int) * 2 ^ k := IntWalk.u64_in _ (by omega)
          have g5 : IntKind.u64.wrap ((q : Int) * 2 ^ k + (n : Int)) = ((q * 2 ^ k + n : Nat) : Int) := by rw [hqc, IntWalk.u64_in _ (by omega)]; omega
          have hki : (k : Int) ≤ 40 := by omega
          generalize hp1 : p + 1 = p1 at *
          have Hp1 := Lib.hid hp1
          clear hp1 hg hlead hlen hO hle hq hqe h24 hlt24 hp hend hr0 hqe2 hqlen hb0 hj8 hs8 hpk hqk hnk hqc
          by_cases hc : 8 * s.size - j < q + 1 + k
          · rw [if_pos hc] at hr G
            have HR := Lib.hid hr
            have HG := Lib.hid G
            clear hr G hc
            go_wp2_with fail
            refine L.out.mono ?_
            rintro e w1 ⟨rfl, hs1⟩
            have hr1 := hs1.rdr HR0.out
            obtain ⟨c0, c1, f1⟩ := RdrOf.cells hr1
            have HR1 := Lib.hid hr1
            have HB1 := Lib.hid hs1
            clear hr1 hs1
            go_wp2_with fail
            refine (B.out _ c0).mono ?_
            rintro e w2 ⟨rfl, rfl⟩
            go_wp2_with fail
            have hr2 := RdrOf.set (k := p1) HR1.out
            refine (L2.out _ hr2).mono ?_
            rintro e w2 ⟨rfl, hs2⟩
            have hr3 := hs2.rdr hr2
            have HR3 := Lib.hid hr3
            have HB2 := Lib.hid hs2
            clear hr3 hs2 hr2
            go_wp2_with fail
            refine (HG.out _ HR3.out).mono ?_
            rintro e w4 ⟨rfl, hr4, hb4⟩
            obtain ⟨c0, c1, f1⟩ := RdrOf.cells hr4
            have HR4 := Lib.hid hr4
            have HB4 := Lib.hid hb4
            clear hr4 hb4
            go_wp2_with fail
            go_ret2
            refine got_of HR.out rfl ?_ (((((HO.out.2.trans (HB1.out.but b)).trans (but_set _ _ _ _)).trans (HB2.out.but b)).trans HB4.out).trans (but_set _ _ _ _))
            exact HR4.out.set
          · rw [if_neg hc] at hr G
            have HR := Lib.hid hr
            have HG := Lib.hid G
            clear hr G hc
            go_wp2_with fail
            refine L.out.mono ?_
            rintro e w1 ⟨rfl, hs1⟩
            have hr1 := hs1.rdr HR0.out
            obtain ⟨c0, c1, f1⟩ := RdrOf.cells hr1
            have HR1 := Lib.hid hr1
            have HB1 := Lib.hid hs1
            clear hr1 hs1
            go_wp2_with fail
            refine (B.out _ c0).mono ?_
            rintro e w2 ⟨rfl, rfl⟩
            go_wp2_with fail
            have hr2 := RdrOf.set (k := p1) HR1.out
            refine (L2.out _ hr2).mono ?_
            rintro e w2 ⟨rfl, hs2⟩
            have hr3 := hs2.rdr hr2
            have HR3 := Lib.hid hr3
            have HB2 := Lib.hid hs2
            clear hr3 hs2 hr2
            go_wp2_with fail
            refine (HG.out _ HR3.out).mono ?_
            rintro e w4 ⟨rfl, hr4, hb4⟩
            have HR4 := Lib.hid hr4
            have HB4 := Lib.hid hb4
            clear hr4 hb4
            go_wp2_with fail
            go_ret2
            refine got_of HR.out rfl ?_ ((((HO.out.2.trans (HB1.out.but b)).trans (but_set _ _ _ _)).trans (HB2.out.but b)).trans HB4.out)
            have e9 : j + (q + 1 + k) = p1 + k := by have := Hp.out; have := Hp1.out; omega
            rw [e9]
            exact HR4.out

theorem rreadRice_any (b : Nat) (s : ByteArray) (j : Nat) (k : Int) (w : World) (h : RdrOf 63 b s j w) (hs : s.size ≤ 1000000) (hj : j ≤ 8 * s.size) :
    Calls Try.prog 22 #[.pointer (some ⟨b, 0, none⟩), .int .i64 k] w (Got 63 b s j (riceZ ((sbits s).drop j) k) w) := by
  unfold riceZ
  by_cases hk : 0 ≤ k ∧ k ≤ 40
  · rw [if_pos hk]
    obtain ⟨t, rfl⟩ := Int.eq_ofNat_of_zero_le hk.1
    exact rrice_in b s j t w h hs hj (by omega)
  · rw [if_neg hk]
    have hc : decide (k < 0) = true ∨ (decide (k < 0) = false ∧ decide (40 < k) = true) := by
      simp only [decide_eq_true_eq, decide_eq_false_iff_not]; omega
    have HH := Lib.hid h
    clear hk h
    rcases hc with h1 | ⟨h1, h2⟩
    all_goals
      go_enter Try.func22, Try.ntmps22
      go_wp2_with fail
      go_ret2
      exact ⟨rfl, HH.out, But.refl _ _⟩
end Go.Proofs.Ytmllnfplahaccaa
