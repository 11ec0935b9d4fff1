/-
  major.Encode.
-/
import Derived.Test.YtmafdbdmmfpeeaaMajEncP
import Derived.Test.YtmafdbdmmfpeeaaSerArg
import Derived.Test.YtmafdbdmmfpeeaaStrW
namespace Go.Proofs.Ytmafdbdmmfpeeaa
open Go Go.RowKit

set_option linter.unusedSimpArgs false in
set_option maxRecDepth 100000 in
set_option maxHeartbeats 4000000 in
theorem mencode_any (A0 : Option Addr) (c0 : Nat) (xs : List SerV) (l : List Ser) (w : World) (hat : SersAt w A0 xs l) (hok : ∀ i, (h1 : i < xs.length) → (h2 : i < l.length) → SerOk xs[i] l[i]) (hl : xs.length ≤ 300) (hn : ∀ x ∈ l, x.L.length ≤ 5000) :
    Calls Try.prog 14 #[.slice A0 xs.length c0] w fun e w' => e = .returned (.tuple #[.string (S (encSV l).1), .int .i64 (encSV l).2]) ∧ Below w.heap.size w w' := by
  obtain ⟨n, hnx⟩ : ∃ n, xs.length = n := ⟨_, rfl⟩
  obtain ⟨B, hB⟩ : ∃ B, w.heap.size = B := ⟨_, rfl⟩
  have hnl : l.length = n := by rw [hat.len, hnx]
  have hq0 := bld2_new (R := fun k => k < B) w (fun k (hk : k < B) => by rw [hB]; exact hk)
  have hs0 : Stays (fun k => k < B) w ((w.alloc (.cells #[.pointer none, .slice none 0 0] 64)).alloc (.cells #[.pointer none, .slice none 0 0] 64)) := Stays.of (below_two w _ _) fun k hk => by rw [hB]; exact hk
  rw [hB] at hq0
  rw [hnx] at hl ⊢
  have Hat := Lib.hid hat
  have Hok := Lib.hid hok
  have HN := Lib.hid hn
  have Hnx := Lib.hid hnx
  have Hnl := Lib.hid hnl
  have HB := Lib.hid hB
  have U0 := Lib.hid (fun w => uint_any n w (by omega))
  have hcv : IntKind.u64.wrap (n : Int) = n := by rw [IntKind.wrap_u64]; omega
  clear hat hok hn hnx hnl
  go_enter Try.func14, Try.ntmps14
  go_wp2_with fail
  generalize (w.alloc (.cells #[.pointer none, .slice none 0 0] 64)).alloc (.cells #[.pointer none, .slice none 0 0] 64) = w2 at *
  have Hq2 := Lib.hid hq0
  have Hs2 := Lib.hid hs0
  clear hq0 hs0 hB
  refine (U0.out _).mono ?_
  rintro e w3 ⟨rfl, hb3⟩
  have Hq3 := Lib.hid (Hq2.out.below hb3)
  have Hs3 := Lib.hid (Hs2.out.trans (Stays.of hb3 fun k hk => by have := Hs2.out.size; have := HB.out; omega))
  have z0 : (S (uint n)).size ≤ 10 := by rw [S_size]; exact uint_len_ten (by omega)
  have HW := Lib.hid (Hq3.out.write (S (uint n)) (by simp; omega) fun k hk => by have := Hs3.out.size; have := HB.out; omega)
  have z1 : (uint n).length ≤ 10 := by rwa [S_size] at z0
  obtain ⟨N, hN⟩ : ∃ N, uint n = N := ⟨_, rfl⟩
  rw [hN] at HW z1 z0
  have HNu := Lib.hid hN
  rw [hN]
  clear hb3 Hq2 Hs2 U0 hN
  go_wp2_with fail
  refine HW.out.mono ?_
  rintro e w4 ⟨⟨v4, rfl⟩, hq4, hev4⟩
  rw [List.nil_append, S_toList] at hq4
  have Hq4 := Lib.hid hq4
  have Hs4 := Lib.hid (Hs3.out.trans hev4.st)
  clear hq4 hev4 HW Hq3 Hs3
  go_wp2_with fail
  go_loopw [6, 18] (fun lv ix wr => ∃ (i : Nat) (last : Int), lv = .int .i64 last ∧ ix = .int .i64 i ∧ i ≤ n ∧ -1 ≤ last ∧ last < 200 ∧ goodSb (-1) l = goodSb last (l.drop i) ∧ Bld2 (fun k => k < B) B (B + 1) (N ++ headS (l.take i)) (bodyS (l.take i)) wr ∧ Stays (fun k => k < B) w wr ∧ (headS (l.take i)).length ≤ 20 * i ∧ (bodyS (l.take i)).length ≤ 120000 * i) (fun _ ix _ => n - (intOf ix).toNat)
  case atStart => exact ⟨0, -1, rfl, rfl, by omega, by omega, by omega, rfl, by have := Hq4.out; simpa [headS, bodyS] using this, Hs4.out, by simp [headS], by simp [bodyS]⟩
  case round =>
    obtain ⟨i, last, rfl, rfl, hi, hl0, hl1, hgd, hq, hst, hhl, hbl⟩ := hrel
    have hbel : Below w.heap.size w wr := by rw [HB.out]; exact hst.below fun k hk => hk
    have Hbel := Lib.hid hbel
    have Hgd := Lib.hid hgd
    have Hst := Lib.hid hst
    have hBw : B ≤ wr.heap.size := by have := hst.size; have := HB.out; omega
    by_cases hlt : i < n
    · have hlx : i < xs.length := by have := Hnx.out; omega
      have hll : i < l.length := by have := Hnl.out; omega
      obtain ⟨gb, off, rfl, hgb, hf⟩ := (Hat.out.rd.below hbel).elem serCells_length (by decide) hlx
      have f0 := hf 0 _ rfl
      have f1 := hf 1 _ rfl
      have hsa := (Hat.out.at_ i hlx).below hbel
      obtain ⟨oI, oS, oc, om⟩ := Hok.out i hlx hll
      have hn5 := HN.out _ (List.getElem_mem hll)
      have hds := drop_ser (last := last) hll
      obtain ⟨ht1, ht2⟩ := take_ser hll
      generalize xs[i] = f at *
      generalize l[i] = sx at *
      obtain ⟨I, A1, n1, c1⟩ := f
      obtain ⟨J, L⟩ := sx
      obtain ⟨hid, hlen, hrdL⟩ := hsa
      simp only [Nat.add_zero] at f0 f1 hid hlen hrdL oI oS oc om hn5 hds ht1 ht2
      subst hid
      subst hlen
      have f1' : wr.cell? ⟨gb, off + i * 2 + 1, none⟩ = some (.slice A1 L.length c1) := by rw [Nat.add_assoc]; exact f1
      have hone := Below.one wr (.cells #[.int .i64 J, .slice A1 L.length c1] 39)
      have Hq1 := Lib.hid (hq.below hone)
      have HE := Lib.hid (denc_all A1 c1 L _ (hrdL.below hone) oS hn5 oc om)
      have Hs1 := Lib.hid (hst.trans (Stays.of hone fun k hk => by omega))
      have hk1 : (i : Int) < n := by omega
      have n1 := World.alloc_heap_new wr (.cells #[.int .i64 J, .slice A1 L.length c1] 39)
      have e0 : (wr.alloc (.cells #[.int .i64 J, .slice A1 L.length c1] 39)).cell? ⟨wr.heap.size, 0, none⟩ = some (.int .i64 J) := (Lib.cell_of_heap n1 0).trans rfl
      have e1 : (wr.alloc (.cells #[.int .i64 J, .slice A1 L.length c1] 39)).cell? ⟨wr.heap.size, 1, none⟩ = some (.slice A1 L.length c1) := (Lib.cell_of_heap n1 1).trans rfl
      have Hds := Lib.hid hds
      have Ht1 := Lib.hid ht1
      have Ht2 := Lib.hid ht2
      have HoS := Lib.hid oS
      have Hhl := Lib.hid hhl
      have Hbl := Lib.hid hbl
      clear hone hf f1 hgd hq hst hds ht1 ht2 oS hrdL n1 hbel hhl hbl
      go_wp2_with fail
      generalize (wr.alloc (.cells #[.int .i64 J, .slice A1 L.length c1] 39)) = w5 at *
      refine HE.out.mono ?_
      rintro e w6 ⟨rfl, hb6⟩
      have d0 := keepc hb6 e0
      have d1 := keepc hb6 e1
      have Hq6 := Lib.hid (Hq1.out.below hb6)
      have Hs6 := Lib.hid (Hs1.out.trans (Stays.of hb6 fun k hk => by have := Hs1.out.size; have := HB.out; omega))
      clear hb6 HE Hq1 Hs1 e0 e1 f0 f1'
      by_cases hF : Fine L
      · rw [encV_fine hF]
        have hfb : fineB L = true := fineB_iff.2 hF
        by_cases h0 : L.length = 0
        · have HNo := Lib.hid (encSV_no (l := l) (by rw [Hgd.out, Hds.out, hfb, h0]; rfl))
          have k1 : ((L.length : Int) == 0) = true := beq_iff_eq.2 (by omega)
          have k2 : (L.length == 0) = true := beq_iff_eq.2 h0
          clear h0 hfb
          go_wp2_with fail
          go_ret2
          exact ⟨by rw [HNo.out]; rfl, HB.out ▸ Hs6.out.below fun k hk => hk⟩
        · have k1 : ((L.length : Int) == 0) = false := beq_eq_false_iff_ne.2 (by omega)
          have k2 : (L.length == 0) = false := beq_eq_false_iff_ne.2 h0
          by_cases h1 : J ≤ last
          · have HNo := Lib.hid (encSV_no (l := l) (by rw [Hgd.out, Hds.out, show decide (last < J) = false from decide_eq_false (by omega)]; simp))
            have k3 : decide (J ≤ last) = true := decide_eq_true h1
            clear h0 hfb h1
            go_wp2_with fail
            go_ret2
            exact ⟨by rw [HNo.out]; rfl, HB.out ▸ Hs6.out.below fun k hk => hk⟩
          · have k3 : decide (J ≤ last) = false := decide_eq_false h1
            by_cases h2 : 200 ≤ J
            · have HNo := Lib.hid (encSV_no (l := l) (by rw [Hgd.out, Hds.out, show decide (J < 200) = false from decide_eq_false (by omega)]; simp))
              have k4 : decide (200 ≤ J) = true := decide_eq_true h2
              clear h0 hfb h1 h2
              go_wp2_with fail
              go_ret2
              exact ⟨by rw [HNo.out]; rfl, HB.out ▸ Hs6.out.below fun k hk => hk⟩
            · have k4 : decide (200 ≤ J) = false := decide_eq_false h2
              obtain ⟨p, rfl⟩ : ∃ p : Nat, J = p := ⟨J.toNat, by omega⟩
              rw [Int.toNat_natCast] at Ht1
              have Hn := Lib.hid (show goodSb (-1) l = goodSb (p : Int) (l.drop (i + 1)) by rw [Hgd.out, Hds.out, hfb, decide_eq_true (show 0 < L.length by omega), decide_eq_true (show last < (p : Int) by omega), decide_eq_true (show (p : Int) < 200 by omega)]; rfl)
              have hbL := encB_len hF HoS.out hn5
              obtain ⟨T, hT⟩ : ∃ T, encB L = T := ⟨_, rfl⟩
              rw [hT] at Ht1 Ht2 hbL ⊢
              have hTs : (S T).size = T.length := S_size T
              obtain ⟨t, ht⟩ : ∃ t, T.length = t := ⟨_, rfl⟩
              rw [ht] at Ht1 hbL hTs
              have m1 : IntKind.u64.wrap (p : Int) = p := by rw [IntKind.wrap_u64]; omega
              have m2 : IntKind.u64.wrap (t : Int) = t := by rw [IntKind.wrap_u64]; omega
              have UA := fun w => uint_any p w (by omega)
              have UB := fun w => uint_any t w (by omega)
              obtain ⟨p1, hp1⟩ : ∃ p1, uint p = p1 := ⟨_, rfl⟩
              obtain ⟨p2, hp2⟩ : ∃ p2, uint t = p2 := ⟨_, rfl⟩
              have a1 : (S p1).size ≤ 10 := by rw [S_size, ← hp1]; exact uint_len_ten (by omega)
              have a2 : (S p2).size ≤ 10 := by rw [S_size, ← hp2]; exact uint_len_ten (by omega)
              have happ : S p1 ++ S p2 = S (p1 ++ p2) := by simp only [S_append]
              have y1 : ¬ 9223372036854775807 < (S p1).size + (S p2).size := by omega
              have hsz3 : (S p1 ++ S p2).size ≤ 20 := by
                rw [happ, S_size, List.length_append]
                rw [S_size] at a1 a2
                omega
              rw [hp1] at UA
              rw [hp2] at UB
              rw [hp1, hp2] at Ht1
              have HUA := Lib.hid UA
              have HUB := Lib.hid UB
              have Happ := Lib.hid happ
              have HT := Lib.hid (And.intro hT (And.intro ht hbL))
              have HH := Lib.hid (show (headS (l.take (i + 1))).length ≤ 20 * (i + 1) by rw [Ht1.out]; rw [S_size] at a1 a2; simp only [List.length_append]; have := Hhl.out; omega)
              have HM := Lib.hid (show (bodyS (l.take (i + 1))).length ≤ 120000 * (i + 1) by rw [Ht2.out]; simp only [List.length_append]; have := Hbl.out; omega)
              have hhl2 : (N ++ headS (l.take i)).length + 20 ≤ 7000 := by rw [List.length_append]; have := Hhl.out; omega
              have hbl2 : (bodyS (l.take i)).length ≤ 36000000 := by have := Hbl.out; omega
              have hp200 : p < 200 := by omega
              have hTl : (S T).size ≤ 120000 := by omega
              clear h0 h1 h2 hfb UA UB hp1 hp2 happ hT ht hbL Hds Hgd
              go_wp2_with fail
              refine (HUA.out _).mono ?_
              rintro e w7 ⟨rfl, hb7⟩
              have Hq7 := Lib.hid (Hq6.out.below hb7)
              have Hs7 := Lib.hid (Hs6.out.trans (Stays.of hb7 fun k hk => by have := Hs6.out.size; have := HB.out; omega))
              clear hb7 Hq6 Hs6
              go_wp2_with fail
              refine (HUB.out _).mono ?_
              rintro e w8 ⟨rfl, hb8⟩
              have Hq8 := Lib.hid (Hq7.out.below hb8)
              have Hs8 := Lib.hid (Hs7.out.trans (Stays.of hb8 fun k hk => by have := Hs7.out.size; have := HB.out; omega))
              have HW := Lib.hid (Hq8.out.write (S p1 ++ S p2) (by omega) fun k hk => by have := Hs8.out.size; have := HB.out; omega)
              clear hb8 Hq7 Hs7
              go_wp2_with fail
              refine HW.out.mono ?_
              rintro e w9 ⟨⟨v9, rfl⟩, hq9, hev9⟩
              rw [Happ.out, S_toList] at hq9
              have Hs9 := Lib.hid (Hs8.out.trans hev9.st)
              have HW2 := Lib.hid (hq9.swap.write (S T) (by omega) fun k hk => by have := Hs9.out.size; have := HB.out; omega)
              clear hq9 hev9 HW Hq8 Hs8
              go_wp2_with fail
              refine HW2.out.mono ?_
              rintro e w10 ⟨⟨v10, rfl⟩, hq10, hev10⟩
              rw [S_toList, List.append_assoc, ← Ht1.out, ← Ht2.out] at hq10
              have Hq10 := Lib.hid hq10.swap
              have Hs10 := Lib.hid (Hs9.out.trans hev10.st)
              clear hq10 hev10 HW2 Hs9
              go_wp2_with fail
              go_roundw
              case rel => exact ⟨i + 1, p, rfl, by go_num, by omega, by omega, by omega, Hn.out, Hq10.out, Hs10.out, HH.out, HM.out⟩
              case measure => simp [intOf]; omega
      · rw [encV_no hF]
        have HNo := Lib.hid (encSV_no (l := l) (by rw [Hgd.out, Hds.out, show fineB L = false from by cases h : fineB L with | true => exact absurd (fineB_iff.1 h) hF | false => rfl]; rfl))
        clear hF
        go_wp2_with fail
        go_ret2
        exact ⟨by rw [HNo.out]; rfl, HB.out ▸ Hs6.out.below fun k hk => hk⟩
    · obtain rfl : i = n := by omega
      have hgood : goodSb (-1) l = true := by rw [Hgd.out, List.drop_eq_nil_of_le (by have := Hnl.out; omega)]; rfl
      rw [List.take_of_length_le (by have := Hnl.out; omega)] at hq hhl hbl
      obtain ⟨P, hP⟩ : ∃ P, N ++ headS l = P := ⟨_, rfl⟩
      obtain ⟨M, hM⟩ : ∃ M, bodyS l = M := ⟨_, rfl⟩
      have HEn := Lib.hid (show encSV l = (P ++ M, 0) by rw [encSV_good hgood, ← hP, ← hM, ← HNu.out]; unfold encS; rw [Hnl.out])
      have hPl : P.length ≤ 7000 := by rw [← hP, List.length_append]; omega
      have hMl : M.length ≤ 36000000 := by rw [← hM]; omega
      have y1 : ¬ 9223372036854775807 < (S P).size + (S M).size := by rw [S_size, S_size]; omega
      rw [hP, hM] at hq
      have HBl := Lib.hid hq
      have HO := Lib.hid (show Old (fun k => k < B) wr from fun k hk => Nat.lt_of_lt_of_le hk hBw)
      have Happ := Lib.hid (show S P ++ S M = S (P ++ M) by simp only [S_append])
      clear hP hM hq hgood hgd hhl hbl hst hbel
      go_wp2_with fail
      refine (HBl.out.str HO.out).mono ?_
      rintro e w5 ⟨rfl, hs5, R1, hb5, hold5, hsub⟩
      have Hs5 := Lib.hid (Hst.out.trans hs5)
      have Hb5 := Lib.hid hb5
      have Ho5 := Lib.hid hold5
      have Hsub := Lib.hid hsub
      clear hs5 hb5 hold5 hsub
      go_wp2_with fail
      refine (string_any R1 (B + 1) 64 [] M w5 Hb5.out Ho5.out).mono ?_
      rintro e w6 ⟨rfl, hs6⟩
      have Hs6 := Lib.hid (Hs5.out.trans (hs6.mono fun k hk => Hsub.out k hk))
      clear hs6
      go_wp2_with fail
      go_ret2
      exact ⟨by rw [HEn.out, Happ.out]; rfl, HB.out ▸ Hs6.out.below fun k hk => hk⟩
end Go.Proofs.Ytmafdbdmmfpeeaa
