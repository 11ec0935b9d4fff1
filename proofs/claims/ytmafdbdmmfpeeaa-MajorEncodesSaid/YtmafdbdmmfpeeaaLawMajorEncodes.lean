/-
  The walk of the law 'MajorEncodes'.
-/
import Derived.Test.YtmafdbdmmfpeeaaLawMajorDecodes
import Derived.Test.YtmafdbdmmfpeeaaLawMajorEach
namespace Go.Proofs.Ytmafdbdmmfpeeaa
open Go Go.RowKit Go.Deep Go.ChangeShapes Go.WideShapes

theorem decS_encS {l : List Ser} (hg : goodS (-1) l) (ho : ∀ x ∈ l, (∀ y ∈ x.L, Sample.ok y) ∧ x.L.length ≤ 5000) (hl : (encS l).length < 18446744073709551616) : decS (encS l) = (l, 0) :=
  decS_good (table_back hg hl) (ser_back l (-1) hg (by omega) ho)
theorem encS_pos (l : List Ser) : 0 < (encS l).length := by
  have h : 0 < (uint l.length).length := by
    rw [uint]
    split <;> simp
  unfold encS
  simp only [List.length_append]
  omega

set_option linter.unusedSimpArgs false in
set_option maxRecDepth 100000 in
set_option maxHeartbeats 2000000 in
theorem majorEncodes_walk (w : World) (v0 : Value) (g0 : ∃ A c, ∃ (xs : List SerV) (l : List Ser), v0 = .slice A xs.length c ∧ SersAt w A xs l ∧ (∀ i, (h1 : i < xs.length) → (h2 : i < l.length) → SerOk xs[i] l[i]) ∧ xs.length ≤ c ∧ c ≤ maxLen) :
    Calls Try.prog 5 #[v0] w fun e w' => e = .returned (.bool true) ∧ Below w.heap.size w w' := by
  obtain ⟨A, c, xs, l, rfl, hat, hok, hc, hcm⟩ := g0
  have Hv := Lib.hid (heavy_any A c xs w hat.rd (by omega) (sers_max hat hok))
  have D5 := fun w => mdecode_any (⟨#[]⟩ : ByteArray) w (by decide)
  simp only [show (⟨#[]⟩ : ByteArray).data.toList = [] from rfl] at D5
  unfold MDecPost at D5
  rw [decS_empty] at D5
  simp only at D5
  have HD5 := Lib.hid D5
  have Hat := Lib.hid hat
  have Hok := Lib.hid hok
  obtain ⟨n, hn⟩ : ∃ n, xs.length = n := ⟨_, rfl⟩
  rw [hn] at Hv hc ⊢
  have Hn := Lib.hid hn
  clear hat hok D5 hn
  go_enter Try.func5, Try.ntmps5
  go_wp2_with fail
  refine Hv.out.mono ?_
  rintro e w1 ⟨b, rfl, hb, hb1⟩
  have Hb1 := Lib.hid hb1
  cases b with
  | true =>
    go_wp2_with fail
    go_ret
    exact ⟨rfl, Hb1.out⟩
  | false =>
    have hsm := hb rfl
    have hl3 : ∀ x ∈ l, x.L.length ≤ 300 := sers_len Hat.out (k := 300) fun x hx => by have := sumN_mem hx; omega
    have hns : xs.length ≤ 300 := by have := Hn.out; omega
    have hn3 : n ≤ 300 := by omega
    have hat1 := Hat.out.below hb1
    have Hat1 := Lib.hid hat1
    have M1 := mencode_any A c xs l w1 hat1 Hok.out hns fun x hx => by have := hl3 x hx; omega
    have hT := encSV_small (sers_ok Hat.out Hok.out) hl3 (by rw [Hat.out.len]; exact hns)
    have hm0 : mostL l ≤ 20000 := by
      rw [mostL_sum, sers_sum Hat.out, Hat.out.len]
      omega
    have Hoo := Lib.hid (fun x hx => (⟨sers_ok Hat.out Hok.out x hx, by have := hl3 x hx; omega⟩ : (∀ y ∈ x.L, Sample.ok y) ∧ x.L.length ≤ 5000))
    obtain ⟨T, hTe⟩ : ∃ T, S (encSV l).1 = T := ⟨_, rfl⟩
    have hTs : T.size ≤ 20000 := by rw [← hTe, S_size]; omega
    obtain ⟨F, hF⟩ : ∃ F, (encSV l).2 = F := ⟨_, rfl⟩
    rw [hTe, hF, Hn.out] at M1
    have HM1 := Lib.hid M1
    have Hl3 := Lib.hid hl3
    have HTe := Lib.hid (And.intro hTe hF)
    have HTs := Lib.hid hTs
    have k0 : ((F : Int) != F) = false := by simp
    have k1 : (T.toList == T.toList) = true := by simp
    clear hb hb1 hsm hat1 hT hTe hF M1 hl3 Hv hTs hm0
    go_wp2_with fail
    refine HM1.out.mono ?_
    rintro e w2 ⟨rfl, hb2⟩
    have hat2 := Hat1.out.below hb2
    have Hb2 := Lib.hid (Hb1.out.trans (hb2.mono Hb1.out.size))
    have HTh := Lib.hid (by have := theirs_sers A c xs l w2 hat2 (by omega); rwa [Hn.out] at this)
    have Hat2 := Lib.hid hat2
    clear hb2 hat2 HM1 Hat1 Hb1
    go_wp2_with fail
    refine HTh.out.mono ?_
    rintro e w3 ⟨A', c', rfl, hat3, hb3⟩
    have M3 := rmencode_any A' c' xs l w3 hat3 Hok.out hns fun x hx => by have := Hl3.out x hx; omega
    rw [HTe.out.1, HTe.out.2, Hn.out] at M3
    have HM3 := Lib.hid M3
    have Hat3 := Lib.hid (Hat2.out.below hb3)
    have Hb3 := Lib.hid (Hb2.out.trans (hb3.mono Hb2.out.size))
    clear hat3 hb3 M3 HTh Hat2 Hb2
    go_wp2_with fail
    refine HM3.out.mono ?_
    rintro e w4 ⟨rfl, hb4⟩
    have Hat4 := Lib.hid (Hat3.out.below hb4)
    have Hb4 := Lib.hid (Hb3.out.trans (hb4.mono Hb3.out.size))
    clear hb4 HM3 Hat3 Hb3
    cases hgd : goodSb (-1) l with
    | false =>
      have hF : F = 30 := by rw [← HTe.out.2, encSV_no hgd]
      have hT0 : T = ⟨#[]⟩ := by rw [← HTe.out.1, encSV_no hgd]; rfl
      subst hF hT0
      clear hgd
      go_wp2_with fail
      refine (HD5.out _).mono ?_
      rintro e w5 ⟨A5, c5, zs, rfl, -, -, hb5⟩
      have Hb5 := Lib.hid (Hb4.out.trans (hb5.mono Hb4.out.size))
      clear hb5
      go_wp2_with fail
      go_ret
      exact ⟨rfl, Hb5.out⟩
    | true =>
      have hF : F = 0 := by rw [← HTe.out.2, encSV_good hgd]
      subst hF
      have hg := goodSb_iff.1 hgd
      have hE : T = S (encS l) := by rw [← HTe.out.1, encSV_good hgd]
      have hEl : (encS l).length ≤ 20000 := by have := HTs.out; rw [hE, S_size] at this; exact this
      have htd : T.data.toList = encS l := by rw [hE, S_toList]
      have hds : decS T.data.toList = (l, 0) := by rw [htd]; exact decS_encS hg Hoo.out (by omega)
      have hT0 : 0 < T.size := by rw [hE, S_size]; exact encS_pos l
      have D1 := mdecode_any T w4 (by have := HTs.out; omega)
      unfold MDecPost at D1
      rw [hds] at D1
      simp only at D1
      have HD1 := Lib.hid D1
      have t1 : decide ((0 : Int) < (T.size : Int)) = true := decide_eq_true (by omega)
      have t2 : decide (0 < T.size) = true := decide_eq_true hT0
      clear hg hE hEl htd hds D1 hgd HD5 hT0
      go_wp2_with fail
      refine HD1.out.mono ?_
      rintro e w5 ⟨A5, c5, ys, rfl, hat5, -, hb5⟩
      have Hat51 := Lib.hid (Hat4.out.below hb5)
      have hys : ys.length = n := by rw [← hat5.len, Hat4.out.len, Hn.out]
      have TH := theirs_sers A5 c5 ys l w5 hat5 (by omega)
      rw [hys] at TH ⊢
      have Hys := Lib.hid hys
      have HTH := Lib.hid TH
      have Hb5 := Lib.hid (Hb4.out.trans (hb5.mono Hb4.out.size))
      clear hb5 hat5 TH hys HD1 Hat4 Hb4
      go_wp2_with fail
      refine HTH.out.mono ?_
      rintro e w6 ⟨A6, c6, rfl, hat6, hb6⟩
      have hat61 := Hat51.out.below hb6
      have TH2 := theirs_sers A c xs l w6 hat61 (by omega)
      rw [Hn.out] at TH2
      have HTH2 := Lib.hid TH2
      have Hat6 := Lib.hid hat6
      have Hb6 := Lib.hid (Hb5.out.trans (hb6.mono Hb5.out.size))
      clear hb6 hat6 hat61 TH2 HTH Hat51 Hb5
      go_wp2_with fail
      refine HTH2.out.mono ?_
      rintro e w7 ⟨A7, c7, rfl, hat7, hb7⟩
      have AL := alike_same A6 A7 c6 c7 ys xs l w7 (Hat6.out.below hb7) hat7 (by rw [Hys.out]; omega) (fun x hx => by have := Hl3.out x hx; omega)
      rw [Hn.out, Hys.out] at AL
      have HAL := Lib.hid AL
      have Hb7 := Lib.hid (Hb6.out.trans (hb7.mono Hb6.out.size))
      clear hb7 hat7 AL HTH2 Hat6 Hb6
      go_wp2_with fail
      refine HAL.out.mono ?_
      rintro e w8 ⟨rfl, hb8⟩
      have Hb8 := Lib.hid (Hb7.out.trans (hb8.mono Hb7.out.size))
      clear hb8
      go_wp2_with fail
      go_ret
      exact ⟨rfl, Hb8.out⟩
end Go.Proofs.Ytmafdbdmmfpeeaa
