/-
  The walk of the law 'MajorDecodes'.
-/
import Derived.Test.YtmafdbdmmfpeeaaMajKit
import Derived.Test.YtmafdbdmmfpeeaaMajDec
import Derived.Test.YtmafdbdmmfpeeaaRMajDec
import Derived.Test.YtmafdbdmmfpeeaaSame13Q
namespace Go.Proofs.Ytmafdbdmmfpeeaa
open Go Go.RowKit Go.Deep Go.ChangeShapes Go.WideShapes

theorem decS_empty : decS [] = ([], 11) := decS_none (by decide)
theorem decS_ok {l : List UInt8} : (∀ x ∈ (decS l).1, (∀ y ∈ x.L, Sample.ok y) ∧ x.L.length ≤ 5000 ∧ In64 x.ID) ∧ ((decS l).2 = 0 ∨ (decS l).2 = 11) ∧ (decS l).1.length ≤ 200 ∧ ((decS l).2 = 0 → encSV (decS l).1 = (l, 0)) := by
  cases h : tableR l with
  | none => rw [decS_none h]; exact ⟨fun x hx => (by cases hx), .inr rfl, (by simp), fun h => (by cases h)⟩
  | some ps =>
    cases h2 : serT ps with
    | none => rw [decS_bad h h2]; exact ⟨fun x hx => (by cases hx), .inr rfl, (by simp), fun h => (by cases h)⟩
    | some s =>
      rw [decS_good h h2]
      obtain ⟨e1, e2, e3⟩ := decS_enc h h2
      refine ⟨fun x hx => ⟨(e3 x hx).1, (e3 x hx).2, ?_⟩, .inl rfl, ?_, fun _ => by rw [encSV_good (goodSb_iff.2 e2), e1]⟩
      · have := goodS_lt e2 x hx
        exact ⟨by omega, by omega⟩
      · rcases goodS_len e2 with g | rfl
        · simp only; omega
        · simp

set_option linter.unusedSimpArgs false in
set_option maxRecDepth 100000 in
set_option maxHeartbeats 2000000 in
theorem majorDecodes_walk (s : ByteArray) (_hs : s.size ≤ maxLen) (w : World) :
    Calls Try.prog 6 #[.string s] w fun e w' => e = .returned (.bool true) ∧ Below w.heap.size w w' := by
  by_cases h : 1024 < s.size
  · have hd : decide ((1024 : Int) < (s.size : Int)) = true := decide_eq_true (by omega)
    go_enter Try.func6, Try.ntmps6
    go_wp2_with fail
    go_ret
    exact ⟨rfl, Below.refl _ _⟩
  · have hd : decide ((1024 : Int) < (s.size : Int)) = false := decide_eq_false (by omega)
    have D1 := mdecode_any s w (by omega)
    have D2 := fun w => rmdecode_any s w (by omega)
    have D3 := fun w => mdecode_any (⟨#[]⟩ : ByteArray) w (by decide)
    simp only [show (⟨#[]⟩ : ByteArray).data.toList = [] from rfl] at D3
    unfold MDecPost at D3 D1
    unfold DecSPost at D2
    rw [decS_empty] at D3
    simp only at D3
    obtain ⟨o1, o2, o3, o4⟩ := @decS_ok s.data.toList
    obtain ⟨l, hl⟩ : ∃ l, (decS s.data.toList).1 = l := ⟨_, rfl⟩
    obtain ⟨F, hF⟩ : ∃ F, (decS s.data.toList).2 = F := ⟨_, rfl⟩
    rw [hl, hF] at D1
    simp only [hl, hF] at D2
    rw [hl, hF] at o4
    rw [hl] at o1 o3
    rw [hF] at o2
    have H1 := Lib.hid D1
    have H2 := Lib.hid D2
    have H3 := Lib.hid D3
    have O1 := Lib.hid o1
    have O2 := Lib.hid o2
    have O3 := Lib.hid o3
    have O4 := Lib.hid o4
    have hd0 : ((F : Int) != F) = false := by simp
    clear D1 D2 D3 o1 o2 o3 o4 hl hF h _hs
    go_enter Try.func6, Try.ntmps6
    go_wp2_with fail
    refine H1.out.mono ?_
    rintro e w1 ⟨A, c, xs, rfl, hat, hc, hb1⟩
    have Hat := Lib.hid hat
    have Hc := Lib.hid hc
    have Hb1 := Lib.hid hb1
    have hxs : xs.length ≤ 200 := by rw [← hat.len]; exact O3.out
    obtain ⟨n, hn⟩ : ∃ n, xs.length = n := ⟨_, rfl⟩
    rw [hn]
    have Hn := Lib.hid hn
    clear hat hc hb1 H1
    go_wp2_with fail
    refine (H2.out _).mono ?_
    rintro e w2 ⟨A2, c2, ys, rfl, hat2, hb2⟩
    have Hat2 := Lib.hid hat2
    have Hat1 := Lib.hid (Hat.out.below hb2)
    have Hb2 := Lib.hid (Hb1.out.trans (hb2.mono Hb1.out.size))
    obtain ⟨m, hm⟩ : ∃ m, ys.length = m := ⟨_, rfl⟩
    rw [hm]
    have Hm := Lib.hid hm
    clear hat2 hb2 H2 hm hn Hat Hb1
    go_wp2_with fail
    refine (H3.out _).mono ?_
    rintro e w3 ⟨A3, c3, zs, rfl, -, -, hb3⟩
    have Hat31 := Lib.hid (Hat1.out.below hb3)
    have Hat32 := Lib.hid (Hat2.out.below hb3)
    have Hb3 := Lib.hid (Hb2.out.trans (hb3.mono Hb2.out.size))
    have TH := theirs_sers A c xs l w3 Hat31.out (by omega)
    rw [Hn.out] at TH
    have HTH := Lib.hid TH
    clear hb3 H3 Hat1 Hat2 Hb2 TH
    go_wp2_with fail
    refine HTH.out.mono ?_
    rintro e w4 ⟨A4, c4, rfl, hat4, hb4⟩
    have Hat41 := Lib.hid (Hat31.out.below hb4)
    have Hb4 := Lib.hid (Hb3.out.trans (hb4.mono Hb3.out.size))
    have AL := alike_same A4 A2 c4 c2 xs ys l w4 hat4 (Hat32.out.below hb4) (by omega) (fun x hx => (O1.out x hx).2.1)
    rw [Hn.out, Hm.out] at AL
    have HAL := Lib.hid AL
    clear hat4 hb4 HTH Hat31 Hat32 Hb3 AL
    go_wp2_with fail
    refine HAL.out.mono ?_
    rintro e w5 ⟨rfl, hb5⟩
    have hat5 := Hat41.out.below hb5
    have Hb5 := Lib.hid (Hb4.out.trans (hb5.mono Hb4.out.size))
    have EN := mencode_any A c xs l w5 hat5 (fun i h1 h2 => by
      have k := O1.out l[i] (List.getElem_mem h2)
      have k2 := Hc.out xs[i] (List.getElem_mem h1)
      refine ⟨?_, k.1, k2.1, k2.2⟩
      rw [← (hat5.at_ i h1).id]; exact k.2.2) (by omega) (fun x hx => (O1.out x hx).2.1)
    rw [Hn.out] at EN
    have HEN := Lib.hid EN
    clear hat5 hb5 HAL Hat41 Hb4 EN
    rcases O2.out with h0 | h0
    · have hes := O4.out h0
      subst h0
      rw [hes] at HEN
      have hT := eqS (s := s) (a := s.data.toList) rfl
      obtain ⟨T, hTT⟩ : ∃ T, S s.data.toList = T := ⟨_, rfl⟩
      simp only at HEN
      rw [hTT] at HEN hT
      clear hes hTT
      go_wp2_with fail
      refine HEN.out.mono ?_
      rintro e w6 ⟨rfl, hb6⟩
      have Hb6 := Lib.hid (Hb5.out.trans (hb6.mono Hb5.out.size))
      clear hb6
      go_wp2_with fail
      go_ret
      exact ⟨rfl, Hb6.out⟩
    · subst h0
      go_wp2_with fail
      refine HEN.out.mono ?_
      rintro e w6 ⟨rfl, hb6⟩
      have Hb6 := Lib.hid (Hb5.out.trans (hb6.mono Hb5.out.size))
      clear hb6
      go_wp2_with fail
      go_ret
      exact ⟨rfl, Hb6.out⟩
end Go.Proofs.Ytmafdbdmmfpeeaa
