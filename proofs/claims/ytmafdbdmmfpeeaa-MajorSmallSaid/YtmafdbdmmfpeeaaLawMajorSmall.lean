/-
  The walk of the law 'MajorSmall'.
-/
import Derived.Test.YtmafdbdmmfpeeaaMajKit
import Derived.Test.YtmafdbdmmfpeeaaLawMajorFinds
namespace Go.Proofs.Ytmafdbdmmfpeeaa
open Go Go.RowKit Go.Deep Go.ChangeShapes Go.WideShapes

set_option linter.unusedSimpArgs false in
set_option maxRecDepth 100000 in
set_option maxHeartbeats 2000000 in
theorem majorSmall_walk (w : World) (v0 : Value) (g0 : ∃ A c, ∃ (xs : List SerV) (l : List Ser), v0 = .slice A xs.length c ∧ SersAt w A xs l ∧ (∀ i, (h1 : i < xs.length) → (h2 : i < l.length) → SerOk xs[i] l[i]) ∧ xs.length ≤ c ∧ c ≤ maxLen) :
    Calls Try.prog 4 #[v0] w fun e w' => e = .returned (.bool true) ∧ Below w.heap.size w w' := by
  obtain ⟨A, c, xs, l, rfl, hat, hok, hc, hcm⟩ := g0
  have Hv := Lib.hid (heavy_any A c xs w hat.rd (by omega) (sers_max hat hok))
  have D5 := fun w => find_any (⟨#[]⟩ : ByteArray) 0 w (by decide)
  simp only [show (⟨#[]⟩ : ByteArray).data.toList = [] from rfl, find_empty] at D5
  have HD5 := Lib.hid D5
  have Hat := Lib.hid hat
  have Hok := Lib.hid hok
  obtain ⟨n, hn⟩ : ∃ n, xs.length = n := ⟨_, rfl⟩
  rw [hn] at Hv hc ⊢
  have Hn := Lib.hid hn
  clear hat hok D5 hn
  go_enter Try.func4, Try.ntmps4
  go_wp2_with fail
  refine Hv.out.mono ?_
  rintro e w1 ⟨b, rfl, hb, hb1⟩
  have Hb1 := Lib.hid hb1
  cases b with
  | true =>
    go_wp2_with fail
    go_ret
    exact ⟨rfl, Hb1.out⟩
  | false =>
    have hsm := hb rfl
    have hl3 : ∀ x ∈ l, x.L.length ≤ 300 := sers_len Hat.out (k := 300) fun x hx => by have := sumN_mem hx; omega
    have hns : xs.length ≤ 300 := by have := Hn.out; omega
    have hn3 : n ≤ 300 := by omega
    have hat1 := Hat.out.below hb1
    have Hat1 := Lib.hid hat1
    have M1 := mencode_any A c xs l w1 hat1 Hok.out hns fun x hx => by have := hl3 x hx; omega
    have hT := encSV_small (sers_ok Hat.out Hok.out) hl3 (by rw [Hat.out.len]; exact hns)
    have hm0 := mostL_le l hl3
    have Htl := Lib.hid (fun i (h : i < l.length) => mostL_le (l.take i) fun x hx => hl3 x (List.mem_of_mem_take hx))
    obtain ⟨T, hTe⟩ : ∃ T, S (encSV l).1 = T := ⟨_, rfl⟩
    have hTs : T.size ≤ mostL l := by rw [← hTe, S_size]; exact hT
    obtain ⟨F, hF⟩ : ∃ F, (encSV l).2 = F := ⟨_, rfl⟩
    rw [hTe, hF, Hn.out] at M1
    have HM1 := Lib.hid M1
    have Hl3 := Lib.hid hl3
    have HTe := Lib.hid (And.intro hTe hF)
    have HTs := Lib.hid hTs
    have Hm0 := Lib.hid hm0
    have k0 : ((F : Int) != F) = false := by simp
    clear hb hb1 hsm hat1 hT hTe hF M1 hl3 Hv hTs hm0
    go_wp2_with fail
    refine HM1.out.mono ?_
    rintro e w2 ⟨rfl, hb2⟩
    have hat2 := Hat1.out.below hb2
    have Hb2 := Lib.hid (Hb1.out.trans (hb2.mono Hb1.out.size))
    have HTh := Lib.hid (by have := theirs_sers A c xs l w2 hat2 (by omega); rwa [Hn.out] at this)
    have Hat2 := Lib.hid hat2
    clear hb2 hat2 HM1 Hat1 Hb1
    go_wp2_with fail
    refine HTh.out.mono ?_
    rintro e w3 ⟨A', c', rfl, hat3, hb3⟩
    have M3 := rmencode_any A' c' xs l w3 hat3 Hok.out hns fun x hx => by have := Hl3.out x hx; omega
    rw [HTe.out.1, HTe.out.2, Hn.out] at M3
    have HM3 := Lib.hid M3
    have Hat3 := Lib.hid (Hat2.out.below hb3)
    have Hb3 := Lib.hid (Hb2.out.trans (hb3.mono Hb2.out.size))
    clear hat3 hb3 M3 HTh Hat2 Hb2
    go_wp2_with fail
    refine HM3.out.mono ?_
    rintro e w4 ⟨rfl, hb4⟩
    have Hat4 := Lib.hid (Hat3.out.below hb4)
    have Hb4 := Lib.hid (Hb3.out.trans (hb4.mono Hb3.out.size))
    clear hb4 HM3 Hat3 Hb3
    go_wp2_with fail
    refine (HD5.out _).mono ?_
    rintro e w5 ⟨A5, c5, rfl, -, hb5⟩
    have Hat5 := Lib.hid (Hat4.out.below hb5)
    have Hb5 := Lib.hid (Hb4.out.trans (hb5.mono Hb4.out.size))
    clear hb5 HD5 Hat4 Hb4
    go_wp2_with fail
    go_loopw [9, 10] (fun tv ix wr => ∃ (i t : Nat), ix = .int .i64 i ∧ tv = .int .i64 t ∧ i ≤ n ∧ t = mostL (l.take i) ∧ wr = w5) (fun _ ix _ => n - (intOf ix).toNat)
    case atStart => exact ⟨0, 2, rfl, rfl, by omega, by simp [mostL], rfl⟩
    case round =>
      obtain ⟨i, t, rfl, rfl, hi, ht, rfl⟩ := hrel
      have Ht := Lib.hid ht
      clear ht
      by_cases hlt : i < n
      · have hlx : i < xs.length := by have := Hn.out; omega
        have hll : i < l.length := by rw [Hat5.out.len]; exact hlx
        obtain ⟨gb, off, rfl, hgb, hf⟩ := Hat5.out.rd.elem serCells_length (by decide) hlx
        have f1 := hf 1 _ rfl
        have hln := (Hat5.out.at_ i hlx).len
        have hm := mostL_take hll
        have htb := Htl.out i hll
        rw [List.length_take, Nat.min_eq_left (by omega)] at htb
        have hlb := Hl3.out _ (List.getElem_mem hll)
        rw [← Ht.out] at hm htb
        rw [hln] at hm hlb
        generalize xs[i] = f at *
        obtain ⟨I, A1, n1, c1⟩ := f
        simp only at f1 hm hlb
        have f1' : wr.cell? ⟨gb, off + i * 2 + 1, none⟩ = some (.slice A1 n1 c1) := by rw [Nat.add_assoc]; exact f1
        have m1 : IntKind.i64.wrap (22 * (n1 : Int)) = 22 * (n1 : Int) := by rw [IntKind.wrap_i64]; omega
        have m2 : IntKind.i64.wrap (30 + 22 * (n1 : Int)) = 30 + 22 * (n1 : Int) := by rw [IntKind.wrap_i64]; omega
        have m3 : IntKind.i64.wrap ((t : Int) + (30 + 22 * (n1 : Int))) = (t : Int) + (30 + 22 * (n1 : Int)) := by rw [IntKind.wrap_i64]; omega
        have hk1 : (i : Int) < n := by omega
        have Hm := Lib.hid hm
        clear hf f1 hln hm htb
        go_wp2_with fail
        go_roundw
        case rel => exact ⟨i + 1, t + (30 + 22 * n1), by go_num, by go_num, by omega, Hm.out.symm, trivial⟩
        case measure => simp [intOf]; omega
      · obtain rfl : i = n := by omega
        have ht : t = mostL l := by rw [Ht.out, List.take_of_length_le (by rw [Hat5.out.len, Hn.out]; exact Nat.le_refl _)]
        have k1 : decide ((T.size : Int) ≤ (t : Int)) = true := decide_eq_true (by have := HTs.out; omega)
        have k2 : decide (T.size ≤ t) = true := decide_eq_true (by have := HTs.out; omega)
        clear ht
        go_wp2_with fail
        go_ret
        exact ⟨rfl, Hb5.out⟩
end Go.Proofs.Ytmafdbdmmfpeeaa
