/-
  The walk of the law 'MajorEach'.
-/
import Derived.Test.YtmafdbdmmfpeeaaMajKit
import Derived.Test.YtmafdbdmmfpeeaaLawMajorFinds
namespace Go.Proofs.Ytmafdbdmmfpeeaa
open Go Go.RowKit Go.Deep Go.ChangeShapes Go.WideShapes

def sumL (l : List Ser) : Nat := (l.map fun x => x.L.length).sum
theorem mostL_sum : ∀ (l : List Ser), mostL l = 2 + 30 * l.length + 22 * sumL l
  | [] => by simp [mostL, sumL]
  | x :: l => by
    have ih := mostL_sum l
    have e : mostL (x :: l) = mostL l + (30 + 22 * x.L.length) := by simp only [mostL, List.map_cons, List.sum_cons]; omega
    have e2 : sumL (x :: l) = x.L.length + sumL l := by simp [sumL]
    rw [e, ih, e2]
    simp only [List.length_cons]
    omega
theorem sers_sum {w : World} {A : Option Addr} {xs : List SerV} {l : List Ser} (h : SersAt w A xs l) : sumL l = sumN xs := by
  unfold sumL sumN
  congr 1
  refine List.ext_getElem (by simp [h.len]) fun i h1 h2 => ?_
  simp only [List.getElem_map]
  exact (h.at_ i (by simpa using h2)).len
theorem partR_back {x : Ser} (h : Fine x.L) (h0 : x.L ≠ []) (o1 : ∀ y ∈ x.L, Sample.ok y) (o2 : x.L.length ≤ 5000) : partR (encB x.L) = some x.L := by
  obtain ⟨d1, d2⟩ := dec_enc h o1 o2
  unfold partR
  rw [d1, d2, if_pos ⟨rfl, h0⟩]
theorem find_part : ∀ {l : List Ser} {last : Int}, goodS last l → -1 ≤ last → (∀ x ∈ l, (∀ y ∈ x.L, Sample.ok y) ∧ x.L.length ≤ 5000) → ∀ x ∈ l, findT (partsOf l) x.ID = (some x.L, 0)
  | [], _, _, _, _, x, hx => by cases hx
  | y :: l, last, h, hl, ho, x, hx => by
    obtain ⟨h1, h2, h3, h4, h5⟩ := h
    have hp : partsOf (y :: l) = (y.ID.toNat, encB y.L) :: partsOf l := rfl
    rw [hp]
    unfold findT
    rcases List.mem_cons.1 hx with rfl | hx
    · rw [if_pos (by simp only; omega), partR_back h1 h2 (ho x (List.mem_cons_self ..)).1 (ho x (List.mem_cons_self ..)).2]
    · have := (goodS_lt h5 x hx).1
      rw [if_neg (by simp only; omega)]
      exact find_part h5 (by omega) (fun z hz => ho z (List.mem_cons_of_mem _ hz)) x hx
theorem find_not : ∀ {l : List Ser} {last : Int}, goodS last l → -1 ≤ last → ∀ {id : Int}, (∀ x ∈ l, x.ID ≠ id) → findT (partsOf l) id = (none, 3)
  | [], _, _, _, _, _ => rfl
  | y :: l, last, h, hl, id, hn => by
    obtain ⟨h1, h2, h3, h4, h5⟩ := h
    have hp : partsOf (y :: l) = (y.ID.toNat, encB y.L) :: partsOf l := rfl
    rw [hp]
    unfold findT
    have := hn y (List.mem_cons_self ..)
    rw [if_neg (by simp only; omega)]
    exact find_not h5 (by omega) fun x hx => hn x (List.mem_cons_of_mem _ hx)
theorem any_take {l : List Ser} {p : Ser → Bool} {i : Nat} (h : i < l.length) : (l.take (i + 1)).any p = ((l.take i).any p || p l[i]) := by
  rw [show l.take (i + 1) = l.take i ++ [l[i]] by rw [List.take_append_getElem]]
  simp only [List.any_append, List.any_cons, List.any_nil, Bool.or_false]
/-- whether a series is found -/
theorem find_any_id {l : List Ser} (hg : goodS (-1) l) (ho : ∀ x ∈ l, (∀ y ∈ x.L, Sample.ok y) ∧ x.L.length ≤ 5000) (id : Int) : (findT (partsOf l) id).2 = if (l.any fun x => x.ID == id) then 0 else 3 := by
  cases h : l.any fun x => x.ID == id with
  | true =>
    obtain ⟨x, hx, e⟩ := List.any_eq_true.1 h
    have e' : x.ID = id := by simpa using e
    subst e'
    rw [find_part hg (by omega) ho x hx]; rfl
  | false =>
    rw [find_not hg (by omega) fun x hx e => by have := List.any_eq_false.1 h x hx; simp [e] at this]; rfl

set_option linter.unusedSimpArgs false in
set_option maxRecDepth 100000 in
set_option maxHeartbeats 2000000 in
theorem majorEach_walk (w : World) (v0 : Value) (id : Int) (g0 : ∃ A c, ∃ (xs : List SerV) (l : List Ser), v0 = .slice A xs.length c ∧ SersAt w A xs l ∧ (∀ i, (h1 : i < xs.length) → (h2 : i < l.length) → SerOk xs[i] l[i]) ∧ xs.length ≤ c ∧ c ≤ maxLen) (_h1 : -9223372036854775808 ≤ id) (_h2 : id ≤ 9223372036854775807) :
    Calls Try.prog 7 #[v0, .int .i64 id] w fun e w' => e = .returned (.bool true) ∧ Below w.heap.size w w' := by
  clear _h1 _h2
  obtain ⟨A, c, xs, l, rfl, hat, hok, hc, hcm⟩ := g0
  have Hv := Lib.hid (heavy_any A c xs w hat.rd (by omega) (sers_max hat hok))
  have D5 := fun w => find_any (⟨#[]⟩ : ByteArray) 0 w (by decide)
  simp only [show (⟨#[]⟩ : ByteArray).data.toList = [] from rfl, find_empty] at D5
  have HD5 := Lib.hid D5
  have Hat := Lib.hid hat
  have Hok := Lib.hid hok
  obtain ⟨n, hn⟩ : ∃ n, xs.length = n := ⟨_, rfl⟩
  rw [hn] at Hv hc ⊢
  have Hn := Lib.hid hn
  clear hat hok D5 hn
  go_enter Try.func7, Try.ntmps7
  go_wp2_with fail
  refine Hv.out.mono ?_
  rintro e w1 ⟨b, rfl, hb, hb1⟩
  have Hb1 := Lib.hid hb1
  cases b with
  | true =>
    go_wp2_with fail
    go_ret
    exact ⟨rfl, Hb1.out⟩
  | false =>
    have hsm := hb rfl
    have hl3 : ∀ x ∈ l, x.L.length ≤ 300 := sers_len Hat.out (k := 300) fun x hx => by have := sumN_mem hx; omega
    have hns : xs.length ≤ 300 := by have := Hn.out; omega
    have hn3 : n ≤ 300 := by omega
    have hat1 := Hat.out.below hb1
    have Hat1 := Lib.hid hat1
    have M1 := mencode_any A c xs l w1 hat1 Hok.out hns fun x hx => by have := hl3 x hx; omega
    have hT := encSV_small (sers_ok Hat.out Hok.out) hl3 (by rw [Hat.out.len]; exact hns)
    have hm0 : mostL l ≤ 20000 := by
      rw [mostL_sum, sers_sum Hat.out, Hat.out.len]
      omega
    have Hoo := Lib.hid (fun x hx => (⟨sers_ok Hat.out Hok.out x hx, by have := hl3 x hx; omega⟩ : (∀ y ∈ x.L, Sample.ok y) ∧ x.L.length ≤ 5000))
    obtain ⟨T, hTe⟩ : ∃ T, S (encSV l).1 = T := ⟨_, rfl⟩
    have hTs : T.size ≤ 20000 := by rw [← hTe, S_size]; omega
    obtain ⟨F, hF⟩ : ∃ F, (encSV l).2 = F := ⟨_, rfl⟩
    rw [hTe, hF, Hn.out] at M1
    have HM1 := Lib.hid M1
    have Hl3 := Lib.hid hl3
    have HTe := Lib.hid (And.intro hTe hF)
    have HTs := Lib.hid hTs
    have k0 : ((F : Int) != F) = false := by simp
    clear hb hb1 hsm hat1 hT hTe hF M1 hl3 Hv hTs hm0
    go_wp2_with fail
    refine HM1.out.mono ?_
    rintro e w2 ⟨rfl, hb2⟩
    have hat2 := Hat1.out.below hb2
    have Hb2 := Lib.hid (Hb1.out.trans (hb2.mono Hb1.out.size))
    have HTh := Lib.hid (by have := theirs_sers A c xs l w2 hat2 (by omega); rwa [Hn.out] at this)
    have Hat2 := Lib.hid hat2
    clear hb2 hat2 HM1 Hat1 Hb1
    go_wp2_with fail
    refine HTh.out.mono ?_
    rintro e w3 ⟨A', c', rfl, hat3, hb3⟩
    have M3 := rmencode_any A' c' xs l w3 hat3 Hok.out hns fun x hx => by have := Hl3.out x hx; omega
    rw [HTe.out.1, HTe.out.2, Hn.out] at M3
    have HM3 := Lib.hid M3
    have Hat3 := Lib.hid (Hat2.out.below hb3)
    have Hb3 := Lib.hid (Hb2.out.trans (hb3.mono Hb2.out.size))
    clear hat3 hb3 M3 HTh Hat2 Hb2
    go_wp2_with fail
    refine HM3.out.mono ?_
    rintro e w4 ⟨rfl, hb4⟩
    have Hat4 := Lib.hid (Hat3.out.below hb4)
    have Hb4 := Lib.hid (Hb3.out.trans (hb4.mono Hb3.out.size))
    clear hb4 HM3 Hat3 Hb3
    cases hgd : goodSb (-1) l with
    | false =>
      have hF : F = 30 := by rw [← HTe.out.2, encSV_no hgd]
      subst hF
      clear hgd
      go_wp2_with fail
      refine (HD5.out _).mono ?_
      rintro e w5 ⟨A5, c5, rfl, -, hb5⟩
      have Hb5 := Lib.hid (Hb4.out.trans (hb5.mono Hb4.out.size))
      clear hb5
      go_wp2_with fail
      go_ret
      exact ⟨rfl, Hb5.out⟩
    | true =>
      have hF : F = 0 := by rw [← HTe.out.2, encSV_good hgd]
      subst hF
      have hg := goodSb_iff.1 hgd
      have hE : T = S (encS l) := by rw [← HTe.out.1, encSV_good hgd]
      have hEl : (encS l).length ≤ 20000 := by have := HTs.out; rw [hE, S_size] at this; exact this
      have htb := table_back hg (by omega)
      have htd : T.data.toList = encS l := by rw [hE, S_toList]
      have hfv : ∀ id, findV T.data.toList id = ((findT (partsOf l) id).1.getD [], (findT (partsOf l) id).2) := fun id => by rw [htd]; unfold findV; rw [htb]
      have F1 := fun id w => find_any T id w (by have := HTs.out; omega)
      have I1 := fun w => ids_u T w (by have := HTs.out; omega)
      have hil : (idsL T.data.toList).length = n := by rw [htd]; unfold idsL; rw [htb]; simp [partsOf, Hat4.out.len, Hn.out]
      have hie : idsE T.data.toList = 0 := by rw [htd]; unfold idsE; rw [htb]; rfl
      unfold IdsV at I1
      rw [hie] at I1
      obtain ⟨J, hJ⟩ : ∃ J, idsL T.data.toList = J := ⟨_, rfl⟩
      rw [hJ] at I1 hil
      have HFi := Lib.hid F1
      have HIi := Lib.hid I1
      have Hfv := Lib.hid hfv
      have Hgd := Lib.hid hg
      have Hil := Lib.hid hil
      clear hg hE hEl htb htd hfv F1 I1 hie hil hJ hgd HD5
      go_wp2_with fail
      go_loopw [11, 12] (fun tv ix wr => ∃ (i : Nat) (t : Bool), ix = .int .i64 i ∧ tv = .bool t ∧ i ≤ n ∧ t = (l.take i).any (fun x => x.ID == id) ∧ Below w.heap.size w wr ∧ Hid (SersAt wr A xs l)) (fun _ ix _ => n - (intOf ix).toNat)
      case atStart => exact ⟨0, false, rfl, rfl, by omega, rfl, Hb4.out, Hat4⟩
      case round =>
        obtain ⟨i, t, rfl, rfl, hi, ht, hbel, Hati⟩ := hrel
        have Ht := Lib.hid ht
        have Hbel := Lib.hid hbel
        clear ht hbel
        by_cases hlt : i < n
        · have hlx : i < xs.length := by have := Hn.out; omega
          have hll : i < l.length := by rw [Hat4.out.len]; exact hlx
          obtain ⟨gb, off, rfl, hgb, hf⟩ := Hati.out.rd.elem serCells_length (by decide) hlx
          have f0 := hf 0 _ rfl
          have f1 := hf 1 _ rfl
          obtain ⟨hid, hlen, hrdL⟩ := Hati.out.at_ i hlx
          have hfp := find_part Hgd.out (by omega) Hoo.out _ (List.getElem_mem hll)
          have FI := HFi.out l[i].ID wr
          rw [Hfv.out, hfp] at FI
          have hat := any_take (p := fun x => x.ID == id) hll
          rw [← Ht.out] at hat
          have hl5 := Hl3.out _ (List.getElem_mem hll)
          generalize xs[i] = f at *
          generalize l[i] = sx at *
          obtain ⟨I, A1, n1, c1⟩ := f
          obtain ⟨J', L⟩ := sx
          simp only [Nat.add_zero] at f0 f1 hid hlen hrdL FI hat hl5
          subst hid
          subst hlen
          unfold FindPost at FI
          simp only [Option.getD_some] at FI
          have f1' : wr.cell? ⟨gb, off + i * 2 + 1, none⟩ = some (.slice A1 L.length c1) := by rw [Nat.add_assoc]; exact f1
          have HFI := Lib.hid FI
          have Hat' := Lib.hid hat
          have HrL := Lib.hid hrdL
          have hk1 : (i : Int) < n := by omega
          clear hf f1 FI hat hrdL hfp
          go_wp2_with fail
          refine HFI.out.mono ?_
          rintro e w6 ⟨A6, c6, rfl, hr6, hb6⟩
          have d0 := keepc hb6 f0
          have d1 := keepc hb6 f1'
          have SM := same13_any A6 A1 c6 c1 L L w6 hr6 (HrL.out.below hb6) (by omega)
          rw [samesB_self] at SM
          have HSM := Lib.hid SM
          have Hb6 := Lib.hid (Hbel.out.trans (hb6.mono Hbel.out.size))
          have Hat6 := Lib.hid (Hati.out.below hb6)
          clear hb6 hr6 SM f0 f1' Hbel Hati HFI
          go_wp2_with fail
          refine HSM.out.mono ?_
          rintro e w7 ⟨rfl, hb7⟩
          have e0 := keepc hb7 d0
          have e1 := keepc hb7 d1
          have Hb7 := Lib.hid (Hb6.out.trans (hb7.mono Hb6.out.size))
          have Hat7 := Lib.hid (Hat6.out.below hb7)
          clear hb7 d0 d1 HSM Hb6 Hat6
          obtain ⟨q, hq⟩ : ∃ q, (J' == id) = q := ⟨_, rfl⟩
          rw [hq] at Hat'
          cases t with
          | true =>
            clear hq
            go_wp2_with fail
            go_roundw
            case rel => exact ⟨i + 1, true, by go_num, rfl, by omega, by rw [Hat'.out]; rfl, Hb7.out, Hat7⟩
            case measure => simp [intOf]; omega
          | false =>
            go_wp2_with fail
            go_roundw
            case rel => exact ⟨i + 1, q, by go_num, by first | rfl | rw [hq], by omega, by rw [Hat'.out]; rfl, Hb7.out, Hat7⟩
            case measure => simp [intOf]; omega
        · obtain rfl : i = n := by omega
          have ht : t = l.any (fun x => x.ID == id) := by rw [Ht.out, List.take_of_length_le (by rw [Hat4.out.len, Hn.out]; exact Nat.le_refl _)]
          have h2 := find_any_id Hgd.out Hoo.out id
          rw [← ht] at h2
          have FI := HFi.out id wr
          rw [Hfv.out, h2] at FI
          have HFI := Lib.hid FI
          clear ht h2 FI
          have key : ∀ (F' : Nat) (b' : Bool), F' = (if t = true then 0 else 3) → ((F' : Int) == 3) = !t := fun F' b' h => by cases t <;> simp [h]
          cases t with
          | true =>
            go_wp2_with fail
            refine HFI.out.mono ?_
            rintro e w6 ⟨A6, c6, rfl, -, hb6⟩
            have Hb6 := Lib.hid (Hbel.out.trans (hb6.mono Hbel.out.size))
            clear hb6 key
            go_wp2_with fail
            refine (HIi.out _).mono ?_
            rintro e w7 ⟨A7, c7, rfl, -, -, hb7⟩
            have Hb7 := Lib.hid (Hb6.out.trans (hb7.mono Hb6.out.size))
            clear hb7
            rw [Hil.out]
            go_wp2_with fail
            go_ret
            exact ⟨rfl, Hb7.out⟩
          | false =>
            go_wp2_with fail
            refine HFI.out.mono ?_
            rintro e w6 ⟨A6, c6, rfl, -, hb6⟩
            have Hb6 := Lib.hid (Hbel.out.trans (hb6.mono Hbel.out.size))
            clear hb6 key
            go_wp2_with fail
            refine (HIi.out _).mono ?_
            rintro e w7 ⟨A7, c7, rfl, -, -, hb7⟩
            have Hb7 := Lib.hid (Hb6.out.trans (hb7.mono Hb6.out.size))
            clear hb7
            rw [Hil.out]
            go_wp2_with fail
            go_ret
            exact ⟨rfl, Hb7.out⟩
end Go.Proofs.Ytmafdbdmmfpeeaa
