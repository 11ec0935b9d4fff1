/-
  The document's table of series: the walk.
-/
import Derived.Test.YtmafdbdmmfpeeaaRMajP
namespace Go.Proofs.Ytmafdbdmmfpeeaa
open Go Go.RowKit

theorem Duo2.made (R : Nat → Prop) (E1 E2 : TypeId) (s1 s2 B : Nat) (w : World) (hB : w.heap.size = B) (ho : Old R w) :
    Duo2 R E1 s1 (.slice (some ⟨B, 0, none⟩) 0 0) 0 [] E2 s2 (.slice (some ⟨B + 1, 0, none⟩) 0 0) 0 [] ((w.alloc (.cells #[] E1)).alloc (.cells #[] E2)) := by
  subst hB
  have e1 : (w.alloc (.cells #[] E1)).heap.size = w.heap.size + 1 := by simp
  have a := (Lie.made R w E1 s1 ho).alloc (.cells #[] E2)
  have b := Lie.made R (w.alloc (.cells #[] E1)) E2 s2 (fun i hi => by rw [e1]; have := ho i hi; omega)
  rw [e1] at b
  refine ⟨a.shift fun i hi hp => ?_, b.shift fun i hi hp => ?_⟩ <;>
    (simp only [Value.ownBlock, Option.some.injEq] at hi hp; subst hi; rcases hp with h | h <;> first | omega | (have := ho _ h; omega))
theorem strInf : (Try.prog.info? 9).map (fun i => (i.zero, i.size, i.bytes)) = some (some (.string ⟨#[]⟩), 1, 16) := by kernel_rfl
theorem sumE_take {es : List (Nat × Nat)} {i : Nat} (h : i < es.length) : sumE (es.take (i + 1)) = sumE (es.take i) + es[i].2 ∧ sumE (es.take i) + es[i].2 ≤ sumE es := by
  have h1 : sumE (es.take (i + 1)) = sumE (es.take i) + es[i].2 := by
    rw [show es.take (i + 1) = es.take i ++ [es[i]] by rw [List.take_append_getElem], sumE_snoc]
  refine ⟨h1, ?_⟩
  rw [← h1]
  have : sumE (es.take (i + 1)) + sumE (es.drop (i + 1)) = sumE es := by
    conv => rhs; rw [← List.take_append_drop (i + 1) es]
    unfold sumE
    rw [List.map_append, List.sum_append]
  omega

def RTabRel (B n : Nat) (s : ByteArray) (H : Option (List (Nat × Nat) × Int)) (w : World) (av lv zv ov cv : Value) (wr : World) : Prop :=
  ∃ (es : List (Nat × Nat)) (k : Nat) (a last : Int) (A1 A2 : Option Addr) (c1 c2 : Nat), av = .int .i64 a ∧ lv = .slice A1 es.length c1 ∧ zv = .slice A2 es.length c2 ∧ ov = .int .i64 (sumE es : Nat) ∧ cv = .int .u64 (es.length : Nat) ∧ es.length + k = n ∧ 0 ≤ a ∧ a ≤ s.size ∧ -1 ≤ last ∧ last < 200 ∧ sumE es ≤ es.length * 1000000 ∧ (es = [] ∧ last = -1 ∨ ∃ ep x, es = ep ++ [x] ∧ (x.1 : Int) = last) ∧
    Duo2 (fun j => j < B) 3 1 (.slice A1 es.length c1) es.length (es.flatMap eidC) 3 1 (.slice A2 es.length c2) es.length (es.flatMap eszC) wr ∧ Below B w wr ∧ (entsR s.data.toList k a last).map (fun r => (es ++ r.1, r.2)) = H

set_option linter.unusedSimpArgs false in
set_option maxRecDepth 100000 in
set_option maxHeartbeats 4000000 in
theorem rtable_at (s : ByteArray) (B : Nat) (w : World) (hB : w.heap.size = B) (hs : s.size ≤ 1000000) : Calls Try.prog 21 #[.string s] w (RTabPost s B w) := by
  have G0 := fun w => rgetUint_any s 0 w (by omega)
  obtain ⟨g0, hg0⟩ : ∃ g, getAt s.data.toList 0 = g := ⟨_, rfl⟩
  have hn0 := getAt_next s.data.toList 0
  have hN0 := getAt_lt s.data.toList 0
  rw [hg0, ← Lib.size_eq] at hn0
  rw [hg0] at hN0
  simp only [hg0] at G0
  obtain ⟨n, a0, e0⟩ := g0
  simp only at G0 hn0 hN0
  have Hte := Lib.hid (table_eq hg0)
  have HG0 := Lib.hid G0
  have HB := Lib.hid hB
  clear G0 hg0 hB
  have hc : e0 ≠ 0 ∨ (e0 = 0 ∧ 200 < n) ∨ (e0 = 0 ∧ n ≤ 200) := by omega
  rcases hc with h | ⟨h, h'⟩ | ⟨h, h'⟩
  · have HN := Lib.hid (show tableR s.data.toList = none by rw [Hte.out, if_pos (.inl h)])
    obtain ⟨k1, k2⟩ := err_yes h
    clear h
    go_enter Try.func21, Try.ntmps21
    go_wp2_with fail
    refine (HG0.out _).mono ?_
    rintro e w1 ⟨rfl, hb1⟩
    have Hb1 := Lib.hid (hb1.mono (Nat.le_of_eq HB.out.symm))
    clear hb1
    go_wp2_with fail
    go_ret3
    exact .inl ⟨HN.out, rfl, Hb1.out⟩
  · have HN := Lib.hid (show tableR s.data.toList = none by rw [Hte.out, if_pos (.inr h')])
    obtain ⟨k1, k2⟩ := err_no h
    have k3 : decide ((200 : Int) < (n : Int)) = true := decide_eq_true (by omega)
    have k4 : decide (200 < n) = true := decide_eq_true h'
    clear h h'
    go_enter Try.func21, Try.ntmps21
    go_wp2_with fail
    refine (HG0.out _).mono ?_
    rintro e w1 ⟨rfl, hb1⟩
    have Hb1 := Lib.hid (hb1.mono (Nat.le_of_eq HB.out.symm))
    clear hb1
    go_wp2_with fail
    go_ret3
    exact .inl ⟨HN.out, rfl, Hb1.out⟩
  · obtain ⟨H, hH⟩ : ∃ H, entsR s.data.toList n a0 (-1) = H := ⟨_, rfl⟩
    have hte := Hte.out
    rw [if_neg (by omega), hH] at hte
    have Htd := Lib.hid hte
    have HH := Lib.hid hH
    obtain ⟨k1, k2⟩ := err_no h
    have k3 : decide ((200 : Int) < (n : Int)) = false := decide_eq_false (by omega)
    have k4 : decide (200 < n) = false := decide_eq_false (by omega)
    clear h hH hte hN0
    go_enter Try.func21, Try.ntmps21
    go_wp2_with fail
    refine (HG0.out _).mono ?_
    rintro e w1 ⟨rfl, hb1⟩
    have Hb1 := Lib.hid (hb1.mono (Nat.le_of_eq HB.out.symm))
    have hsz1 : B ≤ w1.heap.size := by have := hb1.size; have := HB.out; omega
    clear hb1 HG0
    have HT := Lib.hid (Duo2.made (fun j => j < B) 3 3 1 1 w1.heap.size w1 rfl (fun j hj => Nat.lt_of_lt_of_le hj hsz1))
    have HB1 := Lib.hid ((Hb1.out.alloc hsz1 (.cells #[] 3)).alloc (by simp; omega) (.cells #[] 3))
    go_wp2_with fail
    generalize (w1.alloc (.cells #[] 3)).alloc (.cells #[] 3) = w2 at *
    generalize w1.heap.size = g1 at *
    go_loopw [6, 8, 9, 10, 11] (fun av lv zv ov cv wr => RTabRel B n s H w av lv zv ov cv wr) (fun _ _ _ _ cv _ => n - (intOf cv).toNat)
    case atStart => exact ⟨[], n, a0, -1, _, _, 0, 0, rfl, rfl, rfl, rfl, rfl, by simp, hn0.1, hn0.2, by omega, by omega, by simp [sumE], .inl ⟨rfl, rfl⟩, HT.out, HB1.out, by rw [HH.out]; simp⟩
    case round =>
      obtain ⟨es, k, a, last, A1, A2, c1, c2, rfl, rfl, rfl, rfl, rfl, hk, ha1, ha2, hl0, hl1, hsm, hlast, hduo, hbel, hents⟩ := hrel
      obtain ⟨nl, hnl⟩ : ∃ nl, es.length = nl := ⟨_, rfl⟩
      rw [hnl] at hduo hk hsm ⊢
      have Hnl := Lib.hid hnl
      clear hnl
      by_cases hlt : nl < n
      · obtain ⟨k', rfl⟩ : ∃ k', k = k' + 1 := ⟨k - 1, by omega⟩
        have G1 := fun w => rgetUint_any s a w (by omega)
        obtain ⟨g1', hg1⟩ : ∃ g, getAt s.data.toList a = g := ⟨_, rfl⟩
        have hN1 := getAt_lt s.data.toList a
        have hn1 := getAt_next s.data.toList a
        rw [hg1, ← Lib.size_eq] at hn1
        rw [hg1] at hN1
        simp only [hg1] at G1
        obtain ⟨p, a1, e1⟩ := g1'
        simp only at G1 hN1 hn1
        have G2 := fun w => rgetUint_any s a1 w (by omega)
        obtain ⟨g2', hg2⟩ : ∃ g, getAt s.data.toList a1 = g := ⟨_, rfl⟩
        have hn2 := getAt_next s.data.toList a1
        have hN2 := getAt_lt s.data.toList a1
        rw [hg2, ← Lib.size_eq] at hn2
        rw [hg2] at hN2
        simp only [hg2] at G2
        obtain ⟨q, a2, e2⟩ := g2'
        simp only at G2 hn2 hN2
        have hx := ent_at (last := last) hg1 hg2
        rw [← Lib.size_eq] at hx
        have Hx := Lib.hid hx
        have HG1 := Lib.hid G1
        have HG2 := Lib.hid G2
        have Hduo := Lib.hid hduo
        have Hbel := Lib.hid hbel
        have Hents := Lib.hid hents
        have Hi := Lib.hid hn2
        have Hsm := Lib.hid hsm
        have Hlast := Lib.hid hlast
        have hsl : IntKind.u64.wrap (s.size : Int) = s.size := by rw [IntKind.wrap_u64]; omega
        have Hstop := Lib.hid (show ¬ (e1 = 0 ∧ e2 = 0 ∧ p < 200 ∧ last < p ∧ q ≤ s.size) → tableR s.data.toList = none from fun h => by
          rw [Htd.out, ents_stop Hents.out (by rw [Hx.out, if_neg h])]; rfl)
        have hcs : e1 ≠ 0 ∨ (e1 = 0 ∧ e2 ≠ 0) ∨ (e1 = 0 ∧ e2 = 0 ∧ 200 ≤ p) ∨ (e1 = 0 ∧ e2 = 0 ∧ p < 200 ∧ (p : Int) ≤ last) ∨ (e1 = 0 ∧ e2 = 0 ∧ p < 200 ∧ last < p ∧ s.size < q) ∨ (e1 = 0 ∧ e2 = 0 ∧ p < 200 ∧ last < p ∧ q ≤ s.size) := by omega
        clear G1 G2 hg1 hg2 hx hduo hbel hents hn1 hn2 hsm hN1 hN2 ha1 ha2 hn0 hlast HT HB1
        go_wp2_with fail
        refine (HG1.out _).mono ?_
        rintro e w3 ⟨rfl, hb3⟩
        have Ht3 := Lib.hid (Hduo.out.below hb3)
        have Hb3 := Lib.hid (Hbel.out.trans (hb3.mono (by have := Hbel.out.size; have := HB.out; omega)))
        clear hb3
        go_wp2_with fail
        refine (HG2.out _).mono ?_
        rintro e w4 ⟨rfl, hb4⟩
        have Ht4 := Lib.hid (Ht3.out.below hb4)
        have Hb4 := Lib.hid (Hb3.out.trans (hb4.mono (by have := Hb3.out.size; have := HB.out; omega)))
        clear hb4 Hduo Ht3 Hb3 Hbel HG1 HG2
        have hsz4 : B ≤ w4.heap.size := by have := Hb4.out.size; have := HB.out; omega
        rcases hcs with h | ⟨h, h'⟩ | ⟨h, h', c1⟩ | ⟨h, h', c1, c2⟩ | ⟨h, h', c1, c2, c3⟩ | ⟨h, h', c1, c2, c3⟩
        · have HN := Lib.hid (Hstop.out (by omega))
          obtain ⟨k5, k6⟩ := err_yes h
          clear h
          go_wp2_with fail
          go_ret3
          exact .inl ⟨HN.out, rfl, Hb4.out⟩
        · have HN := Lib.hid (Hstop.out (by omega))
          obtain ⟨k5, k6⟩ := err_no h
          obtain ⟨k7, k8⟩ := err_yes h'
          clear h h'
          go_wp2_with fail
          go_ret3
          exact .inl ⟨HN.out, rfl, Hb4.out⟩
        · have HN := Lib.hid (Hstop.out (by omega))
          obtain ⟨k5, k6⟩ := err_no h
          obtain ⟨k7, k8⟩ := err_no h'
          have k9 : decide ((200 : Int) ≤ (p : Int)) = true := decide_eq_true (by omega)
          clear h h' c1
          go_wp2_with fail
          go_ret3
          exact .inl ⟨HN.out, rfl, Hb4.out⟩
        · by_cases h0 : nl = 0
          · exact absurd c2 (by rcases Hlast.out with h9 | ⟨hp, x, h9, _⟩; omega; have h8 := Hnl.out; rw [h9] at h8; simp at h8; omega)
          · have HN := Lib.hid (Hstop.out (by omega))
            obtain ⟨k5, k6⟩ := err_no h
            obtain ⟨k7, k8⟩ := err_no h'
            have k9 : decide ((200 : Int) ≤ (p : Int)) = false := decide_eq_false (by omega)
            have m1 : IntKind.i64.wrap (p : Int) = p := by rw [IntKind.wrap_i64]; omega
            have k10 : decide ((p : Int) ≤ last) = true := decide_eq_true (by omega)
            obtain ⟨m', hm'⟩ : ∃ m', nl = m' + 1 := ⟨nl - 1, by omega⟩
            have hmd : m' < es.length := by have := Hnl.out; omega
            have hxl : (es[m'].1 : Int) = last := by
              rcases Hlast.out with h | ⟨hp, x, h, h'⟩
              · rw [h.1] at hmd; simp at hmd
              · have h9 := Hnl.out
                have h8 : hp.length = m' := by rw [h] at h9; simp at h9; omega
                subst h h8
                simpa using h'
            obtain ⟨gg, oo, rfl, hggl, hcl⟩ := Rd.elem eidC_length (by decide) Ht4.out.l.rd hmd
            have f1 := hcl 0 _ rfl
            rw [hxl, Nat.mul_one, Nat.add_zero] at f1
            have hm2 : (m' : Int) < (nl : Int) := by omega
            have hm4 : m' < nl := by omega
            have r1 : decide ((0 : Int) < (nl : Int)) = true := decide_eq_true (by omega)
            have r2 : decide (0 < nl) = true := decide_eq_true (by omega)
            have hm5 : IntKind.i64.wrap ((nl : Int) - 1) = (m' : Int) := by rw [IntKind.wrap_i64]; omega
            clear hcl hxl hmd hm'
            clear h h' c1 c2 h0
            go_wp2_with fail
            go_ret3
            exact .inl ⟨HN.out, rfl, Hb4.out⟩
        · by_cases h0 : nl = 0
          · have HN := Lib.hid (Hstop.out (by omega))
            obtain ⟨k5, k6⟩ := err_no h
            obtain ⟨k7, k8⟩ := err_no h'
            have k9 : decide ((200 : Int) ≤ (p : Int)) = false := decide_eq_false (by omega)
            have m1 : IntKind.i64.wrap (p : Int) = p := by rw [IntKind.wrap_i64]; omega
            have k11 : decide ((s.size : Int) < (q : Int)) = true := decide_eq_true (by omega)
            have k12 : decide (s.size < q) = true := decide_eq_true (by omega)
            have r1 : decide ((0 : Int) < (nl : Int)) = false := decide_eq_false (by omega)
            have r2 : decide (0 < nl) = false := decide_eq_false (by omega)
            clear h h' c1 c2 c3 h0
            go_wp2_with fail
            go_ret3
            exact .inl ⟨HN.out, rfl, Hb4.out⟩
          · have HN := Lib.hid (Hstop.out (by omega))
            obtain ⟨k5, k6⟩ := err_no h
            obtain ⟨k7, k8⟩ := err_no h'
            have k9 : decide ((200 : Int) ≤ (p : Int)) = false := decide_eq_false (by omega)
            have m1 : IntKind.i64.wrap (p : Int) = p := by rw [IntKind.wrap_i64]; omega
            have k10 : decide ((p : Int) ≤ last) = false := decide_eq_false (by omega)
            have k11 : decide ((s.size : Int) < (q : Int)) = true := decide_eq_true (by omega)
            have k12 : decide (s.size < q) = true := decide_eq_true (by omega)
            obtain ⟨m', hm'⟩ : ∃ m', nl = m' + 1 := ⟨nl - 1, by omega⟩
            have hmd : m' < es.length := by have := Hnl.out; omega
            have hxl : (es[m'].1 : Int) = last := by
              rcases Hlast.out with h | ⟨hp, x, h, h'⟩
              · rw [h.1] at hmd; simp at hmd
              · have h9 := Hnl.out
                have h8 : hp.length = m' := by rw [h] at h9; simp at h9; omega
                subst h h8
                simpa using h'
            obtain ⟨gg, oo, rfl, hggl, hcl⟩ := Rd.elem eidC_length (by decide) Ht4.out.l.rd hmd
            have f1 := hcl 0 _ rfl
            rw [hxl, Nat.mul_one, Nat.add_zero] at f1
            have hm2 : (m' : Int) < (nl : Int) := by omega
            have hm4 : m' < nl := by omega
            have r1 : decide ((0 : Int) < (nl : Int)) = true := decide_eq_true (by omega)
            have r2 : decide (0 < nl) = true := decide_eq_true (by omega)
            have hm5 : IntKind.i64.wrap ((nl : Int) - 1) = (m' : Int) := by rw [IntKind.wrap_i64]; omega
            clear hcl hxl hmd hm'
            clear h h' c1 c2 c3 h0
            go_wp2_with fail
            go_ret3
            exact .inl ⟨HN.out, rfl, Hb4.out⟩
        · by_cases h0 : nl = 0
          · have hxx := Hx.out
            rw [if_pos ⟨h, h', c1, c2, c3⟩] at hxx
            have Hnext := Lib.hid (ents_next Hents.out hxx)
            have Hc := Lib.hid (And.intro c1 (And.intro c2 c3))
            obtain ⟨t, ht⟩ : ∃ t, sumE es = t := ⟨_, rfl⟩
            have Ht := Lib.hid ht
            have hsm2 : t ≤ 200000000 := Nat.le_trans (by have := Hsm.out; rw [ht] at this; exact this) (show nl * 1000000 ≤ 200000000 by omega)
            rw [ht]
            have m2 : IntKind.i64.wrap (q : Int) = q := by rw [IntKind.wrap_i64]; omega
            have m3 : IntKind.i64.wrap ((t : Int) + (q : Int)) = (t : Int) + (q : Int) := by rw [IntKind.wrap_i64]; omega
            obtain ⟨k5, k6⟩ := err_no h
            obtain ⟨k7, k8⟩ := err_no h'
            have k9 : decide ((200 : Int) ≤ (p : Int)) = false := decide_eq_false (by omega)
            have m1 : IntKind.i64.wrap (p : Int) = p := by rw [IntKind.wrap_i64]; omega
            have k11 : decide ((s.size : Int) < (q : Int)) = false := decide_eq_false (by omega)
            have k12 : decide (s.size < q) = false := decide_eq_false (by omega)
            have r1 : decide ((0 : Int) < (nl : Int)) = false := decide_eq_false (by omega)
            have r2 : decide (0 < nl) = false := decide_eq_false (by omega)
            have k10 : decide ((p : Int) ≤ last) = false := decide_eq_false (by omega)
            clear h h' c1 c2 c3 hxx ht Hstop Hx h0
            go_wp2_with (at_builtin; first | ((refine wpList_append_elem_row rfl (.tmp 86) (.tmp 89) 22 (by rfl) 3 (.int .i64 0) 1 8 Try.underlying22 intInf rfl (by decide) _ nl _ _ w4 #[.int .i64 p] rfl (by intro u hu; simp at hu; rcases hu with rfl; rfl) Ht4.out.l (by rfl) (Ht4.out.old (fun j hj => Nat.lt_of_lt_of_le hj hsz4)) (by rfl) (by unfold maxLen; omega) (by omega) ?_); intro v6 w6 hown6 hst6 hgr6 hat6; have Ht6 := Lib.hid (Ht4.out.append hown6 hst6 hat6).swap; have Hb6 := Lib.hid (Hb4.out.trans (hst6.below fun k hk => .inl hk)); have hsz6 := Nat.le_trans hsz4 hst6.size; obtain ⟨A6, c6, rfl⟩ := hown6.form; clear hown6 hst6 hgr6 hat6) | (go_must (refine wpList_append_elem_row rfl (.tmp 91) (.tmp 94) 22 (by rfl) 3 (.int .i64 0) 1 8 Try.underlying22 intInf rfl (by decide) _ nl _ _ w6 #[.int .i64 q] rfl (by intro u hu; simp at hu; rcases hu with rfl; rfl) Ht6.out.l (by rfl) (Ht6.out.old (fun j hj => Nat.lt_of_lt_of_le hj hsz6)) (by rfl) (by unfold maxLen; omega) (by omega) ?_); intro v7 w7 hown7 hst7 hgr7 hat7; have Ht7 := Lib.hid (Ht6.out.append hown7 hst7 hat7).swap; have Hb7 := Lib.hid (Hb6.out.trans (hst7.below fun k hk => .inl hk)); obtain ⟨A7, c7, rfl⟩ := hown7.form; clear hown7 hst7 hgr7 hat7))
            go_roundw
            case rel =>
              have hl1 : (es ++ [(p, q)]).length = nl + 1 := by rw [List.length_append, Hnl.out]; rfl
              have hp : (es ++ [(p, q)]).flatMap eidC = es.flatMap eidC ++ #[Value.int .i64 p].toList := by simp [eidC]
              have hq : (es ++ [(p, q)]).flatMap eszC = es.flatMap eszC ++ #[Value.int .i64 q].toList := by simp [eszC]
              refine ⟨es ++ [(p, q)], k', a2, p, A6, A7, c6, c7, rfl, by rw [hl1], by rw [hl1], by rw [sumE_snoc, Ht.out]; exact rfl, by rw [hl1]; go_num, by rw [hl1]; omega, Hi.out.1, Hi.out.2, by omega, by have := Hc.out.1; omega, by rw [sumE_snoc, hl1]; have := Hsm.out; have := Hc.out.2.2; simp only; omega, .inr ⟨es, (p, q), rfl, rfl⟩, by rw [hl1, hp, hq]; exact Ht7.out, Hb7.out, Hnext.out⟩
            case measure => simp [intOf]; omega
          · have hxx := Hx.out
            rw [if_pos ⟨h, h', c1, c2, c3⟩] at hxx
            have Hnext := Lib.hid (ents_next Hents.out hxx)
            have Hc := Lib.hid (And.intro c1 (And.intro c2 c3))
            obtain ⟨t, ht⟩ : ∃ t, sumE es = t := ⟨_, rfl⟩
            have Ht := Lib.hid ht
            have hsm2 : t ≤ 200000000 := Nat.le_trans (by have := Hsm.out; rw [ht] at this; exact this) (show nl * 1000000 ≤ 200000000 by omega)
            rw [ht]
            have m2 : IntKind.i64.wrap (q : Int) = q := by rw [IntKind.wrap_i64]; omega
            have m3 : IntKind.i64.wrap ((t : Int) + (q : Int)) = (t : Int) + (q : Int) := by rw [IntKind.wrap_i64]; omega
            obtain ⟨k5, k6⟩ := err_no h
            obtain ⟨k7, k8⟩ := err_no h'
            have k9 : decide ((200 : Int) ≤ (p : Int)) = false := decide_eq_false (by omega)
            have m1 : IntKind.i64.wrap (p : Int) = p := by rw [IntKind.wrap_i64]; omega
            have k11 : decide ((s.size : Int) < (q : Int)) = false := decide_eq_false (by omega)
            have k12 : decide (s.size < q) = false := decide_eq_false (by omega)
            obtain ⟨m', hm'⟩ : ∃ m', nl = m' + 1 := ⟨nl - 1, by omega⟩
            have hmd : m' < es.length := by have := Hnl.out; omega
            have hxl : (es[m'].1 : Int) = last := by
              rcases Hlast.out with h | ⟨hp, x, h, h'⟩
              · rw [h.1] at hmd; simp at hmd
              · have h9 := Hnl.out
                have h8 : hp.length = m' := by rw [h] at h9; simp at h9; omega
                subst h h8
                simpa using h'
            obtain ⟨gg, oo, rfl, hggl, hcl⟩ := Rd.elem eidC_length (by decide) Ht4.out.l.rd hmd
            have f1 := hcl 0 _ rfl
            rw [hxl, Nat.mul_one, Nat.add_zero] at f1
            have hm2 : (m' : Int) < (nl : Int) := by omega
            have hm4 : m' < nl := by omega
            have r1 : decide ((0 : Int) < (nl : Int)) = true := decide_eq_true (by omega)
            have r2 : decide (0 < nl) = true := decide_eq_true (by omega)
            have hm5 : IntKind.i64.wrap ((nl : Int) - 1) = (m' : Int) := by rw [IntKind.wrap_i64]; omega
            clear hcl hxl hmd hm'
            have k10 : decide ((p : Int) ≤ last) = false := decide_eq_false (by omega)
            clear h h' c1 c2 c3 hxx ht Hstop Hx h0
            go_wp2_with (at_builtin; first | ((refine wpList_append_elem_row rfl (.tmp 86) (.tmp 89) 22 (by rfl) 3 (.int .i64 0) 1 8 Try.underlying22 intInf rfl (by decide) _ nl _ _ w4 #[.int .i64 p] rfl (by intro u hu; simp at hu; rcases hu with rfl; rfl) Ht4.out.l (by rfl) (Ht4.out.old (fun j hj => Nat.lt_of_lt_of_le hj hsz4)) (by rfl) (by unfold maxLen; omega) (by omega) ?_); intro v6 w6 hown6 hst6 hgr6 hat6; have Ht6 := Lib.hid (Ht4.out.append hown6 hst6 hat6).swap; have Hb6 := Lib.hid (Hb4.out.trans (hst6.below fun k hk => .inl hk)); have hsz6 := Nat.le_trans hsz4 hst6.size; obtain ⟨A6, c6, rfl⟩ := hown6.form; clear hown6 hst6 hgr6 hat6) | (go_must (refine wpList_append_elem_row rfl (.tmp 91) (.tmp 94) 22 (by rfl) 3 (.int .i64 0) 1 8 Try.underlying22 intInf rfl (by decide) _ nl _ _ w6 #[.int .i64 q] rfl (by intro u hu; simp at hu; rcases hu with rfl; rfl) Ht6.out.l (by rfl) (Ht6.out.old (fun j hj => Nat.lt_of_lt_of_le hj hsz6)) (by rfl) (by unfold maxLen; omega) (by omega) ?_); intro v7 w7 hown7 hst7 hgr7 hat7; have Ht7 := Lib.hid (Ht6.out.append hown7 hst7 hat7).swap; have Hb7 := Lib.hid (Hb6.out.trans (hst7.below fun k hk => .inl hk)); obtain ⟨A7, c7, rfl⟩ := hown7.form; clear hown7 hst7 hgr7 hat7))
            go_roundw
            case rel =>
              have hl1 : (es ++ [(p, q)]).length = nl + 1 := by rw [List.length_append, Hnl.out]; rfl
              have hp : (es ++ [(p, q)]).flatMap eidC = es.flatMap eidC ++ #[Value.int .i64 p].toList := by simp [eidC]
              have hq : (es ++ [(p, q)]).flatMap eszC = es.flatMap eszC ++ #[Value.int .i64 q].toList := by simp [eszC]
              refine ⟨es ++ [(p, q)], k', a2, p, A6, A7, c6, c7, rfl, by rw [hl1], by rw [hl1], by rw [sumE_snoc, Ht.out]; exact rfl, by rw [hl1]; go_num, by rw [hl1]; omega, Hi.out.1, Hi.out.2, by omega, by have := Hc.out.1; omega, by rw [sumE_snoc, hl1]; have := Hsm.out; have := Hc.out.2.2; simp only; omega, .inr ⟨es, (p, q), rfl, rfl⟩, by rw [hl1, hp, hq]; exact Ht7.out, Hb7.out, Hnext.out⟩
            case measure => simp [intOf]; omega
      · obtain rfl : k = 0 := by omega
        have hdone := ents_done hents
        obtain rfl : nl = n := by omega
        obtain ⟨aN, haN⟩ : ∃ aN : Nat, a = aN := ⟨a.toNat, by omega⟩
        subst haN
        have hte := Htd.out
        rw [hdone] at hte
        have Hte2 := Lib.hid (show tableR s.data.toList = if (sumE es : Int) = (s.size : Int) - aN then some (cutE es (s.data.toList.drop aN)) else none by rw [hte, Lib.size_eq]; rfl)
        have Hduo := Lib.hid hduo
        have Hbel := Lib.hid hbel
        have Hsm := Lib.hid hsm
        have m9 : IntKind.i64.wrap ((s.size : Int) - aN) = (s.size : Int) - aN := by rw [IntKind.wrap_i64]; omega
        have hBw : B ≤ wr.heap.size := by have := hbel.size; have := HB.out; omega
        have hnlk : nl ≤ 200 := by omega
        clear hdone hte hduo hbel hsm hents Htd HH hn0 ha1 hl0 hl1 hlt hlast HT HB1
        by_cases hsum : (sumE es : Int) = (s.size : Int) - aN
        · have HN := Lib.hid (show tableR s.data.toList = some (cutE es (s.data.toList.drop aN)) by rw [Hte2.out, if_pos hsum])
          have t1 : ((sumE es : Int) == (s.size : Int) - aN) = true := beq_iff_eq.2 hsum
          have t2 : ((sumE es : Int) != (s.size : Int) - aN) = false := by rw [bne, t1]; rfl
          have HcN := Lib.hid (show aN + sumE es = s.size by omega)
          clear hsum Hte2 ha2
          have hold : Old (fun j => j < B ∨ (Value.slice A1 nl c1).ownBlock = some j ∨ (Value.slice A2 nl c2).ownBlock = some j) wr := fun j hj => by
            rcases hj with h | h | h
            · omega
            · exact (Hduo.out.l.1.lt j h).2
            · exact (Hduo.out.r.1.lt j h).2
          have HM := Lib.hid (Lie.made _ wr 9 1 hold)
          have HL1 := Lib.hid ((Hduo.out.l.shift (R' := fun j => j < B) fun j hj hp => Hduo.out.l.2 j hj (.inl hp)).alloc (.cells #[] 9))
          have HL2 := Lib.hid ((Hduo.out.r.shift (R' := fun j => j < B) fun j hj hp => Hduo.out.r.2 j hj (.inl hp)).alloc (.cells #[] 9))
          have HbM := Lib.hid (Hbel.out.alloc hBw (.cells #[] 9))
          clear hold Hduo Hbel
          go_wp2_with fail
          generalize wr.alloc (.cells #[] 9) = wm at *
          generalize wr.heap.size = gm at *
          go_loopw [6, 18, 19] (fun tv xv ix wr => ∃ (i : Nat) (A9 : Option Addr) (c9 : Nat), tv = .int .i64 (aN + sumE (es.take i) : Nat) ∧ xv = .slice A9 i c9 ∧ ix = .int .i64 i ∧ i ≤ nl ∧
            Lie (fun j => j < B) 3 1 (.slice A1 nl c1) nl (es.flatMap eidC) wr ∧ Lie (fun j => j < B) 3 1 (.slice A2 nl c2) nl (es.flatMap eszC) wr ∧
            Lie (fun j => j < B ∨ (Value.slice A1 nl c1).ownBlock = some j ∨ (Value.slice A2 nl c2).ownBlock = some j) 9 1 (.slice A9 i c9) i (((cutE es (s.data.toList.drop aN)).take i).flatMap txC) wr ∧ Below B w wr) (fun _ _ ix _ => nl - (intOf ix).toNat)
          case atStart => exact ⟨0, _, _, by simp [sumE], rfl, rfl, by omega, HL1.out, HL2.out, by simpa using HM.out, HbM.out⟩
          case round =>
            obtain ⟨i, A9, c9, rfl, rfl, rfl, hi, hl1, hl2, hl4, hbel2⟩ := hrel
            have HL1' := Lib.hid hl1
            have HL2' := Lib.hid hl2
            have HL4' := Lib.hid hl4
            have HB2 := Lib.hid hbel2
            clear hl1 hl2 hl4 hbel2 HL1 HL2 HM HbM
            by_cases hlt2 : i < nl
            · have hid : i < es.length := by have := Hnl.out; omega
              obtain ⟨g2, o2, rfl, hgl2, hf2⟩ := Rd.elem eszC_length (by decide) HL2'.out.rd hid
              have f2 := hf2 0 _ rfl
              obtain ⟨m1, m2⟩ := sumE_take hid
              have hstep := txE_next (t := s.data.toList.drop aN) hid
              obtain ⟨p, hp⟩ : ∃ p, aN + sumE (es.take i) = p := ⟨_, rfl⟩
              obtain ⟨n, hn⟩ : ∃ n, es[i].2 = n := ⟨_, rfl⟩
              have hpn : p + n ≤ s.size := by have := HcN.out; omega
              have hp2 : aN + sumE (es.take (i + 1)) = p + n := by omega
              have hS : S (((s.data.toList.drop aN).drop (sumE (es.take i))).take n) = s.extract p (p + n) := by
                rw [List.drop_drop, hp]
                rw [← S_data (s.extract p (p + n)), Lib.extract_data]
                congr 2
                omega
              rw [hn, hS] at hstep
              rw [hn, Nat.mul_one, Nat.add_zero] at f2
              have Hstep := Lib.hid hstep
              have Hp2 := Lib.hid hp2
              have Hp := Lib.hid hp
              have hold : Old (fun j => j < B ∨ (Value.slice A1 nl c1).ownBlock = some j ∨ (Value.slice (some ⟨g2, o2, none⟩) nl c2).ownBlock = some j) wr := fun j hj => by
                have := HB2.out.size
                have := HB.out
                rcases hj with h | h | h
                · omega
                · exact (HL1'.out.1.lt j h).2
                · exact (HL2'.out.1.lt j h).2
              have hil : i ≤ 200 := by omega
              clear hstep hp2 hf2 m1 m2 hS
              rw [Hp.out]
              clear hp hn
              go_wp2_with (at_builtin; go_must (refine wpList_append_elem_row rfl (.tmp 114) (.tmp 124) 52 (by rfl) 9 (.string ⟨#[]⟩) 1 16 Try.underlying52 strInf rfl (by decide) _ i _ _ wr #[.string (s.extract p (p + n))] rfl (by intro u hu; simp at hu; rcases hu with rfl; rfl) HL4'.out (by rfl) hold (by rfl) (by unfold maxLen; omega) (by omega) ?_); intro v6 w6 hown6 hst6 hgr6 hat6; have f2' := (World.cell?_of_block (a := ⟨g2, o2 + i, none⟩) (hst6.block g2 (.inr (.inr rfl)))).trans f2; have HK1 := Lib.hid (HL1'.out.later fun g hg => hst6.block g (.inr (.inl hg))); have HK2 := Lib.hid (HL2'.out.later fun g hg => hst6.block g (.inr (.inr hg))); have HK4 := Lib.hid hown6; have HB6 := Lib.hid (HB2.out.trans (hst6.below fun k hk => .inl hk)); obtain ⟨A6, c6, rfl⟩ := hown6.form; clear hown6 hst6 hgr6 hat6)
              go_roundw
              case rel => exact ⟨i + 1, A6, c6, by rw [Hp2.out]; go_num, rfl, by go_num, by omega, HK1.out, HK2.out, by rw [Hstep.out]; exact HK4.out, HB6.out⟩
              case measure => simp [intOf]; omega
            · obtain rfl : nl = i := by omega
              go_wp2_with fail
              go_ret3
              have hn2 : (cutE es (s.data.toList.drop aN)).length = nl := by rw [cutE_len, Hnl.out]
              exact .inr ⟨_, _, _, HN.out, rfl, by rw [hn2, cutE_ids]; exact HL1'.out, by rw [hn2]; have := HL4'.out; rw [List.take_of_length_le (by omega)] at this; exact this.shift fun j hj hp => this.2 j hj (.inl hp), by omega, HB2.out⟩
        · have HN := Lib.hid (show tableR s.data.toList = none by rw [Hte2.out, if_neg hsum])
          have t1 : ((sumE es : Int) == (s.size : Int) - aN) = false := beq_eq_false_iff_ne.2 hsum
          have t2 : ((sumE es : Int) != (s.size : Int) - aN) = true := by rw [bne, t1]; rfl
          clear hsum
          go_wp2_with fail
          go_ret3
          exact .inl ⟨HN.out, rfl, Hbel.out⟩
end Go.Proofs.Ytmafdbdmmfpeeaa
