/-
  runs.fences: the walk.
-/
import Derived.Test.YthmikefinibecaaRunFen
namespace Go.Proofs.Ythmikefinibecaa
open Go Go.RowKit

/-- what fences answers -/
def FenPost (s : ByteArray) (B : Nat) (w : World) (e : Ending) (w' : World) : Prop :=
  (fencesR s.data.toList = none ∧ e = .returned (.tuple #[.slice none 0 0, .bool false]) ∧ Below B w w') ∨
    ∃ fs v, fencesR s.data.toList = some fs ∧ e = .returned (.tuple #[v, .bool true]) ∧ Lie (fun k => k < B) 46 4 v fs.length (fs.flatMap fenCells) w' ∧ fs.length ≤ 400 ∧ Below B w w'

/-- between two rounds -/
def FenRel (B c : Nat) (s : ByteArray) (ok : Bool) (H : Option (List (Int × Int × Nat × Nat) × Int)) (w : World) (lv sv av tv zv : Value) (wr : World) : Prop :=
  ∃ (hs : List (Int × Int × Nat × Nat)) (k : Nat) (a z last : Int) (A1 A2 : Option Addr) (c1 c2 : Nat), lv = .slice A1 hs.length c1 ∧ sv = .slice A2 hs.length c2 ∧ av = .int .i64 (sumR hs : Nat) ∧ tv = .int .i64 last ∧ zv = .int .i64 z ∧
    z ≤ 5000 ∧ -16 < z ∧ (hs.length : Int) * 16 + z ≤ 5016 ∧ k = (z.toNat + 15) / 16 ∧ (ok = false → z ≤ 0) ∧ 0 ≤ last ∧ last < 1099511627776 ∧ sumR hs ≤ hs.length * 1000000 ∧ 0 ≤ a ∧ a ≤ s.size ∧
    Duo2 (fun j => j < B ∨ j = c) 46 4 (.slice A1 hs.length c1) hs.length (hs.flatMap preCells) 3 1 (.slice A2 hs.length c2) hs.length (hs.flatMap sizCells) wr ∧ RunOf c s a ok wr ∧ Below B w wr ∧
    (headsR s.data.toList k z.toNat a last).map (fun r => (hs ++ r.1, r.2)) = H

set_option linter.unusedSimpArgs false in
set_option maxRecDepth 100000 in
set_option maxHeartbeats 4000000 in
theorem fences_at (s : ByteArray) (B : Nat) (w : World) (hB : w.heap.size = B) (hs : s.size ≤ 1000000) : Calls Try.prog 19 #[.string s] w (FenPost s B w) := by
  obtain ⟨⟨n0, a0, o0⟩, h0⟩ : ∃ x, numP s.data.toList 0 true 5001 = x := ⟨_, rfl⟩
  have hfe := fences_eq h0
  obtain ⟨H, hH⟩ : ∃ H, headsR s.data.toList ((n0 + 15) / 16) n0 a0 0 = H := ⟨_, rfl⟩
  rw [hH] at hfe
  have C0 : ∀ ww, RunOf B s 0 true ww → Calls Try.prog 36 #[.pointer (some ⟨B, 0, none⟩), .int .i64 5001] ww fun e w' => e = .returned (.int .i64 n0) ∧ RunOf B s a0 o0 w' ∧ But B ww w' := fun ww hw => by
    have := number_any B s 0 true 5001 ww hw hs (by omega)
    rw [h0] at this
    exact this
  have hn0 : n0 < 5001 := by have := numP_lt (l := s.data.toList) (a := 0) (ok := true) (below := 5001) (by decide); rw [h0] at this; exact this
  have ha0 : 0 ≤ a0 ∧ a0 ≤ s.size := numP_in (Lib.size_eq s).symm h0 (by omega) (by omega)
  have hz0 : o0 = false → n0 = 0 := by
    intro h
    have := numP_zero h0 h
    exact this
  have Hfe := Lib.hid hfe
  have HH := Lib.hid hH
  have HC0 := Lib.hid C0
  clear hfe hH C0 h0
  have hr0 : RunOf B s 0 true (w.alloc (.cells #[.string s, .int .i64 0, .bool true] 77)) := by rw [← hB]; exact heap_alloc_new w _
  have hb0 : Below B w (w.alloc (.cells #[.string s, .int .i64 0, .bool true] 77)) := (Below.refl B w).alloc (by omega) _
  have hB0 : (w.alloc (.cells #[.string s, .int .i64 0, .bool true] 77)).heap.size = B + 1 := by rw [← hB]; simp
  have Hr0 := Lib.hid hr0
  have Hb0 := Lib.hid hb0
  have HB0 := Lib.hid hB0
  clear hr0 hb0 hB0
  go_enter Try.func19, Try.ntmps19
  go_wp2_with fail
  generalize w.alloc (.cells #[.string s, .int .i64 0, .bool true] 77) = w1 at *
  refine (HC0.out _ Hr0.out).mono ?_
  rintro e w2 ⟨rfl, hr2, hb2⟩
  have Hr2 := Lib.hid hr2
  have Hb2 := Lib.hid (Hb0.out.trans (hb2.below (Nat.le_refl _)))
  have HB2 := Lib.hid (hb2.size.trans HB0.out)
  clear hr2 hb2 Hr0 Hb0 HB0 HC0
  go_wp2_with fail
  go_loopw [5, 6, 7, 8, 9] (fun lv sv av tv zv wr => FenRel B B s o0 H w lv sv av tv zv wr) (fun _ _ _ _ zv _ => (intOf zv).toNat)
  case atStart => exact ⟨[], (n0 + 15) / 16, a0, n0, 0, none, none, 0, 0, rfl, rfl, rfl, rfl, rfl, by omega, by omega, by simp; omega, by simp, fun h => by have := hz0 h; omega, by omega, by omega, by simp [sumR], ha0.1, ha0.2, Duo2.nil _ _ _ _ _ _, Hr2.out, Hb2.out, by rw [Int.toNat_natCast, HH.out]; simp⟩
  case round =>
    obtain ⟨hd, k, a, z, last, A1, A2, c1, c2, rfl, rfl, rfl, rfl, rfl, hz1, hz2, hz3, hk, hok, hl0, hl1, hsm, ha1, ha2, hduo, hrun, hbel, hheads⟩ := hrel
    by_cases hlt : 0 < z
    · obtain ⟨k', rfl⟩ : ∃ k', k = k' + 1 := ⟨k - 1, by omega⟩
      have ho : o0 = true := by
        cases o0
        · exact absurd (hok rfl) (by omega)
        · rfl
      subst ho
      obtain ⟨⟨f, a1, o1⟩, h1⟩ : ∃ x, numP s.data.toList a true 1099511627776 = x := ⟨_, rfl⟩
      obtain ⟨⟨m, a2, o2⟩, h2⟩ : ∃ x, numP s.data.toList a1 o1 1099511627776 = x := ⟨_, rfl⟩
      obtain ⟨⟨b, a3, o3⟩, h3⟩ : ∃ x, numP s.data.toList a2 o2 (s.size + 1) = x := ⟨_, rfl⟩
      have hx := head_num (by rw [Lib.size_eq s]) h1 h2 h3
      have hf : f < 1099511627776 := by have := numP_lt (l := s.data.toList) (a := a) (ok := true) (below := 1099511627776) (by decide); rw [h1] at this; exact this
      have hm : m < 1099511627776 := by have := numP_lt (l := s.data.toList) (a := a1) (ok := o1) (below := 1099511627776) (by decide); rw [h2] at this; exact this
      have hb : b < s.size + 1 := by have := numP_lt (l := s.data.toList) (a := a2) (ok := o2) (below := s.size + 1) (by omega); rw [h3] at this; exact this
      have i1 := numP_in (Lib.size_eq s).symm h1 ha1 ha2
      have i2 := numP_in (Lib.size_eq s).symm h2 i1.1 i1.2
      have i3 := numP_in (Lib.size_eq s).symm h3 i2.1 i2.2
      have C1 : ∀ ww, RunOf B s a true ww → Calls Try.prog 36 #[.pointer (some ⟨B, 0, none⟩), .int .i64 1099511627776] ww fun e w' => e = .returned (.int .i64 f) ∧ RunOf B s a1 o1 w' ∧ But B ww w' := fun ww hw => by
        have := number_any B s a true 1099511627776 ww hw hs (by omega)
        rw [h1] at this
        exact this
      have C2 : ∀ ww, RunOf B s a1 o1 ww → Calls Try.prog 36 #[.pointer (some ⟨B, 0, none⟩), .int .i64 1099511627776] ww fun e w' => e = .returned (.int .i64 m) ∧ RunOf B s a2 o2 w' ∧ But B ww w' := fun ww hw => by
        have := number_any B s a1 o1 1099511627776 ww hw hs (by omega)
        rw [h2] at this
        exact this
      have C3 : ∀ ww, RunOf B s a2 o2 ww → Calls Try.prog 36 #[.pointer (some ⟨B, 0, none⟩), .int .i64 ((s.size : Int) + 1)] ww fun e w' => e = .returned (.int .i64 b) ∧ RunOf B s a3 o3 w' ∧ But B ww w' := fun ww hw => by
        have := number_any B s a2 o2 (s.size + 1) ww hw hs (by omega)
        rw [h3, show ((s.size + 1 : Nat) : Int) = (s.size : Int) + 1 by omega] at this
        exact this
      clear h1 h2 h3
      have HC1 := Lib.hid C1
      have HC2 := Lib.hid C2
      have HC3 := Lib.hid C3
      have Hx := Lib.hid hx
      have Hduo := Lib.hid hduo
      have Hrun := Lib.hid hrun
      have Hbel := Lib.hid hbel
      have Hheads := Lib.hid hheads
      have Hi := Lib.hid i3
      have Hk := Lib.hid hk
      have Hl := Lib.hid (And.intro hl0 hl1)
      obtain ⟨g, hg⟩ : ∃ g : Int, (f : Int) + m = g := ⟨_, rfl⟩
      have hgw : IntKind.i64.wrap ((f : Int) + m) = g := by rw [IntKind.wrap_i64]; omega
      have hgw2 : IntKind.i64.wrap (g + 1) = g + 1 := by rw [IntKind.wrap_i64]; omega
      have Hg := Lib.hid hg
      have Hfm := Lib.hid (And.intro hf hm)
      have Hsm := Lib.hid hsm
      clear C1 C2 C3 hx hduo hrun hbel hheads i1 i2 i3 hk hl0 hl1 hg hf hm hsm ha1 ha2 hok hz0
      have Hrun2 := Hrun
      go_wp2_with fail
      refine (HC1.out _ Hrun.out).mono ?_
      rintro e w3 ⟨rfl, hr3, hb3⟩
      have Hr3 := Lib.hid hr3
      have HD3 := Lib.hid (Hduo.out.but hb3 (.inr rfl))
      have HB3 := Lib.hid (Hbel.out.trans (hb3.below (Nat.le_refl _)))
      clear hr3 hb3
      go_wp2_with fail
      refine (HC2.out _ Hr3.out).mono ?_
      rintro e w4 ⟨rfl, hr4, hb4⟩
      have Hr4 := Lib.hid hr4
      have HD4 := Lib.hid (HD3.out.but hb4 (.inr rfl))
      have HB4 := Lib.hid (HB3.out.trans (hb4.below (Nat.le_refl _)))
      clear hr4 hb4
      go_wp2_with fail
      refine (HC3.out _ Hr4.out).mono ?_
      rintro e w5 ⟨rfl, hr5, hb5⟩
      have Hr5 := Lib.hid hr5
      have HD5 := Lib.hid (HD4.out.but hb5 (.inr rfl))
      have HB5 := Lib.hid (HB4.out.trans (hb5.below (Nat.le_refl _)))
      clear hr5 hb5 HC1 HC2 HC3 Hduo Hrun Hrun2 Hbel Hr3 Hr4 HD3 HD4 HB3 HB4
      obtain ⟨q0, q1, q2, -, -⟩ := Hr5.out.cells
      have hc : o3 = false ∨ (o3 = true ∧ 1099511627776 ≤ g) ∨ (o3 = true ∧ g < 1099511627776 ∧ (f : Int) < last) ∨ (o3 = true ∧ g < 1099511627776 ∧ ¬ (f : Int) < last) := by
        cases o3
        · exact .inl rfl
        · by_cases c1 : 1099511627776 ≤ g
          · exact .inr (.inl ⟨rfl, c1⟩)
          · by_cases c2 : (f : Int) < last
            · exact .inr (.inr (.inl ⟨rfl, by omega, c2⟩))
            · exact .inr (.inr (.inr ⟨rfl, by omega, c2⟩))
      rcases hc with rfl | ⟨rfl, c1⟩ | ⟨rfl, c1, c2⟩ | ⟨rfl, c1, c2⟩
      · have HN := Lib.hid (show fencesR s.data.toList = none by rw [Hfe.out, heads_stop Hheads.out (by rw [Hx.out, if_neg (by simp)])]; exact fenEnd_none _ _)
        go_wp2_with fail
        go_ret2
        exact .inl ⟨HN.out, rfl, HB5.out⟩
      · have HN := Lib.hid (show fencesR s.data.toList = none by rw [Hfe.out, heads_stop Hheads.out (by rw [Hx.out, if_neg (by have := Hg.out; omega)])]; exact fenEnd_none _ _)
        have t1 : decide ((1099511627776 : Int) ≤ g) = true := decide_eq_true c1
        clear c1
        go_wp2_with fail
        go_ret2
        exact .inl ⟨HN.out, rfl, HB5.out⟩
      · have hy := Hx.out
        rw [if_pos ⟨rfl, by have := Hg.out; omega⟩] at hy
        have HN := Lib.hid (show fencesR s.data.toList = none by rw [Hfe.out, heads_low Hheads.out hy c2]; exact fenEnd_none _ _)
        have t1 : decide ((1099511627776 : Int) ≤ g) = false := decide_eq_false (by omega)
        have t2 : decide ((f : Int) < last) = true := decide_eq_true c2
        clear c1 c2 hy
        go_wp2_with fail
        go_ret2
        exact .inl ⟨HN.out, rfl, HB5.out⟩
      · have hy := Hx.out
        rw [if_pos ⟨rfl, by have := Hg.out; omega⟩] at hy
        have Hn := Lib.hid (heads_next Hheads.out hy c2)
        have t1 : decide ((1099511627776 : Int) ≤ g) = false := decide_eq_false (by omega)
        have t2 : decide ((f : Int) < last) = false := decide_eq_false c2
        have Hc := Lib.hid (And.intro c1 c2)
        clear c1 c2 hy Hx Hheads
        obtain ⟨mn, hmn⟩ : ∃ mn : Int, min z 16 = mn := ⟨_, rfl⟩
        have hmn2 : (if (16 : Int) < z then 16 else z) = mn := by rw [← hmn]; split <;> omega
        have hmn3 : ((min z.toNat 16 : Nat) : Int) = mn := by omega
        have Hmn := Lib.hid hmn3
        have hw16 : IntKind.i64.wrap (z - 16) = z - 16 := by rw [IntKind.wrap_i64]; omega
        have hold := HD5.out.old (R := fun j => j < B ∨ j = B) fun j hj => by have := (Array.getElem?_eq_some_iff.1 Hr5.out).1; omega
        have hsz5 := HB5.out.size
        clear hmn3
        rw [Hg.out] at Hn
        have hall : IntKind.i64.wrap ((sumR hd : Nat) + (b : Int)) = ((sumR hd + b : Nat) : Int) := by have := Hsm.out; rw [IntKind.wrap_i64]; omega
        go_wp2_with (at_builtin; first | (refine wpList_append_elem_row rfl (.tmp 53) (.tmp 61) 42 (by rfl) 46 (.agg #[.int .i64 0, .int .i64 0, .int .i64 0, .string ⟨#[]⟩]) 4 40 Try.underlying42 fenInf rfl (by decide) _ hd.length _ _ w5 #[.int .i64 f, .int .i64 (g + 1), .int .i64 mn, .string ⟨#[]⟩] rfl (by intro u hu; simp at hu; rcases hu with rfl | rfl | rfl | rfl <;> rfl) HD5.out.l (by rfl) hold (by rfl) (by unfold maxLen; omega) (by omega) ?_; intro v6 w6 hown6 hst6 hgr6 hat6; have HD6 := Lib.hid (HD5.out.append hown6 hst6 hat6); have HB6 := Lib.hid (HB5.out.trans (hst6.below fun k hk => .inl (.inl hk))); have Hr6 := Lib.hid (Hr5.out.frame (hst6.block B (.inl (.inr rfl)))); obtain ⟨A6, c6, rfl⟩ := hown6.form; have hsz6 := hst6.size; clear hown6 hst6 hgr6 hat6) | (go_must (refine wpList_append_elem_row rfl (.tmp 63) (.tmp 65) 48 (by rfl) 3 (.int .i64 0) 1 8 Try.underlying48 intInf rfl (by decide) _ hd.length _ _ w6 #[.int .i64 b] rfl (by intro u hu; simp at hu; rcases hu with rfl; rfl) HD6.out.swap.l (by rfl) (HD6.out.swap.old fun j hj => by have := (Array.getElem?_eq_some_iff.1 Hr6.out).1; omega) (by rfl) (by unfold maxLen; omega) (by omega) ?_); intro v7 w7 hown7 hst7 hgr7 hat7; have HD7 := Lib.hid (HD6.out.swap.append hown7 hst7 hat7).swap; have HB7 := Lib.hid (HB6.out.trans (hst7.below fun k hk => .inl (.inl hk))); have Hr7 := Lib.hid (Hr6.out.frame (hst7.block B (.inl (.inr rfl)))); obtain ⟨A7, c7, rfl⟩ := hown7.form; clear hown7 hst7 hgr7 hat7))
        go_roundw
        case rel =>
          have hp : (hd ++ [((f : Int), g + 1, min z.toNat 16, b)]).flatMap preCells = hd.flatMap preCells ++ #[.int .i64 f, .int .i64 (g + 1), .int .i64 mn, .string ⟨#[]⟩].toList := by simp [preCells, ← Hmn.out]
          have hq : (hd ++ [((f : Int), g + 1, min z.toNat 16, b)]).flatMap sizCells = hd.flatMap sizCells ++ #[Value.int .i64 b].toList := by simp [sizCells]
          have hlen : (hd ++ [((f : Int), g + 1, min z.toNat 16, b)]).length = hd.length + 1 := by simp
          have hz : (z - 16).toNat = z.toNat - 16 := by omega
          refine ⟨hd ++ [((f : Int), g + 1, min z.toNat 16, b)], k', a3, z - 16, g, A6, A7, c6, c7, by rw [hlen], by rw [hlen], by rw [sum_snoc]; exact rfl, rfl, rfl, by omega, by omega, by rw [hlen]; omega, ?_, fun h => (by cases h), ?_, Hc.out.1, ?_, Hi.out.1, Hi.out.2, ?_, Hr7.out, HB7.out, ?_⟩
          · have := Hk.out; omega
          · have := Hg.out; omega
          · rw [sum_snoc, hlen]; have := Hsm.out; simp only; omega
          · rw [hlen, hp, hq]; exact HD7.out
          · rw [hz]; exact Hn.out
        case measure => simp [intOf]; omega
    · have hk0 : k = 0 := by omega
      subst hk0
      have hdone := heads_done hheads
      have hfin : fencesR s.data.toList = if o0 = true then (if (sumR hd : Int) = (s.size : Int) - a then some (cutR hd (s.data.toList.drop a.toNat)) else none) else none := by
        rw [Hfe.out, hdone, Lib.size_eq s]
        rfl
      have Hfin := Lib.hid hfin
      have Hduo := Lib.hid hduo
      have Hrun := Lib.hid hrun
      have Hbel := Lib.hid hbel
      have Hsm := Lib.hid hsm
      have hz4 : decide ((0 : Int) < z) = false := decide_eq_false hlt
      have hnl : hd.length ≤ 400 := by omega
      obtain ⟨q0, q1, q2, -, -⟩ := hrun.cells
      have hw1 : IntKind.i64.wrap ((s.size : Int) - a) = (s.size : Int) - a := by rw [IntKind.wrap_i64]; omega
      clear hfin hduo hrun hbel hsm hdone hheads Hfe HH hok hz0 hk hl0 hl1 Hr2 Hb2 HB2 hn0 ha0
      have hc : o0 = false ∨ (o0 = true ∧ (sumR hd : Int) ≠ (s.size : Int) - a) ∨ (o0 = true ∧ (sumR hd : Int) = (s.size : Int) - a) := by
        cases o0
        · exact .inl rfl
        · by_cases c1 : (sumR hd : Int) = (s.size : Int) - a
          · exact .inr (.inr ⟨rfl, c1⟩)
          · exact .inr (.inl ⟨rfl, c1⟩)
      rcases hc with rfl | ⟨rfl, c1⟩ | ⟨rfl, c1⟩
      · have HN := Lib.hid (show fencesR s.data.toList = none by rw [Hfin.out]; rfl)
        go_wp2_with fail
        go_ret2
        exact .inl ⟨HN.out, rfl, Hbel.out⟩
      · have HN := Lib.hid (show fencesR s.data.toList = none by rw [Hfin.out, if_pos rfl, if_neg c1])
        have t1 : ((sumR hd : Int) == (s.size : Int) - a) = false := beq_eq_false_iff_ne.2 c1
        have t2 : ((sumR hd : Int) != (s.size : Int) - a) = true := by rw [bne, t1]; rfl
        clear c1
        go_wp2_with fail
        go_ret2
        exact .inl ⟨HN.out, rfl, Hbel.out⟩
      · have HN := Lib.hid (show fencesR s.data.toList = some (cutR hd (s.data.toList.drop a.toNat)) by rw [Hfin.out, if_pos rfl, if_pos c1])
        have t1 : ((sumR hd : Int) == (s.size : Int) - a) = true := beq_iff_eq.2 c1
        have t2 : ((sumR hd : Int) != (s.size : Int) - a) = false := by rw [bne, t1]; rfl
        have Hc := Lib.hid c1
        clear c1
        go_wp2_with fail
        clear q0 q1 q2 Hrun t1 t2 hw1
        obtain ⟨aN, haN⟩ : ∃ aN : Nat, a = aN := ⟨a.toNat, by omega⟩
        subst haN
        rw [Int.toNat_natCast] at HN
        have hcN : aN + sumR hd = s.size := by have := Hc.out; omega
        have HcN := Lib.hid hcN
        clear hcN Hc
        go_loopw [13, 92] (fun av ix wr => ∃ i : Nat, ix = .int .i64 i ∧ av = .int .i64 (aN + sumR (hd.take i) : Nat) ∧ i ≤ hd.length ∧ Duo2 (fun j => j < B ∨ j = B) 46 4 (.slice A1 hd.length c1) hd.length (cutC i hd (s.data.toList.drop aN)) 3 1 (.slice A2 hd.length c2) hd.length (hd.flatMap sizCells) wr ∧ Below B w wr) (fun _ ix _ => hd.length - (intOf ix).toNat)
        case atStart => exact ⟨0, rfl, by simp [sumR], by omega, Hduo.out, Hbel.out⟩
        case round =>
          obtain ⟨i, rfl, rfl, hi, hduo2, hbel2⟩ := hrel
          have HD2 := Lib.hid hduo2
          have HB2 := Lib.hid hbel2
          clear hduo2 hbel2 Hduo Hbel
          by_cases hlt2 : i < hd.length
          · obtain ⟨g2, o2, rfl, hgl2, hf2⟩ := HD2.out.r.rd.elem sizCells_length (by decide) hlt2
            have f2 := hf2 0 _ rfl
            obtain ⟨g, rfl, hca, hcb⟩ := HD2.out.l.own (show 0 < hd.length by omega)
            have hgB : B ≤ g := by
              have := HD2.out.l.2 g rfl
              omega
            obtain ⟨b9, o9, e9, hgl, hcl⟩ := HD2.out.l.rd.2 (show 0 < hd.length by omega)
            obtain ⟨rfl, rfl⟩ : g = b9 ∧ 0 = o9 := by simpa using e9
            have f1 := hcl _ _ (cutC_get i hd (s.data.toList.drop aN) hlt2)
            have f3 := HD2.out.l.cell (i * 4 + 3)
            obtain ⟨m1, m2⟩ := sum_take hlt2
            have hstep := cutC_step i hd (s.data.toList.drop aN) hlt2
            obtain ⟨p, hp⟩ : ∃ p, aN + sumR (hd.take i) = p := ⟨_, rfl⟩
            obtain ⟨n, hn⟩ : ∃ n, hd[i].2.2.2 = n := ⟨_, rfl⟩
            have hpn : p + n ≤ s.size := by have := HcN.out; omega
            have hp2 : aN + sumR (hd.take (i + 1)) = p + n := by omega
            have hS : S (((s.data.toList.drop aN).drop (sumR (hd.take i))).take n) = s.extract p (p + n) := by
              rw [List.drop_drop, hp]
              rw [← S_data (s.extract p (p + n)), Lib.extract_data]
              congr 2
              omega
            rw [hn, hS] at hstep
            rw [hn, Nat.mul_one, Nat.add_zero] at f2
            have Hstep := Lib.hid hstep
            have Hp2 := Lib.hid hp2
            have Hp := Lib.hid hp
            have Hcl := Lib.hid hcl
            have HgB := Lib.hid hgB
            clear hstep hp2 hcl hf2 e9 m1 m2 hS hgB
            rw [Hp.out]
            clear hp hn
            simp only [Nat.zero_add] at f1
            go_wp2_with fail
            go_roundw
            case rel => exact ⟨i + 1, by go_num, by rw [Hp2.out]; go_num, by omega, ⟨by rw [← Hstep.out]; exact HD2.out.l.store _, own_set HD2.out.r (.inr rfl) _ _⟩, HB2.out.setCell (p := ⟨g, i * 4 + 3, none⟩) HgB.out _⟩
            case measure => simp [intOf]; omega
          · obtain rfl : i = hd.length := by omega
            go_wp2_with fail
            go_ret2
            have hn2 := cutR_length hd (s.data.toList.drop aN)
            exact .inr ⟨_, _, HN.out, rfl, by rw [hn2, ← cutC_all]; exact HD2.out.l.shift fun j hj hp => HD2.out.l.2 j hj (.inl (.inl hp)), by rw [hn2]; exact hnl, HB2.out⟩
end Go.Proofs.Ythmikefinibecaa
