/-
  The document's IDs and Find.
-/
import Derived.Test.YtmafdbdmmfpeeaaRMajTab
import Derived.Test.YtmafdbdmmfpeeaaMajFind
namespace Go.Proofs.Ytmafdbdmmfpeeaa
open Go Go.RowKit

set_option linter.unusedSimpArgs false in
theorem rids_at (s : ByteArray) (B : Nat) (w : World) (hB : w.heap.size = B) (hs : s.size ≤ 1000000) : Calls Try.prog 9 #[.string s] w (IdsPost s B w) := by
  have HC := Lib.hid (rtable_at s B w hB hs)
  clear hB
  go_enter Try.func9, Try.ntmps9
  go_wp2_with fail
  refine HC.out.mono ?_
  rintro e w1 (⟨hN, rfl, hb⟩ | ⟨ps, v, t, hN, rfl, h1, h2, hl, hb⟩)
  · have HN := Lib.hid hN
    clear hN
    go_wp2_with fail
    go_ret2
    exact .inl ⟨HN.out, rfl, hb⟩
  · have HN := Lib.hid hN
    clear hN
    go_wp2_with fail
    go_ret2
    exact .inr ⟨ps, v, HN.out, rfl, h1, hl, hb⟩
/-- the answer, with the samples and where they lie -/
def FindPostF (v : List Sample × Nat) (B : Nat) (w : World) (e : Ending) (w' : World) : Prop :=
  ∃ A c, e = .returned (.tuple #[.slice A v.1.length c, .int .i64 v.2]) ∧ Rd w' 2 A v.1.length (v.1.flatMap sampleCells) ∧ Below B w w' ∧ Fresh B A
theorem table_small {l : List UInt8} {ps : List (Nat × List UInt8)} (h : tableR l = some ps) {p : Nat × List UInt8} (hp : p ∈ ps) : p.2.length ≤ l.length := by
  unfold tableR at h
  split at h
  · cases h
  · split at h
    · cases h
    · split at h
      · simp only [Option.some.injEq] at h
        subst h
        exact cutE_small _ _ _ (by rw [List.length_drop]; omega) p hp
      · cases h

set_option linter.unusedSimpArgs false in
set_option maxRecDepth 100000 in
set_option maxHeartbeats 1000000 in
theorem rfind_fresh (s : ByteArray) (id : Int) (w : World) (hs : s.size ≤ 1000000) : Calls Try.prog 11 #[.string s, .int .i64 id] w (FindPostF (findV s.data.toList id) w.heap.size w) := by
  have HC := Lib.hid (rtable_at s w.heap.size w rfl hs)
  go_enter Try.func11, Try.ntmps11
  go_wp2_with fail
  refine HC.out.mono ?_
  rintro e w1 (⟨hN, rfl, hb⟩ | ⟨ps, v, t, hN, rfl, h1, h2, hl, hb⟩)
  · have HF := Lib.hid (show findV s.data.toList id = ([], 11) by unfold findV; rw [hN])
    clear hN
    go_wp2_with fail
    go_ret2
    exact ⟨none, 0, by rw [HF.out]; rfl, by rw [HF.out]; exact Rd.nil _ _ _, hb, fresh_nil _⟩
  · have HF := Lib.hid (show findV s.data.toList id = ((findT ps id).1.getD [], (findT ps id).2) by unfold findV; rw [hN])
    have HS := Lib.hid (fun (p : Nat × List UInt8) (hp : p ∈ ps) => table_small hN hp)
    obtain ⟨A1, c1, rfl⟩ := h1.form
    obtain ⟨A2, c2, rfl⟩ := h2.form
    have Hv := Lib.hid h1.rd
    have Ht := Lib.hid h2.rd
    have Hb := Lib.hid hb
    obtain ⟨n, hn⟩ : ∃ n, ps.length = n := ⟨_, rfl⟩
    rw [hn] at Hv Ht hl ⊢
    have Hn := Lib.hid hn
    clear hN h1 h2 hb hn
    go_wp2_with fail
    go_loopw [9] (fun ix wr => ∃ i : Nat, ix = .int .i64 i ∧ i ≤ n ∧ wr = w1 ∧ ∀ j, (hj : j < ps.length) → j < i → ((ps[j]).1 : Int) ≠ id) (fun ix _ => n - (intOf ix).toNat)
    case atStart => exact ⟨0, rfl, by omega, rfl, fun _ _ h => absurd h (by omega)⟩
    case round =>
      obtain ⟨i, rfl, hi, rfl, hne⟩ := hrel
      by_cases hlt : i < n
      · have hlp : i < ps.length := by have := Hn.out; omega
        obtain ⟨g1, o1, rfl, hg1, hf1⟩ := Hv.out.elem idCells_length (by decide) hlp
        obtain ⟨g2, o2, rfl, hg2, hf2⟩ := Ht.out.elem txC_length (by decide) hlp
        have f1 := hf1 0 _ rfl
        have f2 := hf2 0 _ rfl
        simp only [Nat.mul_one, Nat.add_zero] at f1 f2
        have hk1 : (i : Int) < n := by omega
        by_cases hx : ((ps[i]).1 : Int) = id
        · have hhit := find_hit ps id i hlp (fun j hj => hne j (by omega) hj) hx
          have hsm := HS.out _ (List.getElem_mem hlp)
          have y1 : (((ps[i]).1 : Int) == id) = true := beq_iff_eq.2 hx
          obtain ⟨p, hp⟩ : ∃ p, ps[i] = p := ⟨_, rfl⟩
          rw [hp] at f1 f2 y1 hhit hsm
          have D := rddec_onef (S p.2) wr (by rw [S_size]; rw [← Lib.size_eq] at hsm; omega)
          rw [S_toList] at D
          have hor := (decL_ok p.2).2.2.2.2
          have hpr : partV p.2 = match (if decE p.2 = 0 ∧ decL p.2 ≠ [] then some (decL p.2) else none) with | none => ([], 11) | some s => (s, 0) := rfl
          generalize decL p.2 = L at *
          generalize decE p.2 = E at *
          have HD := Lib.hid D
          have HP := Lib.hid hpr
          have HH := Lib.hid hhit
          have Hor := Lib.hid hor
          clear D hpr hhit hor hsm hp hx hf1 hf2 hne
          go_wp2_with fail
          refine HD.out.mono ?_
          rintro e w2 ⟨A, c, rfl, hr, hb2, hf2⟩
          have Hr := Lib.hid hr
          have Hb2 := Lib.hid (Hb.out.trans (hb2.mono Hb.out.size))
          have Hf2 := Lib.hid (show Fresh w.heap.size A from fun a e => Nat.le_trans Hb.out.size (hf2 a e))
          clear hr hb2 hf2 HD
          rcases Hor.out with h0 | h0
          · obtain ⟨k1, k2⟩ := err_no h0
            by_cases hz : L.length = 0
            · have HN := Lib.hid (show partV p.2 = ([], 11) by rw [HP.out, if_neg (fun h => h.2 (List.eq_nil_of_length_eq_zero hz))])
              have k3 : ((L.length : Int) == 0) = true := beq_iff_eq.2 (by omega)
              have k4 : (L.length == 0) = true := beq_iff_eq.2 hz
              clear hz h0
              go_wp2_with fail
              go_ret2
              exact ⟨none, 0, by rw [HF.out, HH.out, HN.out]; rfl, by rw [HF.out, HH.out, HN.out]; exact Rd.nil _ _ _, Hb2.out, fresh_nil _⟩
            · have HN := Lib.hid (show partV p.2 = (L, 0) by rw [HP.out, if_pos ⟨h0, fun h => hz (by rw [h]; rfl)⟩])
              have k3 : ((L.length : Int) == 0) = false := beq_eq_false_iff_ne.2 (by omega)
              have k4 : (L.length == 0) = false := beq_eq_false_iff_ne.2 hz
              clear hz h0
              go_wp2_with fail
              go_ret2
              exact ⟨A, c, by rw [HF.out, HH.out, HN.out]; rfl, by rw [HF.out, HH.out, HN.out]; exact Hr.out, Hb2.out, Hf2.out⟩
          · have HN := Lib.hid (show partV p.2 = ([], 11) by rw [HP.out, if_neg (fun h => by omega)])
            obtain ⟨k1, k2⟩ := err_yes (e := E) (by omega)
            clear h0
            go_wp2_with fail
            go_ret2
            exact ⟨none, 0, by rw [HF.out, HH.out, HN.out]; rfl, by rw [HF.out, HH.out, HN.out]; exact Rd.nil _ _ _, Hb2.out, fresh_nil _⟩
        · have y1 : (((ps[i]).1 : Int) == id) = false := beq_eq_false_iff_ne.2 hx
          have Hx := Lib.hid hx
          have Hne := Lib.hid hne
          clear hx hne hf1 hf2
          go_wp2_with fail
          go_roundw
          case rel =>
            refine ⟨i + 1, by go_num, by omega, trivial, fun j hj hji => ?_⟩
            by_cases e : j = i
            · subst e; exact Hx.out
            · exact Hne.out j hj (by omega)
          case measure => simp [intOf]; omega
      · have HM := Lib.hid (find_miss ps id fun j hj => hne j hj (by have := Hn.out; omega))
        obtain rfl : i = n := by omega
        clear hne
        go_wp2_with fail
        go_ret2
        exact ⟨none, 0, by rw [HF.out, HM.out]; rfl, by rw [HF.out, HM.out]; exact Rd.nil _ _ _, Hb.out, fresh_nil _⟩
theorem rfind_any (s : ByteArray) (id : Int) (w : World) (hs : s.size ≤ 1000000) : Calls Try.prog 11 #[.string s, .int .i64 id] w (FindPost (findV s.data.toList id) w.heap.size w) :=
  (rfind_fresh s id w hs).mono fun _ _ ⟨A, c, he, hr, hb, _⟩ => ⟨A, c, he, hr, hb⟩
end Go.Proofs.Ytmafdbdmmfpeeaa
