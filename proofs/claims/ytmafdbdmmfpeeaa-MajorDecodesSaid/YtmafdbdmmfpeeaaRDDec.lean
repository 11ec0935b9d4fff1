/-
  The document's Decode of samples.
-/
import Derived.Test.YtmafdbdmmfpeeaaRDRead
import Derived.Test.YtmafdbdmmfpeeaaRDEnc0
namespace Go.Proofs.Ytmafdbdmmfpeeaa
open Go Go.RowKit Go.Shelf

/-- what the document's Decode answers -/
def RDecPost (R : Option (List Sample)) (w : World) (e : Ending) (w' : World) : Prop :=
  (R = none ∧ e = .returned (.tuple #[.slice none 0 0, .int .i64 11]) ∧ Below w.heap.size w w') ∨
    ∃ r A c, R = some r ∧ e = .returned (.tuple #[.slice A r.length c, .int .i64 0]) ∧ Rd w' 2 A r.length (r.flatMap sampleCells) ∧ Below w.heap.size w w'

/-- .. and where they lie -/
def RDecPostF (R : Option (List Sample)) (w : World) (e : Ending) (w' : World) : Prop :=
  (R = none ∧ e = .returned (.tuple #[.slice none 0 0, .int .i64 11]) ∧ Below w.heap.size w w') ∨
    ∃ r A c, R = some r ∧ e = .returned (.tuple #[.slice A r.length c, .int .i64 0]) ∧ Rd w' 2 A r.length (r.flatMap sampleCells) ∧ Below w.heap.size w w' ∧ Fresh w.heap.size A

set_option maxRecDepth 100000 in
set_option maxHeartbeats 1000000 in
theorem rddec_fresh (s : ByteArray) (w : World) (hs : s.size ≤ 1000000) : Calls Try.prog 24 #[.string s] w (RDecPostF (decP s.data.toList) w) := by
  have HR := Lib.hid (rdread_fresh s w hs)
  go_enter Try.func24, Try.ntmps24
  go_wp2_with fail
  refine HR.out.mono ?_
  rintro e w1 (⟨hR, rfl, hb⟩ | ⟨r, A, c, hR, rfl, hrd, hb, hfr⟩)
  · have hd := Lib.hid (dec_none hR)
    have Hb := Lib.hid hb
    clear hR hb
    go_wp2_with fail
    go_ret2
    exact .inl ⟨hd.out, rfl, Hb.out⟩
  · obtain ⟨r, b⟩ := r
    obtain ⟨hfo, hl5⟩ := read_ok hR
    simp only at hfo hl5 hrd
    have E1 := rdenc_all A c r w1 hrd hfo.2 hl5
    rw [encV_fine hfo.1] at E1
    have HE1 := Lib.hid E1
    have Hrd := Lib.hid hrd
    have Hb := Lib.hid hb
    have Hfr := Lib.hid hfr
    clear E1 hrd hb hfr HR
    by_cases he : encB r = s.data.toList
    · have hd := Lib.hid (dec_some hR he)
      have hT := eqS he
      clear he hR
      generalize S (encB r) = T at *
      go_wp2_with fail
      refine HE1.out.mono ?_
      rintro e w2 ⟨rfl, hb2⟩
      have Hb2 := Lib.hid (Hb.out.trans (hb2.mono Hb.out.size))
      have Hr2 := Lib.hid (Hrd.out.below hb2)
      clear hb2
      go_wp2_with fail
      go_ret2
      exact .inr ⟨r, A, c, hd.out, rfl, Hr2.out, Hb2.out, Hfr.out⟩
    · have hd := Lib.hid (dec_other hR he)
      have hT := neS he
      clear he hR
      generalize S (encB r) = T at *
      go_wp2_with fail
      refine HE1.out.mono ?_
      rintro e w2 ⟨rfl, hb2⟩
      have Hb2 := Lib.hid (Hb.out.trans (hb2.mono Hb.out.size))
      clear hb2
      go_wp2_with fail
      go_ret2
      exact .inl ⟨hd.out, rfl, Hb2.out⟩

theorem rddec_any (s : ByteArray) (w : World) (hs : s.size ≤ 1000000) : Calls Try.prog 24 #[.string s] w (RDecPost (decP s.data.toList) w) := by
  refine (rddec_fresh s w hs).mono ?_
  rintro e w' (⟨hR, he, hb⟩ | ⟨r, A, c, hR, he, hrd, hb, -⟩)
  · exact .inl ⟨hR, he, hb⟩
  · exact .inr ⟨r, A, c, hR, he, hrd, hb⟩

/-- the same, in one form: what stands where nothing is decoded -/
def decL (l : List UInt8) : List Sample := (decP l).getD []
def decE (l : List UInt8) : Nat := if (decP l).isSome then 0 else 11
theorem ddec_one (s : ByteArray) (w : World) (hs : s.size ≤ 1000000) : Calls Try.prog 35 #[.string s] w fun e w' => ∃ A c, e = .returned (.tuple #[.slice A (decL s.data.toList).length c, .int .i64 (decE s.data.toList)]) ∧ Rd w' 2 A (decL s.data.toList).length ((decL s.data.toList).flatMap sampleCells) ∧ (decL s.data.toList).length ≤ c ∧ c ≤ maxLen ∧ Below w.heap.size w w' := by
  refine (ddec_any s w hs).mono ?_
  rintro e w' (⟨hR, rfl, hb⟩ | ⟨r, A, c, hR, rfl, hrd, hc, hcm, hb⟩)
  · unfold decL decE
    rw [hR]
    exact ⟨none, 0, rfl, Rd.nil _ _ _, by simp, by simp, hb⟩
  · unfold decL decE
    rw [hR]
    exact ⟨A, c, rfl, hrd, hc, hcm, hb⟩
theorem rddec_one (s : ByteArray) (w : World) (hs : s.size ≤ 1000000) : Calls Try.prog 24 #[.string s] w fun e w' => ∃ A c, e = .returned (.tuple #[.slice A (decL s.data.toList).length c, .int .i64 (decE s.data.toList)]) ∧ Rd w' 2 A (decL s.data.toList).length ((decL s.data.toList).flatMap sampleCells) ∧ Below w.heap.size w w' := by
  refine (rddec_any s w hs).mono ?_
  rintro e w' (⟨hR, rfl, hb⟩ | ⟨r, A, c, hR, rfl, hrd, hb⟩)
  · unfold decL decE
    rw [hR]
    exact ⟨none, 0, rfl, Rd.nil _ _ _, hb⟩
  · unfold decL decE
    rw [hR]
    exact ⟨A, c, rfl, hrd, hb⟩
theorem ddec_onef (s : ByteArray) (w : World) (hs : s.size ≤ 1000000) : Calls Try.prog 35 #[.string s] w fun e w' => ∃ A c, e = .returned (.tuple #[.slice A (decL s.data.toList).length c, .int .i64 (decE s.data.toList)]) ∧ Rd w' 2 A (decL s.data.toList).length ((decL s.data.toList).flatMap sampleCells) ∧ (decL s.data.toList).length ≤ c ∧ c ≤ maxLen ∧ Below w.heap.size w w' ∧ Fresh w.heap.size A := by
  refine (ddec_fresh s w hs).mono ?_
  rintro e w' (⟨hR, rfl, hb⟩ | ⟨r, A, c, hR, rfl, hrd, hc, hcm, hb, hf⟩)
  · unfold decL decE
    rw [hR]
    exact ⟨none, 0, rfl, Rd.nil _ _ _, by simp, by simp, hb, fresh_nil _⟩
  · unfold decL decE
    rw [hR]
    exact ⟨A, c, rfl, hrd, hc, hcm, hb, hf⟩
theorem rddec_onef (s : ByteArray) (w : World) (hs : s.size ≤ 1000000) : Calls Try.prog 24 #[.string s] w fun e w' => ∃ A c, e = .returned (.tuple #[.slice A (decL s.data.toList).length c, .int .i64 (decE s.data.toList)]) ∧ Rd w' 2 A (decL s.data.toList).length ((decL s.data.toList).flatMap sampleCells) ∧ Below w.heap.size w w' ∧ Fresh w.heap.size A := by
  refine (rddec_fresh s w hs).mono ?_
  rintro e w' (⟨hR, rfl, hb⟩ | ⟨r, A, c, hR, rfl, hrd, hb, hf⟩)
  · unfold decL decE
    rw [hR]
    exact ⟨none, 0, rfl, Rd.nil _ _ _, hb, fresh_nil _⟩
  · unfold decL decE
    rw [hR]
    exact ⟨A, c, rfl, hrd, hb, hf⟩
theorem decL_ok (l : List UInt8) : Fine (decL l) ∧ (∀ x ∈ decL l, Sample.ok x) ∧ (decL l).length ≤ 5000 ∧ (decE l = 0 → encB (decL l) = l) ∧ (decE l = 0 ∨ decE l = 11) := by
  unfold decL decE
  cases h : decP l with
  | none => exact ⟨⟨fun x hx => (by cases hx), fun i hi => absurd hi (by simp)⟩, fun x hx => (by cases hx), by simp, by simp, by simp⟩
  | some r =>
    obtain ⟨h1, h2, h3, h4⟩ := dec_ok h
    exact ⟨h1, h2, h3, fun _ => h4, .inl rfl⟩
theorem dec_empty : decE [] = 11 ∧ decL [] = [] := by
  have h : decP [] = none := dec_none (read_err1 (.inl (by decide)))
  unfold decE decL
  rw [h]
  exact ⟨rfl, rfl⟩
theorem dec_enc {l : List Sample} (hf : Fine l) (hok : ∀ x ∈ l, Sample.ok x) (hl : l.length ≤ 5000) : decL (encB l) = l ∧ decE (encB l) = 0 := by
  unfold decL decE
  rw [dec_back hf hok hl]
  exact ⟨rfl, rfl⟩

end Go.Proofs.Ytmafdbdmmfpeeaa
