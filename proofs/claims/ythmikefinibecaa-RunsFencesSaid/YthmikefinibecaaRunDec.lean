/-
  Encode and Decode, of runs and of the document: what they answer.
-/
import Derived.Test.YthmikefinibecaaRunEncB
import Derived.Test.YthmikefinibecaaRRunEnc
import Derived.Test.YthmikefinibecaaRunLawKit
import Derived.Test.YthmikefinibecaaRunBackP
namespace Go.Proofs.Ythmikefinibecaa
open Go Go.RowKit

theorem enc_all (A : Option Addr) (c : Nat) (rows : List Row) (w : World) (hrd : Rd w 3 A rows.length (rows.flatMap rowCells)) (hok : ∀ x ∈ rows, Row.ok x) (hl : rows.length ≤ 6400) (hc : rows.length ≤ c) (hcm : c ≤ maxLen) :
    Calls Try.prog 15 #[.slice A rows.length c] w fun e w' => e = .returned (.tuple #[.string (S (encRV rows).1), .int .i64 (encRV rows).2]) ∧ Below w.heap.size w w' := by
  unfold encRV
  by_cases hg : goodR rows = true
  · by_cases h5 : rows.length ≤ 5000
    · rw [if_pos ⟨hg, h5⟩]
      exact enc_yes A c rows w hrd hok h5 hc hcm hg
    · rw [if_neg (fun h => h5 h.2)]
      exact enc_long A c rows w hrd hl hg (by omega)
  · rw [if_neg (fun h => hg h.1)]
    exact enc_no A c rows w hrd hl hg
theorem renc_all (A : Option Addr) (c : Nat) (rows : List Row) (w : World) (hrd : Rd w 3 A rows.length (rows.flatMap rowCells)) (hok : ∀ x ∈ rows, Row.ok x) (hl : rows.length ≤ 6400) (hc : rows.length ≤ c) (hcm : c ≤ maxLen) :
    Calls Try.prog 16 #[.slice A rows.length c] w fun e w' => e = .returned (.tuple #[.string (S (encRV rows).1), .int .i64 (encRV rows).2]) ∧ Below w.heap.size w w' := by
  unfold encRV
  by_cases hg : goodR rows = true ∧ rows.length ≤ 5000
  · rw [if_pos hg]
    exact renc_yes A c rows w hrd hok hg.2 hc hcm hg.1
  · rw [if_neg hg]
    exact renc_no A c rows w hrd hl hg

/-- rows that are read are rows -/
theorem rows_ok {l : List UInt8} : ∀ (k : Nat) (a t : Int) (r : List Row × Int), rowsR l k a t = some r → ∀ x ∈ r.1, 0 ≤ x.ID ∧ x.ID < 200 ∧ I64 x.V := by
  intro k
  induction k with
  | zero => intro a t r h x hx; simp only [rowsR, Option.some.injEq] at h; subst h; cases hx
  | succ k ih =>
    intro a t r h x hx
    simp only [rowsR] at h
    split at h
    · cases h
    · rename_i y hy
      simp only [Option.map_eq_some_iff] at h
      obtain ⟨r', hr', rfl⟩ := h
      rcases List.mem_cons.1 hx with rfl | hx
      · unfold rowR at hy
        split at hy
        · rename_i hc
          cases hy
          simp only
          have hv := getAt_lt l (getAt l (getAt l a).2.1).2.1
          exact ⟨by omega, by omega, unfoldN_lo hv, by have := unfoldN_hi hv; exact this⟩
        · cases hy
      · exact ih _ _ _ hr' x hx
theorem fine_mono {l : List Row} (h : fineR l = true) : ∀ {i j : Nat}, i ≤ j → j < l.length → (rAt l i).T ≤ (rAt l j).T := by
  intro i j hij
  induction j with
  | zero => intro _; obtain rfl : i = 0 := by omega
            exact Int.le_refl _
  | succ j ih =>
    intro hj
    rcases Nat.lt_or_ge i (j + 1) with h1 | h1
    · have := ih (by omega) (by omega)
      have := beh_le (fine_at h hj)
      omega
    · obtain rfl : i = j + 1 := by omega
      exact Int.le_refl _
theorem read_ok {f : Fen} {N : Nat} (hf : FenOk N f) {rs : List Row} (h : readR f = some rs) : ∀ x ∈ rs, Row.ok x := by
  unfold readR at h
  split at h
  · cases h
  · rename_i r hr
    split at h
    · rename_i hc
      simp only [Option.some.injEq] at h
      subst h
      have hlen := rows_len _ _ _ _ hr
      intro x hx
      obtain ⟨h1, h2, h3⟩ := rows_ok _ _ _ _ hr x hx
      obtain ⟨j, hj, rfl⟩ := List.getElem_of_mem hx
      have m1 := fine_mono hc.2.1 (Nat.zero_le j) hj
      have m2 := fine_mono hc.2.1 (show j ≤ f.n - 1 by omega) (by omega)
      rw [rAt_get hj] at m1 m2
      rw [hc.2.2.1] at m1
      rw [hc.2.2.2] at m2
      have := hf.1
      have := hf.2.2.1
      exact ⟨⟨by omega, by omega⟩, ⟨by omega, by omega⟩, h3⟩
    · cases h
theorem betR_ok {N : Nat} {x y : Int} : ∀ (fs : List Fen) (rs : List Row), (∀ f ∈ fs, FenOk N f) → betR x y fs = some rs → ∀ r ∈ rs, Row.ok r
  | [], rs, _, h => by simp only [betR, Option.some.injEq] at h; subst h; intro r hr; cases hr
  | f :: fs, rs, hf, h => by
    simp only [betR] at h
    split at h
    · split at h
      · cases h
      · rename_i r0 hr0
        simp only [Option.map_eq_some_iff] at h
        obtain ⟨r', hr', rfl⟩ := h
        intro r hr
        rcases List.mem_append.1 hr with h1 | h1
        · exact read_ok (hf f (List.mem_cons_self ..)) hr0 r (List.mem_filter.1 h1).1
        · exact betR_ok fs r' (fun g hg => hf g (List.mem_cons_of_mem _ hg)) hr' r h1
    · exact betR_ok fs rs (fun g hg => hf g (List.mem_cons_of_mem _ hg)) h
theorem betL_ok (l : List UInt8) (x y : Int) : ∀ r ∈ betL l x y, Row.ok r := by
  unfold betL betS
  cases h : fencesR l with
  | none => intro r hr; cases hr
  | some fs =>
    cases h2 : betR x y fs with
    | none => intro r hr; simp [h2] at hr
    | some rs =>
      intro r hr
      simp only [Option.bind_some, h2, Option.getD_some] at hr
      exact betR_ok fs rs (fences_ok h) h2 r hr
/-- what Between answers, with the slice's room -/
theorem bet_room {s : ByteArray} {x y : Int} {w w' : World} {e : Ending} (h : BetPost s x y w.heap.size w e w') :
    ∃ (A : Option Addr) (c : Nat), e = .returned (.tuple #[.slice A (betL s.data.toList x y).length c, .int .i64 (betE s.data.toList x y)]) ∧ Rd w' 3 A (betL s.data.toList x y).length ((betL s.data.toList x y).flatMap rowCells) ∧ (betL s.data.toList x y).length ≤ 6400 ∧ (betL s.data.toList x y).length ≤ c ∧ c ≤ maxLen ∧ Below w.heap.size w w' := by
  unfold betL betE
  rcases h with ⟨h1, rfl, hb⟩ | ⟨fs, v, h1, rfl, hl, hn, hb⟩
  · rw [h1]
    exact ⟨none, 0, rfl, Rd.nil _ _ _, by simp, by simp, by unfold maxLen; omega, hb⟩
  · rw [h1]
    obtain ⟨A, c, rfl, hr, h2, h3⟩ := own_slice hl.1
    exact ⟨A, c, rfl, hr, hn, h2, h3, hb⟩

/-- what Decode answers: rows, an error -/
def decRV (l : List UInt8) : List Row × Int :=
  if betE l 0 1099511627776 = 0 ∧ (encRV (betL l 0 1099511627776)).2 = 0 ∧ (encRV (betL l 0 1099511627776)).1 = l then (betL l 0 1099511627776, 0) else ([], 11)
def DecU (s : ByteArray) (w : World) (e : Ending) (w' : World) : Prop :=
  ∃ (A : Option Addr) (c : Nat), e = .returned (.tuple #[.slice A (decRV s.data.toList).1.length c, .int .i64 (decRV s.data.toList).2]) ∧ Rd w' 3 A (decRV s.data.toList).1.length ((decRV s.data.toList).1.flatMap rowCells) ∧ (decRV s.data.toList).1.length ≤ 6400 ∧ (decRV s.data.toList).1.length ≤ c ∧ c ≤ maxLen ∧ Below w.heap.size w w'
theorem decU_none {s : ByteArray} {w w' : World} (h : decRV s.data.toList = ([], 11)) (hb : Below w.heap.size w w') : DecU s w (.returned (.tuple #[.slice none 0 0, .int .i64 11])) w' := by
  unfold DecU
  rw [h]
  exact ⟨none, 0, rfl, Rd.nil _ _ _, by simp, by simp, by unfold maxLen; omega, hb⟩
theorem betE_or (l : List UInt8) (x y : Int) : betE l x y = 0 ∨ betE l x y = 11 := by unfold betE; split <;> simp
theorem encE_or (rows : List Row) : (encRV rows).2 = 0 ∨ (encRV rows).2 = 30 := by unfold encRV; split <;> simp

set_option linter.unusedSimpArgs false in
set_option maxRecDepth 100000 in
set_option maxHeartbeats 2000000 in
theorem dec_all (s : ByteArray) (w : World) (hs : s.size ≤ 1000000) : Calls Try.prog 17 #[.string s] w (DecU s w) := by
  have C1 := Lib.hid ((between_at s 0 1099511627776 _ w rfl hs).mono fun _ _ h => bet_room h)
  have HD := Lib.hid (show decRV s.data.toList = if betE s.data.toList 0 1099511627776 = 0 ∧ (encRV (betL s.data.toList 0 1099511627776)).2 = 0 ∧ (encRV (betL s.data.toList 0 1099511627776)).1 = s.data.toList then (betL s.data.toList 0 1099511627776, 0) else ([], 11) from rfl)
  have hok := betL_ok s.data.toList 0 1099511627776
  obtain ⟨rs, hrs⟩ : ∃ rs, betL s.data.toList 0 1099511627776 = rs := ⟨_, rfl⟩
  obtain ⟨e1, he1⟩ : ∃ e1, betE s.data.toList 0 1099511627776 = e1 := ⟨_, rfl⟩
  have hor := betE_or s.data.toList 0 1099511627776
  rw [hrs, he1] at C1 HD
  rw [hrs] at hok
  rw [he1] at hor
  have Hok := Lib.hid hok
  have hor2 := encE_or rs
  obtain ⟨V, hV⟩ : ∃ V, encRV rs = V := ⟨_, rfl⟩
  rw [hV] at HD hor2
  have HV := Lib.hid hV
  clear hok hrs he1 hV
  obtain ⟨t, f⟩ := V
  simp only at HD hor2
  rcases hor with rfl | rfl
  · rcases hor2 with rfl | rfl
    · by_cases ht : t = s.data.toList
      · have HN := Lib.hid (show decRV s.data.toList = (rs, 0) by rw [HD.out, if_pos ⟨rfl, rfl, ht⟩])
        have k1 := eqS ht
        have k2 : ((S t).toList != s.toList) = false := by rw [bne, k1]; rfl
        clear ht
        go_enter Try.func17, Try.ntmps17
        go_wp2_with fail
        refine C1.out.mono ?_
        rintro e w1 ⟨A, c, rfl, hr, h1, h2, h3, hb1⟩
        have C2 := Lib.hid (enc_all A c rs w1 hr Hok.out h1 h2 h3)
        rw [HV.out] at C2
        have Hr := Lib.hid hr
        have Hb1 := Lib.hid hb1
        have Hh := Lib.hid (And.intro h2 h3)
        clear hr hb1 C1 h2 h3
        go_wp2_with fail
        refine C2.out.mono ?_
        rintro e w2 ⟨rfl, hb2⟩
        have Hr2 := Lib.hid (Hr.out.below hb2)
        have Hb2 := Lib.hid (Hb1.out.then hb2)
        clear hb2 C2 Hr
        go_wp2_with fail
        go_ret2
        unfold DecU
        rw [HN.out]
        exact ⟨A, c, rfl, Hr2.out, h1, Hh.out.1, Hh.out.2, Hb2.out⟩
      · have HN := Lib.hid (show decRV s.data.toList = ([], 11) by rw [HD.out, if_neg (fun h => ht h.2.2)])
        have k1 := neS ht
        have k2 : ((S t).toList != s.toList) = true := by rw [bne, k1]; rfl
        clear ht
        go_enter Try.func17, Try.ntmps17
        go_wp2_with fail
        refine C1.out.mono ?_
        rintro e w1 ⟨A, c, rfl, hr, h1, h2, h3, hb1⟩
        have C2 := Lib.hid (enc_all A c rs w1 hr Hok.out h1 h2 h3)
        rw [HV.out] at C2
        have Hb1 := Lib.hid hb1
        clear hr hb1 C1 h2 h3
        go_wp2_with fail
        refine C2.out.mono ?_
        rintro e w2 ⟨rfl, hb2⟩
        have Hb2 := Lib.hid (Hb1.out.then hb2)
        clear hb2 C2
        go_wp2_with fail
        go_ret2
        exact decU_none HN.out Hb2.out
    · have HN := Lib.hid (show decRV s.data.toList = ([], 11) by rw [HD.out, if_neg (fun h => by have := h.2.1; simp at this)])
      go_enter Try.func17, Try.ntmps17
      go_wp2_with fail
      refine C1.out.mono ?_
      rintro e w1 ⟨A, c, rfl, hr, h1, h2, h3, hb1⟩
      have C2 := Lib.hid (enc_all A c rs w1 hr Hok.out h1 h2 h3)
      rw [HV.out] at C2
      have Hb1 := Lib.hid hb1
      clear hr hb1 C1 h2 h3
      go_wp2_with fail
      refine C2.out.mono ?_
      rintro e w2 ⟨rfl, hb2⟩
      have Hb2 := Lib.hid (Hb1.out.then hb2)
      clear hb2 C2
      go_wp2_with fail
      go_ret2
      exact decU_none HN.out Hb2.out
  · have HN := Lib.hid (show decRV s.data.toList = ([], 11) by rw [HD.out, if_neg (fun h => by have := h.1; simp at this)])
    go_enter Try.func17, Try.ntmps17
    go_wp2_with fail
    refine C1.out.mono ?_
    rintro e w1 ⟨A, c, rfl, hr, h1, h2, h3, hb1⟩
    have Hb1 := Lib.hid hb1
    clear hr hb1 C1 h2 h3
    go_wp2_with fail
    go_ret2
    exact decU_none HN.out Hb1.out

set_option linter.unusedSimpArgs false in
set_option maxRecDepth 100000 in
set_option maxHeartbeats 2000000 in
theorem rdec_all (s : ByteArray) (w : World) (hs : s.size ≤ 1000000) : Calls Try.prog 18 #[.string s] w (DecU s w) := by
  have C1 := Lib.hid ((rbetween_at s 0 1099511627776 _ w rfl hs).mono fun _ _ h => bet_room h)
  have HD := Lib.hid (show decRV s.data.toList = if betE s.data.toList 0 1099511627776 = 0 ∧ (encRV (betL s.data.toList 0 1099511627776)).2 = 0 ∧ (encRV (betL s.data.toList 0 1099511627776)).1 = s.data.toList then (betL s.data.toList 0 1099511627776, 0) else ([], 11) from rfl)
  have hok := betL_ok s.data.toList 0 1099511627776
  obtain ⟨rs, hrs⟩ : ∃ rs, betL s.data.toList 0 1099511627776 = rs := ⟨_, rfl⟩
  obtain ⟨e1, he1⟩ : ∃ e1, betE s.data.toList 0 1099511627776 = e1 := ⟨_, rfl⟩
  have hor := betE_or s.data.toList 0 1099511627776
  rw [hrs, he1] at C1 HD
  rw [hrs] at hok
  rw [he1] at hor
  have Hok := Lib.hid hok
  have hor2 := encE_or rs
  obtain ⟨V, hV⟩ : ∃ V, encRV rs = V := ⟨_, rfl⟩
  rw [hV] at HD hor2
  have HV := Lib.hid hV
  clear hok hrs he1 hV
  obtain ⟨t, f⟩ := V
  simp only at HD hor2
  rcases hor with rfl | rfl
  · rcases hor2 with rfl | rfl
    · by_cases ht : t = s.data.toList
      · have HN := Lib.hid (show decRV s.data.toList = (rs, 0) by rw [HD.out, if_pos ⟨rfl, rfl, ht⟩])
        have k1 := eqS ht
        have k2 : ((S t).toList != s.toList) = false := by rw [bne, k1]; rfl
        clear ht
        go_enter Try.func18, Try.ntmps18
        go_wp2_with fail
        refine C1.out.mono ?_
        rintro e w1 ⟨A, c, rfl, hr, h1, h2, h3, hb1⟩
        have C2 := Lib.hid (renc_all A c rs w1 hr Hok.out h1 h2 h3)
        rw [HV.out] at C2
        have Hr := Lib.hid hr
        have Hb1 := Lib.hid hb1
        have Hh := Lib.hid (And.intro h2 h3)
        clear hr hb1 C1 h2 h3
        go_wp2_with fail
        refine C2.out.mono ?_
        rintro e w2 ⟨rfl, hb2⟩
        have Hr2 := Lib.hid (Hr.out.below hb2)
        have Hb2 := Lib.hid (Hb1.out.then hb2)
        clear hb2 C2 Hr
        go_wp2_with fail
        go_ret2
        unfold DecU
        rw [HN.out]
        exact ⟨A, c, rfl, Hr2.out, h1, Hh.out.1, Hh.out.2, Hb2.out⟩
      · have HN := Lib.hid (show decRV s.data.toList = ([], 11) by rw [HD.out, if_neg (fun h => ht h.2.2)])
        have k1 := neS ht
        have k2 : ((S t).toList != s.toList) = true := by rw [bne, k1]; rfl
        clear ht
        go_enter Try.func18, Try.ntmps18
        go_wp2_with fail
        refine C1.out.mono ?_
        rintro e w1 ⟨A, c, rfl, hr, h1, h2, h3, hb1⟩
        have C2 := Lib.hid (renc_all A c rs w1 hr Hok.out h1 h2 h3)
        rw [HV.out] at C2
        have Hb1 := Lib.hid hb1
        clear hr hb1 C1 h2 h3
        go_wp2_with fail
        refine C2.out.mono ?_
        rintro e w2 ⟨rfl, hb2⟩
        have Hb2 := Lib.hid (Hb1.out.then hb2)
        clear hb2 C2
        go_wp2_with fail
        go_ret2
        exact decU_none HN.out Hb2.out
    · have HN := Lib.hid (show decRV s.data.toList = ([], 11) by rw [HD.out, if_neg (fun h => by have := h.2.1; simp at this)])
      go_enter Try.func18, Try.ntmps18
      go_wp2_with fail
      refine C1.out.mono ?_
      rintro e w1 ⟨A, c, rfl, hr, h1, h2, h3, hb1⟩
      have C2 := Lib.hid (renc_all A c rs w1 hr Hok.out h1 h2 h3)
      rw [HV.out] at C2
      have Hb1 := Lib.hid hb1
      clear hr hb1 C1 h2 h3
      go_wp2_with fail
      refine C2.out.mono ?_
      rintro e w2 ⟨rfl, hb2⟩
      have Hb2 := Lib.hid (Hb1.out.then hb2)
      clear hb2 C2
      go_wp2_with fail
      go_ret2
      exact decU_none HN.out Hb2.out
  · have HN := Lib.hid (show decRV s.data.toList = ([], 11) by rw [HD.out, if_neg (fun h => by have := h.1; simp at this)])
    go_enter Try.func18, Try.ntmps18
    go_wp2_with fail
    refine C1.out.mono ?_
    rintro e w1 ⟨A, c, rfl, hr, h1, h2, h3, hb1⟩
    have Hb1 := Lib.hid hb1
    clear hr hb1 C1 h2 h3
    go_wp2_with fail
    go_ret2
    exact decU_none HN.out Hb1.out
end Go.Proofs.Ythmikefinibecaa
