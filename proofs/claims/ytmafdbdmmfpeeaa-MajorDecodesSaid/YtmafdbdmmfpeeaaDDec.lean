/-
  delta.Decode.
-/
import Derived.Test.YtmafdbdmmfpeeaaDRest
namespace Go.Proofs.Ytmafdbdmmfpeeaa
open Go Go.RowKit Go.Shelf

/-- what Decode answers: nothing, or the samples -/
def DecPost (R : Option (List Sample)) (w : World) (e : Ending) (w' : World) : Prop :=
  (R = none ∧ e = .returned (.tuple #[.slice none 0 0, .int .i64 11]) ∧ Below w.heap.size w w') ∨
    ∃ r A c, R = some r ∧ e = .returned (.tuple #[.slice A r.length c, .int .i64 0]) ∧ Rd w' 2 A r.length (r.flatMap sampleCells) ∧ r.length ≤ c ∧ c ≤ maxLen ∧ Below w.heap.size w w'

/-- it lies at no block below B -/
def Fresh (B : Nat) (A : Option Addr) : Prop := ∀ a, A = some a → B ≤ a.block
theorem fresh_lie {R : Nat → Prop} {B n c m size : Nat} {e : TypeId} {A : Option Addr} {xs : List Value} {w : World} (h : Lie R e size (.slice A n c) m xs w) (hR : ∀ k, k < B → R k) : Fresh B A := fun a e => by
  subst e
  exact Nat.not_lt.1 fun hk => h.2 a.block rfl (hR _ hk)
theorem fresh_nil (B : Nat) : Fresh B none := fun a e => by cases e
/-- .. and where the samples lie -/
def DecPostF (R : Option (List Sample)) (w : World) (e : Ending) (w' : World) : Prop :=
  (R = none ∧ e = .returned (.tuple #[.slice none 0 0, .int .i64 11]) ∧ Below w.heap.size w w') ∨
    ∃ r A c, R = some r ∧ e = .returned (.tuple #[.slice A r.length c, .int .i64 0]) ∧ Rd w' 2 A r.length (r.flatMap sampleCells) ∧ r.length ≤ c ∧ c ≤ maxLen ∧ Below w.heap.size w w' ∧ Fresh w.heap.size A

theorem extract_list (s : ByteArray) (a : Nat) (h : a ≤ s.size) : (s.extract a s.size).data.toList = s.data.toList.drop a := by
  rw [Lib.extract_data]
  have hl : s.data.toList.length = s.size := (Lib.size_eq s).symm
  rw [List.take_of_length_le]
  rw [List.length_drop]
  omega
theorem nth_byte {s : ByteArray} {i : Nat} (h : i < s.size) : nth s.data.toList i = s[i].toNat := by
  unfold nth
  rw [List.getD_eq_getElem?_getD, List.getElem?_eq_getElem (by rw [← Lib.size_eq]; exact h)]
  rfl
theorem ext_byte {s : ByteArray} {p i : Nat} (h : p + i < s.size) (h' : i < (s.extract p s.size).size) : (s.extract p s.size)[i].toNat = nth s.data.toList (p + i) := by
  have h1 := nth_byte h'
  rw [← h1]
  unfold nth
  rw [extract_list _ _ (by omega), List.getD_eq_getElem?_getD, List.getD_eq_getElem?_getD, List.getElem?_drop]

theorem rest_short (q : ByteArray) (v : Value) (n : Nat) (w : World) (hq : q.size < 2) : Calls Try.prog 52 #[v, .int .i64 n, .string q] w fun e w' => e = .returned (.tuple #[.slice none 0 0, .bool false]) ∧ w = w' := by
  go_enter Try.func52, Try.ntmps52
  go_wp2_with fail
  go_ret2
  exact ⟨rfl, rfl⟩

/-! the ways of readP -/
theorem read_err1 {l : List UInt8} (h : (getAt l 0).2.2 ≠ 0 ∨ 5000 < (getAt l 0).1) : readP l = none := by unfold readP; rw [if_pos h]
theorem dec_none {l : List UInt8} (h : readP l = none) : decP l = none := by unfold decP; rw [h]
theorem dec_part {l : List UInt8} {r : List Sample} (h : readP l = some (r, false)) : decP l = none := by
  unfold decP
  rw [h]
  simp only
  rw [if_neg]
  intro he
  have := dec_whole h he
  cases this
theorem dec_other {l : List UInt8} {r : List Sample} {b : Bool} (h : readP l = some (r, b)) (he : encB r ≠ l) : decP l = none := by unfold decP; rw [h]; simp only; rw [if_neg he]
theorem dec_some {l : List UInt8} {r : List Sample} {b : Bool} (h : readP l = some (r, b)) (he : encB r = l) : decP l = some r := by unfold decP; rw [h]; simp only; rw [if_pos he]
theorem read_zero {l : List UInt8} {at' : Int} (h : getAt l 0 = (0, at', 0)) : readP l = some ([], decide (at' = l.length)) := by unfold readP; rw [h]; rfl
theorem dec_zero {l : List UInt8} {at' : Int} (h : getAt l 0 = (0, at', 0)) (he : ¬ at' < l.length) : decP l = some [] := by
  refine dec_some (read_zero h) ?_
  have h1 := getAt_in (l := l) (k := 0) (by omega)
  rw [show ((0 : Nat) : Int) = 0 from rfl, h, List.drop_zero] at h1
  have hc := get0_cases l
  split at h1
  · rename_i hz
    rcases hc with ⟨m, k, h2⟩ | h2 | h2
    · obtain ⟨r, h3, h4, _⟩ := get0_sound h2
      rw [h2] at h1
      simp only [Prod.mk.injEq] at h1
      have hm : m = 0 := h1.1.symm
      subst hm
      have hlen := congrArg List.length h3
      rw [List.length_append] at hlen
      have hr : r = [] := List.eq_nil_of_length_eq_zero (by omega)
      rw [h3, hr]
      unfold encB
      simp
    · rw [h2] at hz; simp at hz
    · rw [h2] at hz; simp at hz
  · rename_i hz
    simp only [Prod.mk.injEq] at h1
    exact absurd h1.2.2.symm hz
theorem read_t {l : List UInt8} {n : Nat} {a1 : Int} (h1 : getAt l 0 = (n, a1, 0)) (hn : n ≠ 0) (hn5 : n ≤ 5000) (h : (getAt l a1).2.2 ≠ 0 ∨ 1099511627776 ≤ (getAt l a1).1) : readP l = none := by
  unfold readP
  rw [h1]
  simp only
  rw [if_neg (by omega), if_neg hn, if_pos h]
theorem read_v {l : List UInt8} {n t : Nat} {a1 a2 : Int} (h1 : getAt l 0 = (n, a1, 0)) (hn : n ≠ 0) (hn5 : n ≤ 5000) (h2 : getAt l a1 = (t, a2, 0)) (ht : t < 1099511627776) (h : (getAt l a2).2.2 ≠ 0) : readP l = none := by
  unfold readP
  rw [h1]
  simp only
  rw [h2]
  simp only
  rw [if_neg (by omega), if_neg hn, if_neg (by omega), if_pos h]
theorem read_one {l : List UInt8} {t v : Nat} {a1 a2 a3 : Int} (h1 : getAt l 0 = (1, a1, 0)) (h2 : getAt l a1 = (t, a2, 0)) (ht : t < 1099511627776) (h3 : getAt l a2 = (v, a3, 0)) : readP l = some ([⟨(t : Int), unfoldN v⟩], decide (a3 = l.length)) := by
  unfold readP
  rw [h1]
  simp only
  rw [h2]
  simp only
  rw [h3]
  simp only
  rw [if_neg (by omega), if_neg (by omega), if_neg (by omega), if_neg (by simp), if_pos trivial]
theorem read_many {l : List UInt8} {n t v p : Nat} {a1 a2 : Int} (h1 : getAt l 0 = (n, a1, 0)) (hn : 2 ≤ n) (hn5 : n ≤ 5000) (h2 : getAt l a1 = (t, a2, 0)) (ht : t < 1099511627776) (h3 : getAt l a2 = (v, (p : Int), 0)) :
    readP l = if l.length < p + 2 then none else ((restD (bitsOf (l.drop (p + 2))) (nth l p) (nth l (p + 1)) (n - 1) 0 0 (t : Int) (unfoldN v)).map fun r => ((⟨(t : Int), unfoldN v⟩ : Sample) :: r.1, r.2)).map fun r => (r.1, decide (endE ((bitsOf (l.drop (p + 2))).drop r.2) = 0)) := by
  unfold readP
  rw [h1]
  simp only
  rw [h2]
  simp only
  rw [h3]
  simp only
  rw [if_neg (by omega), if_neg (by omega), if_neg (by omega), if_neg (by simp), if_neg (by omega), show ((p : Int)).toNat = p from rfl]
  split
  · rfl
  · cases restD (bitsOf (l.drop (p + 2))) (nth l p) (nth l (p + 1)) (n - 1) 0 0 (t : Int) (unfoldN v) <;> rfl
theorem made1 (w : World) (B : Nat) (hB : B ≤ w.heap.size) (x : Sample) : Lie (fun k => k < B) 60 2 (.slice (some ⟨w.heap.size, 0, none⟩) 1 1) 1 (sampleCells x) (w.alloc (.cells #[.int .i64 x.T, .int .i64 x.V] 60)) := by
  refine ⟨⟨rfl, .inr ⟨w.heap.size, 1, #[.int .i64 x.T, .int .i64 x.V], rfl, Nat.zero_le _, heap_alloc_new w _, by omega, by unfold maxLen; omega, rfl, rfl⟩⟩, fun g hg h => ?_⟩
  have : w.heap.size = g := by simpa [Value.ownBlock] using hg
  omega

theorem eqS {a : List UInt8} {s : ByteArray} (h : a = s.data.toList) : ((S a).toList == s.toList) = true := by
  rw [Lib.toList_data, Lib.toList_data, S_toList, h]; simp
theorem neS {a : List UInt8} {s : ByteArray} (h : a ≠ s.data.toList) : ((S a).toList == s.toList) = false := by
  rw [Lib.toList_data, Lib.toList_data, S_toList, beq_eq_false_iff_ne]; exact h
theorem int_at {s : ByteArray} {a : Int} {v e : Nat} {p : Int} (h : getAt s.data.toList a = (v, p, e)) : getIntAt s.data.toList a = (unfoldN v, p, e) := by unfold getIntAt; rw [h]
set_option linter.unusedSimpArgs false in
set_option maxRecDepth 100000 in
set_option maxHeartbeats 4000000 in
theorem ddec_fresh (s : ByteArray) (w : World) (hs : s.size ≤ 1000000) : Calls Try.prog 35 #[.string s] w (DecPostF (decP s.data.toList) w) := by
  have Hsl := Lib.hid (Lib.size_eq s)
  have G1 := getUint_any s 0 w (by omega)
  obtain ⟨g1, hg1⟩ : ∃ g, getAt s.data.toList 0 = g := ⟨_, rfl⟩
  have hn1 := getAt_next s.data.toList 0
  have hN := getAt_lt s.data.toList 0
  rw [hg1, ← Hsl.out] at hn1
  rw [hg1] at G1 hN
  obtain ⟨n, a1, e1⟩ := g1
  simp only at hn1 hN
  have HG1 := Lib.hid G1
  by_cases h1 : e1 ≠ 0 ∨ 5000 < n
  · have hd := Lib.hid (dec_none (read_err1 (l := s.data.toList) (by rw [hg1]; exact h1)))
    have hc : e1 ≠ 0 ∨ (e1 = 0 ∧ 5000 < n) := by omega
    clear G1 hg1 h1
    rcases hc with h | ⟨h, h'⟩
    · obtain ⟨k1, k2⟩ := err_yes h
      clear h
      go_enter Try.func35, Try.ntmps35
      go_wp2_with fail
      refine HG1.out.mono ?_
      rintro e w' ⟨rfl, rfl⟩
      go_wp2_with fail
      go_ret2
      exact .inl ⟨hd.out, rfl, Below.refl _ _⟩
    · obtain ⟨k1, k2⟩ := err_no h
      have k3 : decide (5000 < n) = true := decide_eq_true h'
      have k4 : decide ((5000 : Int) < (n : Int)) = true := decide_eq_true (by omega)
      clear h
      go_enter Try.func35, Try.ntmps35
      go_wp2_with fail
      refine HG1.out.mono ?_
      rintro e w' ⟨rfl, rfl⟩
      go_wp2_with fail
      go_ret2
      exact .inl ⟨hd.out, rfl, Below.refl _ _⟩
  · obtain ⟨he, hn5⟩ : e1 = 0 ∧ n ≤ 5000 := by omega
    subst he
    have k1 : decide ((5000 : Int) < (n : Int)) = false := decide_eq_false (by omega)
    have k1' : decide (5000 < n) = false := decide_eq_false (by omega)
    clear h1 G1
    by_cases h0 : n = 0
    · subst h0
      by_cases ha : a1 < s.size
      · have hd := Lib.hid (dec_part (r := []) (by rw [read_zero hg1, show decide (a1 = (s.data.toList.length : Int)) = false from decide_eq_false (by rw [← Hsl.out]; omega)]))
        have k2 : decide (a1 < (s.size : Int)) = true := decide_eq_true ha
        clear hg1
        go_enter Try.func35, Try.ntmps35
        go_wp2_with fail
        refine HG1.out.mono ?_
        rintro e w' ⟨rfl, rfl⟩
        go_wp2_with fail
        go_ret2
        exact .inl ⟨hd.out, rfl, Below.refl _ _⟩
      · have hd := Lib.hid (dec_zero hg1 (by rw [← Hsl.out]; exact ha))
        have k2 : decide (a1 < (s.size : Int)) = false := decide_eq_false ha
        clear hg1
        go_enter Try.func35, Try.ntmps35
        go_wp2_with fail
        refine HG1.out.mono ?_
        rintro e w' ⟨rfl, rfl⟩
        go_wp2_with fail
        go_ret2
        exact .inr ⟨[], none, 0, hd.out, rfl, Rd.nil _ _ _, by simp, by simp, Below.refl _ _, fresh_nil _⟩
    · have k2 : ((n : Int) == 0) = false := beq_eq_false_iff_ne.2 (by omega)
      have G2 := getUint_any s a1 w (by omega)
      obtain ⟨g2, hg2⟩ : ∃ g, getAt s.data.toList a1 = g := ⟨_, rfl⟩
      have hn2 := getAt_next s.data.toList a1
      have hN2 := getAt_lt s.data.toList a1
      rw [hg2, ← Hsl.out] at hn2
      rw [hg2] at G2 hN2
      obtain ⟨t, a2, e2⟩ := g2
      simp only at hn2 hN2
      have HG2 := Lib.hid G2
      clear G2
      by_cases h2 : e2 ≠ 0 ∨ 1099511627776 ≤ t
      · have hd := Lib.hid (dec_none (read_t hg1 h0 hn5 (by rw [hg2]; exact h2)))
        have hc : e2 ≠ 0 ∨ (e2 = 0 ∧ 1099511627776 ≤ t) := by omega
        clear hg1 hg2 h2 h0
        rcases hc with h | ⟨h, h'⟩
        · obtain ⟨k3, k4⟩ := err_yes h
          clear h
          go_enter Try.func35, Try.ntmps35
          go_wp2_with fail
          refine HG1.out.mono ?_
          rintro e w' ⟨rfl, rfl⟩
          go_wp2_with fail
          refine HG2.out.mono ?_
          rintro e w' ⟨rfl, rfl⟩
          go_wp2_with fail
          go_ret2
          exact .inl ⟨hd.out, rfl, Below.refl _ _⟩
        · obtain ⟨k3, k4⟩ := err_no h
          have k5 : decide ((1099511627776 : Int) ≤ (t : Int)) = true := decide_eq_true (by omega)
          clear h h'
          go_enter Try.func35, Try.ntmps35
          go_wp2_with fail
          refine HG1.out.mono ?_
          rintro e w' ⟨rfl, rfl⟩
          go_wp2_with fail
          refine HG2.out.mono ?_
          rintro e w' ⟨rfl, rfl⟩
          go_wp2_with fail
          go_ret2
          exact .inl ⟨hd.out, rfl, Below.refl _ _⟩
      · obtain ⟨he, ht⟩ : e2 = 0 ∧ t < 1099511627776 := by omega
        subst he
        clear h2
        have k3 : decide ((1099511627776 : Int) ≤ (t : Int)) = false := decide_eq_false (by omega)
        have G3 := getInt_any s a2 w (by omega)
        obtain ⟨g3, hg3⟩ : ∃ g, getAt s.data.toList a2 = g := ⟨_, rfl⟩
        have hn3 := getAt_next s.data.toList a2
        have hN3 := getAt_lt s.data.toList a2
        rw [hg3, ← Hsl.out] at hn3
        rw [hg3] at hN3
        obtain ⟨v, a3, e3⟩ := g3
        simp only at hn3 hN3
        rw [int_at hg3] at G3
        have HG3 := Lib.hid G3
        clear G3
        by_cases h3 : e3 ≠ 0
        · have hd := Lib.hid (dec_none (read_v hg1 h0 hn5 hg2 ht (by rw [hg3]; exact h3)))
          obtain ⟨k4, k5⟩ := err_yes h3
          clear hg1 hg2 hg3 h3 h0
          go_enter Try.func35, Try.ntmps35
          go_wp2_with fail
          refine HG1.out.mono ?_
          rintro e w' ⟨rfl, rfl⟩
          go_wp2_with fail
          refine HG2.out.mono ?_
          rintro e w' ⟨rfl, rfl⟩
          go_wp2_with fail
          refine HG3.out.mono ?_
          rintro e w' ⟨rfl, rfl⟩
          go_wp2_with fail
          go_ret2
          exact .inl ⟨hd.out, rfl, Below.refl _ _⟩
        · have he3 : e3 = 0 := by omega
          subst he3
          clear h3
          obtain ⟨p, hp⟩ : ∃ p : Nat, a3 = (p : Int) := ⟨a3.toNat, by omega⟩
          subst hp
          have hvv := unfold_in hN3
          have htc : IntKind.i64.wrap (t : Int) = t := by rw [IntKind.wrap_i64]; omega
          by_cases hn1' : n = 1
          · subst hn1'
            have hr1 := read_one hg1 hg2 ht hg3
            obtain ⟨x, hx⟩ : ∃ x : Sample, x = ⟨(t : Int), unfoldN v⟩ := ⟨_, rfl⟩
            obtain ⟨hfo, hl5⟩ := read_ok hr1
            rw [← hx] at hr1 hfo hl5
            have hxT : x.T = (t : Int) := by rw [hx]
            have hxV : x.V = unfoldN v := by rw [hx]
            have hM := made1 w w.heap.size (Nat.le_refl _) x
            rw [hxT, hxV] at hM
            have E1 := denc_all (some ⟨w.heap.size, 0, none⟩) 1 [x] (w.alloc (.cells #[.int .i64 (t : Int), .int .i64 (unfoldN v)] 60)) (by simpa using hM.rd) hfo.2 hl5 (by simp) (by unfold maxLen; omega)
            rw [encV_fine hfo.1] at E1
            have HE1 := Lib.hid E1
            have HM := Lib.hid hM
            clear E1 hM hxT hxV hx
            generalize unfoldN v = vv at *
            by_cases hp : (p : Int) = s.size
            · have k4 : ((p : Int) == (s.size : Int)) = true := beq_iff_eq.2 hp
              by_cases he : encB [x] = s.data.toList
              · have hd := Lib.hid (dec_some hr1 he)
                have hT := eqS he
                clear hg1 hg2 hg3 he hp h0 hr1
                generalize S (encB [x]) = T at *
                go_enter Try.func35, Try.ntmps35
                go_wp2_with fail
                refine HG1.out.mono ?_
                rintro e w' ⟨rfl, rfl⟩
                go_wp2_with fail
                refine HG2.out.mono ?_
                rintro e w' ⟨rfl, rfl⟩
                go_wp2_with fail
                refine HG3.out.mono ?_
                rintro e w' ⟨rfl, rfl⟩
                go_wp2_with fail
                refine HE1.out.mono ?_
                rintro e w' ⟨rfl, hb⟩
                have hb1 := (Below.one w (.cells #[.int .i64 (t : Int), .int .i64 vv] 60)).then hb
                have hr1 := HM.out.rd.below hb
                have Hb1 := Lib.hid hb1
                have Hr1 := Lib.hid hr1
                clear hb hb1 hr1
                go_wp2_with fail
                go_ret2
                exact .inr ⟨[x], _, 1, hd.out, rfl, by simpa using Hr1.out, by simp, by unfold maxLen; omega, Hb1.out, fresh_lie HM.out fun k hk => hk⟩
              · have hd := Lib.hid (dec_other hr1 he)
                have hT := neS he
                clear hg1 hg2 hg3 he hp h0 hr1
                generalize S (encB [x]) = T at *
                go_enter Try.func35, Try.ntmps35
                go_wp2_with fail
                refine HG1.out.mono ?_
                rintro e w' ⟨rfl, rfl⟩
                go_wp2_with fail
                refine HG2.out.mono ?_
                rintro e w' ⟨rfl, rfl⟩
                go_wp2_with fail
                refine HG3.out.mono ?_
                rintro e w' ⟨rfl, rfl⟩
                go_wp2_with fail
                refine HE1.out.mono ?_
                rintro e w' ⟨rfl, hb⟩
                have hb1 := (Below.one w (.cells #[.int .i64 (t : Int), .int .i64 vv] 60)).then hb
                have Hb1 := Lib.hid hb1
                clear hb hb1
                go_wp2_with fail
                go_ret2
                exact .inl ⟨hd.out, rfl, Hb1.out⟩
            · have hd := Lib.hid (dec_part (r := [x]) (by rw [hr1, show decide ((p : Int) = (s.data.toList.length : Int)) = false from decide_eq_false (by rw [← Hsl.out]; exact hp)]))
              have k4 : ((p : Int) == (s.size : Int)) = false := beq_eq_false_iff_ne.2 hp
              clear hg1 hg2 hg3 hp h0 hr1
              go_enter Try.func35, Try.ntmps35
              go_wp2_with fail
              refine HG1.out.mono ?_
              rintro e w' ⟨rfl, rfl⟩
              go_wp2_with fail
              refine HG2.out.mono ?_
              rintro e w' ⟨rfl, rfl⟩
              go_wp2_with fail
              refine HG3.out.mono ?_
              rintro e w' ⟨rfl, rfl⟩
              go_wp2_with fail
              go_ret2
              exact .inl ⟨hd.out, rfl, Below.one _ _⟩
          · have hnm := read_many hg1 (by omega) hn5 hg2 ht hg3
            rw [← Hsl.out] at hnm
            have k4 : decide ((1 : Int) < (n : Int)) = true := decide_eq_true (by omega)
            have k4' : decide (1 < n) = true := decide_eq_true (by omega)
            have hn2' : 2 ≤ n := by omega
            have hi64 : IntKind.i64.wrap (n : Int) = n := by rw [IntKind.wrap_i64]; omega
            have hqs : (s.extract p s.size).size = s.size - p := by rw [ByteArray.size_extract]; omega
            have hps : (p : Int) ≤ (s.size : Int) := by omega
            by_cases hq2 : s.size < p + 2
            · rw [if_pos hq2] at hnm
              have hd := Lib.hid (dec_none hnm)
              have RS := Lib.hid (fun v w' => rest_short (s.extract p s.size) v n w' (by omega))
              clear hnm hg1 hg2 hg3 h0 hn1' hqs
              go_enter Try.func35, Try.ntmps35
              go_wp2_with fail
              refine HG1.out.mono ?_
              rintro e w' ⟨rfl, rfl⟩
              go_wp2_with fail
              refine HG2.out.mono ?_
              rintro e w' ⟨rfl, rfl⟩
              go_wp2_with fail
              refine HG3.out.mono ?_
              rintro e w' ⟨rfl, rfl⟩
              go_wp2_with fail
              refine (RS.out _ _).mono ?_
              rintro e w' ⟨rfl, rfl⟩
              go_wp2_with fail
              go_ret2
              exact .inl ⟨hd.out, rfl, Below.one _ _⟩
            · rw [if_neg hq2] at hnm
              obtain ⟨R, hR⟩ : ∃ R, (restD (bitsOf (s.data.toList.drop (p + 2))) (nth s.data.toList p) (nth s.data.toList (p + 1)) (n - 1) 0 0 (t : Int) (unfoldN v)).map (fun r => ((⟨(t : Int), unfoldN v⟩ : Sample) :: r.1, r.2)) = R := ⟨_, rfl⟩
              rw [hR] at hnm
              have hqe : (s.extract p s.size).data.toList = s.data.toList.drop p := extract_list s p (by omega)
              have hqb : sbits ((s.extract p s.size).extract 2 (s.extract p s.size).size) = bitsOf (s.data.toList.drop (p + 2)) := by
                unfold sbits
                rw [extract_list _ 2 (by omega), hqe, List.drop_drop]
              have hRl := rest_loop_any w.heap.size n (s.extract p s.size) ⟨(t : Int), unfoldN v⟩ _ _ (made1 w w.heap.size (Nat.le_refl _) ⟨(t : Int), unfoldN v⟩) (by simp) (by omega) (by omega) (by omega) hn5 (by simp only; omega) (by simp only; omega) hvv R (by
                rw [hqb, ext_byte (p := p) (i := 0) (by omega) (by omega), ext_byte (p := p) (i := 1) (by omega) (by omega)]
                exact hR)
              rw [hqb] at hRl
              generalize bitsOf (s.data.toList.drop (p + 2)) = bts at *
              simp only at hRl
              generalize unfoldN v = vv at *
              have HRl := Lib.hid hRl
              have Hnm := Lib.hid hnm
              clear hRl hnm hR hqe hqb hg1 hg2 hg3 h0 hn1' hqs hq2
              go_enter Try.func35, Try.ntmps35
              go_wp2_with fail
              refine HG1.out.mono ?_
              rintro e w' ⟨rfl, rfl⟩
              go_wp2_with fail
              refine HG2.out.mono ?_
              rintro e w' ⟨rfl, rfl⟩
              go_wp2_with fail
              refine HG3.out.mono ?_
              rintro e w' ⟨rfl, rfl⟩
              go_wp2_with fail
              refine HRl.out.mono ?_
              rintro e w1 (⟨hRn, rfl, hb⟩ | ⟨r, v', hRs, rfl, hl, hb⟩)
              · have hd := Lib.hid (dec_none (by rw [Hnm.out, hRn]; rfl))
                have Hb := Lib.hid ((Below.refl _ w).trans ((Below.one w (.cells #[.int .i64 (t : Int), .int .i64 vv] 60)).trans hb))
                clear hRn hb
                go_wp2_with fail
                go_ret2
                exact .inl ⟨hd.out, rfl, Hb.out⟩
              · have hrp : readP s.data.toList = some (r.1, decide (endE (bts.drop r.2) = 0)) := by rw [Hnm.out, hRs]; rfl
                obtain ⟨hfo, hl5⟩ := read_ok hrp
                obtain ⟨A, c, rfl, hrd, hc, hcm⟩ := own_slice hl.1
                have hlen : r.1.length = n := by
                  have := hl.1.1
                  rw [flatMap_length sampleCells_length] at this
                  omega
                have Hb := Lib.hid ((Below.one w (.cells #[.int .i64 (t : Int), .int .i64 vv] 60)).trans hb)
                have Hfr := Lib.hid (fresh_lie hl fun k hk => hk)
                by_cases hE : endE (bts.drop r.2) = 0
                · obtain ⟨k5, k6⟩ := err_no hE
                  have E1 := denc_all A c r.1 w1 (by rw [hlen]; exact hrd) hfo.2 hl5 (by omega) hcm
                  rw [encV_fine hfo.1, hlen] at E1
                  have HE1 := Lib.hid E1
                  have Hrd := Lib.hid hrd
                  clear E1 hE hRs hb hl hrd
                  generalize endE (bts.drop r.2) = e0 at *
                  by_cases he : encB r.1 = s.data.toList
                  · have hd := Lib.hid (dec_some hrp he)
                    have hT := eqS he
                    have Hlen := Lib.hid hlen
                    clear he hrp hlen
                    generalize S (encB r.1) = T at *
                    go_wp2_with fail
                    refine HE1.out.mono ?_
                    rintro e w2 ⟨rfl, hb2⟩
                    have Hb2 := Lib.hid (Hb.out.trans (hb2.mono Hb.out.size))
                    have Hr2 := Lib.hid (Hrd.out.below hb2)
                    clear hb2
                    go_wp2_with fail
                    go_ret2
                    refine .inr ⟨r.1, _, c, hd.out, by rw [Hlen.out]; rfl, by rw [Hlen.out]; exact Hr2.out, by rw [Hlen.out]; exact hc, hcm, Hb2.out, Hfr.out⟩
                  · have hd := Lib.hid (dec_other hrp he)
                    have hT := neS he
                    clear he hrp hlen
                    generalize S (encB r.1) = T at *
                    go_wp2_with fail
                    refine HE1.out.mono ?_
                    rintro e w2 ⟨rfl, hb2⟩
                    have Hb2 := Lib.hid (Hb.out.trans (hb2.mono Hb.out.size))
                    clear hb2
                    go_wp2_with fail
                    go_ret2
                    exact .inl ⟨hd.out, rfl, Hb2.out⟩
                · obtain ⟨k5, k6⟩ := err_yes hE
                  have hd := Lib.hid (dec_part (r := r.1) (by rw [hrp, decide_eq_false hE]))
                  clear hE hRs hb hl hrd hrp hlen
                  generalize endE (bts.drop r.2) = e0 at *
                  go_wp2_with fail
                  go_ret2
                  exact .inl ⟨hd.out, rfl, Hb.out⟩
theorem ddec_any (s : ByteArray) (w : World) (hs : s.size ≤ 1000000) : Calls Try.prog 35 #[.string s] w (DecPost (decP s.data.toList) w) := by
  refine (ddec_fresh s w hs).mono ?_
  rintro e w' (⟨hR, he, hb⟩ | ⟨r, A, c, hR, he, hrd, hc, hcm, hb, -⟩)
  · exact .inl ⟨hR, he, hb⟩
  · exact .inr ⟨r, A, c, hR, he, hrd, hc, hcm, hb⟩
end Go.Proofs.Ytmafdbdmmfpeeaa
