/-
  The walks of cursor.Encode and of the document's.
-/
import Derived.Test.YtfhgjangeicbjaaDoorCurPlain
import Derived.Test.YtfhgjangeicbjaaDoorBuilder
import Derived.Test.YtfhgjangeicbjaaDoorFrame
namespace Go.Proofs.YtfhgjangeicbjaaDoor
open Go Go.RowKit

set_option maxRecDepth 100000 in
set_option maxHeartbeats 1000000 in
theorem right_any (c : Cur) (w : World) :
    Calls Tryd.prog 15 #[curVal c] w fun e w' => e = .returned (.bool (rightB c)) ∧ Below w.heap.size w w' := by
  obtain ⟨q, t, i⟩ := c
  unfold curVal
  by_cases hi : i = -1
  · subst hi
    go_enter Tryd.func15, Tryd.ntmps15
    go_wp2
    all_goals go_ret
    all_goals exact ⟨ret_bool (by simp [rightB, *] <;> try omega), Below.one _ _⟩
  · have hi' : (i == -1) = false := beq_eq_false_iff_ne.2 hi
    go_enter Tryd.func15, Tryd.ntmps15
    go_wp2
    all_goals go_ret
    all_goals exact ⟨ret_bool (by simp [rightB, *] <;> try omega), Below.one _ _⟩

theorem hexd_at : ∀ n : Nat, (h : n < 16) → (⟨#[48, 49, 50, 51, 52, 53, 54, 55, 56, 57, 97, 98, 99, 100, 101, 102]⟩ : ByteArray)[n]'h = hexd n := by decide

theorem box_cell' {w wr : World} {cs : Array Value} {t : TypeId} (h : Below (w.alloc (.cells cs t)).heap.size (w.alloc (.cells cs t)) wr) {j : Nat} {v : Value} (hv : cs[j]? = some v) : wr.cell? ⟨w.heap.size, j, none⟩ = some v :=
  box_cell (h.mono (by simp)) hv

/-- three parts of a token, each a text of its own -/
theorem body_parts {c : Cur} (hc : rightB c = true) : ∃ (A : ByteArray) (V : Int → ByteArray), A = S (text c.Q.data.toList) ∧ (∀ n, V n = S (uint n.toNat)) ∧ A ++ V c.T ++ V (c.ID + 1) = S (body c) ∧ A.size ≤ 1034 ∧ (V c.T).size ≤ 10 ∧ (V (c.ID + 1)).size ≤ 10 := by
  have hB := rightB_bounds hc
  have h1 := uint_len_ten (n := c.T.toNat) (by omega)
  have h2 := uint_len_ten (n := (c.ID + 1).toNat) (by omega)
  have h3 := uint_len_ten (n := c.Q.data.toList.length) (by rw [← Lib.size_eq]; omega)
  have h4 := Lib.size_eq c.Q
  refine ⟨_, fun n => S (uint n.toNat), rfl, fun _ => rfl, by simp only; rw [S_append, S_append]; rfl, ?_, by rw [S_size]; exact h1, by rw [S_size]; exact h2⟩
  rw [S_size, text, List.length_append]; omega

theorem heldE_step {w2 w w' : World} {n : Nat} {v0 v1 v2 : Value} (h : Below w2.heap.size w2 w ∧ Tab w ∧ w.cell? ⟨n, 0, none⟩ = some v0 ∧ w.cell? ⟨n, 1, none⟩ = some v1 ∧ w.cell? ⟨n, 2, none⟩ = some v2) (hb : Below w.heap.size w w') :
    Below w2.heap.size w2 w' ∧ Tab w' ∧ w'.cell? ⟨n, 0, none⟩ = some v0 ∧ w'.cell? ⟨n, 1, none⟩ = some v1 ∧ w'.cell? ⟨n, 2, none⟩ = some v2 :=
  ⟨h.1.then hb, h.2.1.below hb, keepc hb h.2.2.1, keepc hb h.2.2.2.1, keepc hb h.2.2.2.2⟩

set_option maxRecDepth 100000 in
set_option maxHeartbeats 4000000 in
theorem encode_ok (c : Cur) (w : World) (ht : Tab w) (hc : rightB c = true) :
    Calls Tryd.prog 8 #[curVal c] w fun e w' => e = .returned (.tuple #[.string (S (token c)), .int .i64 0]) ∧ Below w.heap.size w w' := by
  have R := Lib.hid (fun w => right_any c w)
  rw [hc] at R
  have hB := rightB_bounds hc
  have hbl := body_length hc
  obtain ⟨A, V, hA, hV, hABC, hAz, hBz, hCz⟩ := body_parts hc
  have htl := token_len hc
  obtain ⟨f, hf⟩ : ∃ f, f = S (frame (body c)) := ⟨_, rfl⟩
  have Hf := Lib.hid hf
  have hfz : f.size ≤ 1066 := by
    have := htl.2
    rw [token, hex_length] at this
    rw [hf, S_size]; omega
  have Htok : Hid (token c = hex f.data.toList) := by rw [hf, S_toList]; rfl
  have F := Lib.hid (fun w ht => frame_any (S (body c)) w ht (by rw [S_size]; omega))
  rw [S_toList, ← hf, ← hABC] at F
  obtain ⟨q, t, i⟩ := c
  simp only at hB hA hBz hCz
  obtain ⟨hq, hi0, hi1, ht0, ht1⟩ := hB
  have T := Lib.hid (fun w => text_any q w (by omega))
  have U : Hid (∀ (n : Int) (w : World), 0 ≤ n ∧ n ≤ 1099511627776 → Calls Tryd.prog 18 #[.int .u64 n] w fun e w' => e = .returned (.string (V n)) ∧ Below w.heap.size w w') := fun n w hn => by
    have h := uint_any n.toNat w (by omega)
    rwa [show ((n.toNat : Nat) : Int) = n by omega, ← hV] at h
  rw [← hA] at T
  have Ht := Lib.hid ht
  have g1 : IntKind.i64.wrap (i + 1) = i + 1 := IntWalk.i64_in _ (by omega)
  have g2 : IntKind.u64.wrap (i + 1) = i + 1 := IntWalk.u64_in _ (by omega)
  have g3 : IntKind.u64.wrap t = t := IntWalk.u64_in _ (by omega)
  have z1 : ¬ 9223372036854775807 < A.size + (V t).size := by omega
  have z2 : ¬ 9223372036854775807 < A.size + (V t).size + (V (i + 1)).size := by omega
  clear ht hc hbl hA hV hABC htl hf
  unfold curVal at *
  go_enter Tryd.func8, Tryd.ntmps8
  go_wp2_with fail
  refine (R.out _).mono ?_
  rintro e w1 ⟨rfl, hb1⟩
  go_wp2_with fail
  obtain ⟨w2, hw2⟩ : ∃ w2, w2 = w1.alloc (.cells #[.pointer none, .slice none 0 0] 48) := ⟨_, rfl⟩
  rw [← hw2]
  have hb2 : Below w1.heap.size w1 w2 := by rw [hw2]; exact Below.one _ _
  have q0 := box_cell' (hb1.then hb2) (j := 0) rfl
  have q1 := box_cell' (hb1.then hb2) (j := 1) rfl
  have q2 := box_cell' (hb1.then hb2) (j := 2) rfl
  have HT : Tab w2 := (Ht.out.below (Below.one _ _)).below (hb1.then hb2)
  have hbk : w2.heap[w1.heap.size]? = some (.cells #[.pointer none, .slice none 0 0] 48 (0, 0)) := by rw [hw2]; exact heap_alloc_new _ _
  have hlt2 : w1.heap.size < w2.heap.size := (Array.getElem?_eq_some_iff.1 hbk).1
  have hw1 : w.heap.size < w1.heap.size := by have := hb1.size; simp at this; omega
  have hbel2 : Below w.heap.size w w2 := ((Below.one _ _).then hb1).then hb2
  have Hbel2 := Lib.hid hbel2
  have Hb2 := Lib.hid hb2
  have Hbk := Lib.hid hbk
  clear hw2 hb1 hb2 hbk hbel2
  simp only [List.getElem_toArray, List.getElem_cons_zero, List.getElem_cons_succ] at q0 q1 q2
  go_region_held (fun w' => Below w2.heap.size w2 w' ∧ Tab w' ∧ w'.cell? ⟨w.heap.size, 0, none⟩ = some (.string q) ∧ w'.cell? ⟨w.heap.size, 1, none⟩ = some (.int .i64 t) ∧ w'.cell? ⟨w.heap.size, 2, none⟩ = some (.int .i64 i))
    (first | (refine ⟨(Below.refl _ _).drew, HT, q0, q1, q2⟩) | (refine heldE_step (by assumption) ?_; assumption))
    (first
      | (go_at_call 17; refine (T.out _).mono ?_; rintro e w3 ⟨rfl, hb3⟩)
      | (go_at_call 18; refine (U.out _ _ ⟨by omega, by omega⟩).mono ?_; rintro e w3 ⟨rfl, hb3⟩)
      | (go_at_call 16; refine (F.out _ (by first | assumption | (go_split_ands; assumption))).mono ?_; rintro e w3 ⟨rfl, hb3⟩; obtain ⟨cap, w4, hcv, hb4, hlt4, hcap, hcell⟩ := bytes_of_string (P := Tryd.prog) w3 9 38 5 f Tryd.underlying9 Tryd.underlying38 Tryd.underlying5))
  rename_i wa ha wb hb wc hc hH
  obtain ⟨hB24, -⟩ := hH
  have hk3 : w2.heap.size ≤ w3.heap.size := by have := ha.size; have := hb.size; have := hc.size; have := hb3.size; simp at *; omega
  have Hcell := Lib.hid hcell
  have HB24 := Lib.hid hB24
  have hBld : Bld (w3.heap.size + 1) w1.heap.size [] w4 := fresh_later ((hB24.block _ hlt2).trans Hbk.out) (by omega)
  have HBld := Lib.hid hBld
  generalize hkk : w3.heap.size = k at *
  generalize hbb : w1.heap.size = b at *
  clear hcv hcell hB24 ha hb hc hb3 hb4 hBld
  go_wp2_with fail
  go_loopw [27] (fun ix wr => ∃ j : Nat, ix = .int .i64 j ∧ j ≤ f.size ∧ Bld (k + 1) b (hex (f.data.toList.take j)) wr ∧ Beside (k + 1) b w4 wr) (fun ix _ => f.size - (intOf ix).toNat)
  case atStart => exact ⟨0, rfl, by omega, HBld.out, Beside.refl _ _ _⟩
  case round =>
    obtain ⟨j, rfl, hj, hBl, hbs⟩ := hrel
    by_cases hlt : j < f.size
    · have hcj := (hbs.cell (p := ⟨k, j, none⟩) (by simp) (by simp; omega)).trans (Hcell.out j hlt)
      have hx := f[j].toNat_lt
      have hBs := hbs.size
      have Hd := Lib.hid (getElem_data hlt)
      generalize hxx : f[j].toNat = x at *
      have hl2 : (hex (f.data.toList.take j)).length ≤ 2132 := by rw [hex_length, List.length_take]; omega
      have e15 := and15 (b := x) (by omega)
      have Hx := Lib.hid hxx
      clear hxx
      go_wp2_with fail
      refine (writeByte_any (k + 1) b _ _ (hexd (x / 16)) wr (by rw [hexd_at _ (by omega)]) hBl (by omega) (by omega)).mono ?_
      rintro e w5 ⟨rfl, hBl5, hbs5⟩
      go_wp2_with fail
      refine (writeByte_any (k + 1) b _ _ (hexd (x % 16)) w5 (by rw [hexd_at _ (by omega)]) hBl5 (by rw [List.length_append, List.length_cons, List.length_nil]; omega) (by have := hbs5.size; omega)).mono ?_
      rintro e w6 ⟨rfl, hBl6, hbs6⟩
      go_wp2_with fail
      go_roundw
      case rel => exact ⟨j + 1, by go_num, by omega, by rw [Hd.out, hex_snoc, Hx.out]; exact hBl6, (hbs.trans hbs5).trans hbs6⟩
      case measure => simp [intOf]; omega
    · obtain rfl : j = f.size := by omega
      have hBs := hbs.size
      rw [List.take_of_length_le (by rw [← Lib.size_eq]; exact Nat.le_refl _)] at hBl
      go_wp2_with fail
      refine (string_any (k + 1) b _ wr hBl (by omega)).mono ?_
      rintro e w5 ⟨rfl, hb5⟩
      go_wp2_with fail
      go_ret2
      refine ⟨by rw [Htok.out]; rfl, Hbel2.out.trans ((HB24.out.mono (by have := Hbel2.out.size; omega)).trans ((hbs.below (by omega) (by omega)).trans (hb5.mono (by omega))))⟩

theorem encode_no (c : Cur) (w : World) (hc : rightB c = false) :
    Calls Tryd.prog 8 #[curVal c] w fun e w' => e = .returned (.tuple #[.string ⟨#[]⟩, .int .i64 1]) ∧ Below w.heap.size w w' := by
  have R := Lib.hid (fun w => right_any c w)
  rw [hc] at R
  obtain ⟨q, t, i⟩ := c
  unfold curVal at *
  go_enter Tryd.func8, Tryd.ntmps8
  go_wp2_with fail
  refine (R.out _).mono ?_
  rintro e w1 ⟨rfl, hb1⟩
  go_wp2_with fail
  go_ret2
  exact ⟨rfl, hb1.allocl⟩
end Go.Proofs.YtfhgjangeicbjaaDoor
