/-
  The walk of the document's Encode.
-/
import Derived.Test.YtfhgjangeicbjaaDoorCurEnc
namespace Go.Proofs.YtfhgjangeicbjaaDoor
open Go Go.RowKit

theorem rightB_no {q : ByteArray} {t i : Int} (h : rightB ⟨q, t, i⟩ = false) :
    1024 < q.size ∨ (q.size ≤ 1024 ∧ t < 0) ∨ (q.size ≤ 1024 ∧ 0 ≤ t ∧ 1099511627776 ≤ t) ∨ (q.size ≤ 1024 ∧ 0 ≤ t ∧ t < 1099511627776 ∧ i < -1) ∨ (q.size ≤ 1024 ∧ 0 ≤ t ∧ t < 1099511627776 ∧ 200 ≤ i) ∨ (q.size ≤ 1024 ∧ 0 < t ∧ t < 1099511627776 ∧ i = -1) := by
  have h' : ¬ rightB ⟨q, t, i⟩ = true := by rw [h]; decide
  rw [rightB_iff] at h'
  simp only at h'
  omega

set_option maxRecDepth 100000 in
set_option maxHeartbeats 1000000 in
theorem rencode_no (c : Cur) (w : World) (hc : rightB c = false) :
    Calls Tryd.prog 9 #[curVal c] w fun e w' => e = .returned (.tuple #[.string ⟨#[]⟩, .int .i64 1]) ∧ Below w.heap.size w w' := by
  obtain ⟨q, t, i⟩ := c
  have hn := rightB_no hc
  clear hc
  unfold curVal
  rcases hn with h | ⟨h1, h⟩ | ⟨h1, h2, h⟩ | ⟨h1, h2, h3, h⟩ | ⟨h1, h2, h3, h⟩ | ⟨h1, h2, h3, rfl⟩
  all_goals
    try have hne : (t != 0) = true := by rw [bne_iff_ne]; omega
    go_enter Tryd.func9, Tryd.ntmps9
    go_wp2
    go_ret2
    exact ⟨rfl, Below.one _ _⟩

theorem dig_slice {n : Nat} (h : n < 16) : (⟨#[48, 49, 50, 51, 52, 53, 54, 55, 56, 57, 97, 98, 99, 100, 101, 102]⟩ : ByteArray).extract n (n + 1) = S [hexd n] := by
  have : ∀ m : Fin 16, (⟨#[48, 49, 50, 51, 52, 53, 54, 55, 56, 57, 97, 98, 99, 100, 101, 102]⟩ : ByteArray).extract m.val (m.val + 1) = S [hexd m.val] := by decide
  exact this ⟨n, h⟩

theorem halves (c : UInt8) : ∃ a b : Nat, a < 16 ∧ b < 16 ∧ a = c.toNat / 16 ∧ b = c.toNat % 16 ∧ (c.toNat : Int) / 16 = (a : Int) ∧ (c.toNat : Int) % 16 = (b : Int) ∧
    IntKind.i64.wrap ((a : Int) + 1) = (a : Int) + 1 ∧ IntKind.i64.wrap ((b : Int) + 1) = (b : Int) + 1 := by
  have h := c.toNat_lt
  refine ⟨c.toNat / 16, c.toNat % 16, by omega, by omega, rfl, rfl, by omega, by omega, IntWalk.i64_in _ (by omega), IntWalk.i64_in _ (by omega)⟩

theorem heldR_step {w2 w w' : World} {n : Nat} {v0 v1 v2 : Value} (h : Below w2.heap.size w2 w ∧ w.cell? ⟨n, 0, none⟩ = some v0 ∧ w.cell? ⟨n, 1, none⟩ = some v1 ∧ w.cell? ⟨n, 2, none⟩ = some v2) (hb : Below w.heap.size w w') :
    Below w2.heap.size w2 w' ∧ w'.cell? ⟨n, 0, none⟩ = some v0 ∧ w'.cell? ⟨n, 1, none⟩ = some v1 ∧ w'.cell? ⟨n, 2, none⟩ = some v2 :=
  ⟨h.1.then hb, keepc hb h.2.1, keepc hb h.2.2.1, keepc hb h.2.2.2⟩

set_option maxRecDepth 100000 in
set_option maxHeartbeats 4000000 in
theorem rencode_ok (c : Cur) (w : World) (hc : rightB c = true) :
    Calls Tryd.prog 9 #[curVal c] w fun e w' => e = .returned (.tuple #[.string (S (token c)), .int .i64 0]) ∧ Below w.heap.size w w' := by
  have hR := (rightB_iff c).1 hc
  have hB := rightB_bounds hc
  have hbl := body_length hc
  obtain ⟨A, V, hA, hV, hABC, hAz, hBz, hCz⟩ := body_parts hc
  have htl := token_len hc
  obtain ⟨f, hf⟩ : ∃ f, f = S (frame (body c)) := ⟨_, rfl⟩
  have Hf := Lib.hid hf
  have hfz : f.size ≤ 1066 := by
    have := htl.2
    rw [token, hex_length] at this
    rw [hf, S_size]; omega
  have Htok : Hid (token c = hex f.data.toList) := by rw [hf, S_toList]; rfl
  have F := Lib.hid (fun w => rframe_any (S (body c)) w (by rw [S_size]; omega))
  rw [S_toList, ← hf, ← hABC] at F
  obtain ⟨q, t, i⟩ := c
  simp only at hB hA hBz hCz hR
  obtain ⟨hq, hi0, hi1, ht0, ht1⟩ := hB
  have T := Lib.hid (fun w => rtext_any q w (by omega))
  have U : Hid (∀ (n : Int) (w : World), 0 ≤ n ∧ n ≤ 1099511627776 → Calls Tryd.prog 23 #[.int .u64 n] w fun e w' => e = .returned (.string (V n)) ∧ Below w.heap.size w w') := fun n w hn => by
    have h := ruint_any n.toNat w (by omega)
    rwa [show ((n.toNat : Nat) : Int) = n by omega, ← hV] at h
  rw [← hA] at T
  have g1 : IntKind.i64.wrap (i + 1) = i + 1 := IntWalk.i64_in _ (by omega)
  have g2 : IntKind.u64.wrap (i + 1) = i + 1 := IntWalk.u64_in _ (by omega)
  have g3 : IntKind.u64.wrap t = t := IntWalk.u64_in _ (by omega)
  have z1 : ¬ 9223372036854775807 < A.size + (V t).size := by omega
  have z2 : ¬ 9223372036854775807 < A.size + (V t).size + (V (i + 1)).size := by omega
  have hor : (i == -1) = false ∨ (i == -1) = true ∧ (t != 0) = false := by
    by_cases hi : i = -1
    · exact .inr ⟨by simp [hi], by simp; omega⟩
    · exact .inl (beq_eq_false_iff_ne.2 hi)
  clear hc hbl hA hV hABC htl hf hR
  unfold curVal at *
  have hd : ∀ n : Nat, n < 16 → ∀ W, (Instr.slice 9 (.string ⟨#[48, 49, 50, 51, 52, 53, 54, 55, 56, 57, 97, 98, 99, 100, 101, 102]⟩) (some (.int .i64 (n : Int))) (some (.int .i64 ((n : Int) + 1))) none).run Tryd.prog W = .ok (.string (S [hexd n])) W := fun n hn W => by
    have := run_slice_string (P := Tryd.prog) W 9 ⟨#[48, 49, 50, 51, 52, 53, 54, 55, 56, 57, 97, 98, 99, 100, 101, 102]⟩ .i64 .i64 (n : Int) ((n : Int) + 1) Tryd.underlying9 (by omega) (by omega) (by show _ ≤ (16 : Int); omega)
    rwa [show ((n : Int)).toNat = n by omega, show ((n : Int) + 1).toNat = n + 1 by omega, dig_slice hn] at this
  have Hd := Lib.hid hd
  clear hd
  rcases hor with hor | ⟨hor, hor2⟩
  all_goals
    go_enter Tryd.func9, Tryd.ntmps9
    go_wp2_with fail
    obtain ⟨w2, hw2⟩ : ∃ w2, w2 = w.alloc (.cells #[.string q, .int .i64 t, .int .i64 i] 28) := ⟨_, rfl⟩
    rw [← hw2]
    have hb2 : Below w.heap.size w w2 := by rw [hw2]; exact Below.one _ _
    have q0 : w2.cell? ⟨w.heap.size, 0, none⟩ = some (.string q) := by rw [hw2]; exact cell_new w _ _ 0 _ rfl
    have q1 : w2.cell? ⟨w.heap.size, 1, none⟩ = some (.int .i64 t) := by rw [hw2]; exact cell_new w _ _ 1 _ rfl
    have q2 : w2.cell? ⟨w.heap.size, 2, none⟩ = some (.int .i64 i) := by rw [hw2]; exact cell_new w _ _ 2 _ rfl
    have Hb2 := Lib.hid hb2
    clear hw2 hb2
    go_region_held (fun w' => Below w2.heap.size w2 w' ∧ w'.cell? ⟨w.heap.size, 0, none⟩ = some (.string q) ∧ w'.cell? ⟨w.heap.size, 1, none⟩ = some (.int .i64 t) ∧ w'.cell? ⟨w.heap.size, 2, none⟩ = some (.int .i64 i))
      (first | (refine ⟨(Below.refl _ _).drew, q0, q1, q2⟩) | (refine heldR_step (by assumption) ?_; assumption))
      (first
        | (go_at_call 22; refine (T.out _).mono ?_; rintro e w3 ⟨rfl, hb3⟩)
        | (go_at_call 23; refine (U.out _ _ ⟨by omega, by omega⟩).mono ?_; rintro e w3 ⟨rfl, hb3⟩)
        | (go_at_call 21; refine (F.out _).mono ?_; rintro e w3 ⟨rfl, hb3⟩))
    rename_i wa ha wb hb wc hc hH
    obtain ⟨hB23, -⟩ := hH
    have hbel3 := Hb2.out.then hB23
    clear ha hb hc hb3 hB23
    go_wp2_with fail
    go_loopw [5, 6] (fun sv ix wr => ∃ j : Nat, sv = .string (S (hex (f.data.toList.take j))) ∧ ix = .int .i64 j ∧ j ≤ f.size ∧ Below w.heap.size w wr) (fun _ ix _ => f.size - (intOf ix).toNat)
    case atStart => exact ⟨0, rfl, rfl, by omega, hbel3⟩
    case round =>
      obtain ⟨j, rfl, rfl, hj, hbel⟩ := hrel
      by_cases hlt : j < f.size
      · have hx := f[j].toNat_lt
        have Htk := Lib.hid (getElem_data hlt)
        have hl2 : (S (hex (f.data.toList.take j))).size ≤ 2132 := by rw [S_size, hex_length, List.length_take]; omega
        obtain ⟨a, b, ha16, hb16, ha, hb, k1, k2, k3, k4⟩ := halves f[j]
        have d1 := Hd.out a ha16
        have d2 := Hd.out b hb16
        have Ha := Lib.hid ha
        have Hb := Lib.hid hb
        clear ha hb
        have s1 : (S [hexd a]).size = 1 := by rw [S_size]; rfl
        have s2 : (S [hexd b]).size = 1 := by rw [S_size]; rfl
        go_wp2_with fail
        go_region
        go_wp2_with fail
        go_roundw
        case rel => exact ⟨j + 1, by rw [Htk.out, hex_snoc, Ha.out, Hb.out, ← S_append, ← S_append], by go_num, by omega, hbel.drew⟩
        case measure => simp [intOf]; omega
      · obtain rfl : j = f.size := by omega
        rw [List.take_of_length_le (by rw [← Lib.size_eq]; exact Nat.le_refl _)]
        go_wp2_with fail
        go_ret2
        exact ⟨by rw [Htok.out]; rfl, hbel⟩
end Go.Proofs.YtfhgjangeicbjaaDoor
