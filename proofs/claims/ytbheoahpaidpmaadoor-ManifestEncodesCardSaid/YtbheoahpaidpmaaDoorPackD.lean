/-
  What the walks of this claim stand on: RManA, RManB, RManC, one behind the other.
-/
import Derived.Test.YtbheoahpaidpmaaDoorManFile
import Derived.BigQuiet
import Derived.Test.YtbheoahpaidpmaaDoorManAppK
/-! RManA -/
namespace Go.Proofs.YtbheoahpaidpmaaDoor
open Go Go.RowKit

theorem rpartInf : (Tryd.prog.info? 43).map (fun i => (i.zero, i.size, i.bytes)) = some (some (.agg #[.int .i64 0, .int .i64 0, .string ⟨#[]⟩]), 3, 32) := by kernel_rfl

set_option linter.unusedSimpArgs false in
set_option maxRecDepth 100000 in
theorem roff_any (A : Option Addr) (n c : Nat) (s : St) (w : World) : Calls Tryd.prog 39 #[stVal A n c s] w fun e w' => e = .returned (stVal A n c (offS s)) ∧ Below w.heap.size w w' := by
  unfold stVal offS
  obtain ⟨P, N, Q, O, D, T, X⟩ := s
  simp only
  go_enter Tryd.func39, Tryd.ntmps39
  go_wp2_with fail
  ((try simp only [Exit.inBlock, Exit.then]); refine bodyPost_ret (by rw [results_cell1 rfl]; go_simp; rfl) rfl ?_)
  exact ⟨rfl, ((Below.refl _ w).alloc (Nat.le_refl _) _).alloc (by simp) _⟩

set_option linter.unusedSimpArgs false in
theorem rday_any (n : Int) (w : World) : Calls Tryd.prog 25 #[.int .i64 n] w fun e w' => e = .returned (.bool (decide (dayOk n))) ∧ w = w' := by
  by_cases h : 0 ≤ n
  · have k1 : decide (0 ≤ n) = true := decide_eq_true h
    have k2 : decide (dayOk n) = decide (n < 17179869184) := by
      refine Bool.eq_iff_iff.2 ?_
      rw [decide_eq_true_iff, decide_eq_true_iff]
      unfold dayOk
      omega
    rw [k2]
    clear h k2
    go_enter Tryd.func25, Tryd.ntmps25
    go_wp2_with fail
    go_ret
    exact ⟨rfl, rfl⟩
  · have k1 : decide (0 ≤ n) = false := decide_eq_false h
    have k2 : decide (dayOk n) = false := decide_eq_false fun hd => h hd.1
    rw [k2]
    clear h k2
    go_enter Tryd.func25, Tryd.ntmps25
    go_wp2_with fail
    go_ret
    exact ⟨rfl, rfl⟩
set_option linter.unusedSimpArgs false in
theorem rbit_any (n : Int) (w : World) : Calls Tryd.prog 26 #[.int .i64 n] w fun e w' => e = .returned (.bool (decide (bitOk n))) ∧ w = w' := by
  by_cases h : n = 0
  · subst h
    rw [show decide (bitOk 0) = true from decide_eq_true (.inl rfl)]
    go_enter Tryd.func26, Tryd.ntmps26
    go_wp2_with fail
    go_ret
    exact ⟨rfl, rfl⟩
  · have k1 : (n == 0) = false := beq_eq_false_iff_ne.2 h
    have k2 : decide (bitOk n) = (n == 1) := by
      refine Bool.eq_iff_iff.2 ?_
      rw [decide_eq_true_iff, beq_iff_eq]
      unfold bitOk
      omega
    rw [k2]
    clear h k2
    go_enter Tryd.func26, Tryd.ntmps26
    go_wp2_with fail
    go_ret
    exact ⟨rfl, rfl⟩

theorem digit_at {d : Nat} (h : d < 10) : (⟨#[48, 49, 50, 51, 52, 53, 54, 55, 56, 57]⟩ : ByteArray).extract d (d + 1) = S [UInt8.ofNat (48 + d)] := by
  have : d = 0 ∨ d = 1 ∨ d = 2 ∨ d = 3 ∨ d = 4 ∨ d = 5 ∨ d = 6 ∨ d = 7 ∨ d = 8 ∨ d = 9 := by omega
  rcases this with rfl | rfl | rfl | rfl | rfl | rfl | rfl | rfl | rfl | rfl <;> decide
/-- the digits that are not written yet -/
def restD : Nat → List UInt8
  | 0 => []
  | n + 1 => Lib.decDigits (n + 1)
theorem restD_step {q : Nat} (h : 0 < q) : restD q = restD (q / 10) ++ [UInt8.ofNat (48 + q % 10)] := by
  obtain ⟨k, rfl⟩ : ∃ k, q = k + 1 := ⟨q - 1, by omega⟩
  by_cases h10 : k + 1 < 10
  · have e1 : (k + 1) / 10 = 0 := by omega
    have e2 : (k + 1) % 10 = k + 1 := by omega
    rw [e1, e2]
    show Lib.decDigits (k + 1) = _
    rw [Lib.decDigits, dif_pos h10]
    rfl
  · obtain ⟨j, hj⟩ : ∃ j, (k + 1) / 10 = j + 1 := ⟨(k + 1) / 10 - 1, by omega⟩
    show Lib.decDigits (k + 1) = _
    rw [Lib.decDigits, dif_neg h10, hj]
    rfl
theorem digits_rest (n : Nat) : Lib.decDigits n = restD (n / 10) ++ [UInt8.ofNat (48 + n % 10)] := by
  cases n with
  | zero => rw [Lib.decDigits]; rfl
  | succ n => exact restD_step (q := n + 1) (by omega)

set_option linter.unusedSimpArgs false in
set_option maxRecDepth 100000 in
set_option maxHeartbeats 1000000 in
theorem rfile_any (n : Int) (h1 : n ≤ 9223372036854775807) (w : World) : Calls Tryd.prog 51 #[.int .i64 n] w fun e w' => e = .returned (.string (S (fileB n))) ∧ w = w' := by
  obtain ⟨m, hm⟩ : ∃ m : Nat, n.toNat = m := ⟨_, rfl⟩
  have hF := show fileB n = 102 :: Lib.decDigits m by unfold fileB; rw [hm]
  have hlen := digits_len m (by omega)
  rw [digits_rest] at hF hlen
  obtain ⟨d, hd⟩ : ∃ d, m % 10 = d := ⟨_, rfl⟩
  obtain ⟨q, hq⟩ : ∃ q, m / 10 = q := ⟨_, rfl⟩
  rw [hd, hq] at hF hlen
  have hd10 : d < 10 := by omega
  have HE := Lib.hid (digit_at hd10)
  have HF := Lib.hid hF
  have hq9 : q ≤ 9223372036854775807 := by omega
  have HL := Lib.hid hlen
  by_cases hneg : n < 0
  · have t1 : decide (n < 0) = true := decide_eq_true hneg
    have hm0 : m = 0 := by omega
    subst hm0
    obtain rfl : d = 0 := by omega
    obtain rfl : q = 0 := by omega
    clear hneg hm hF hlen hd hq
    go_enter Tryd.func51, Tryd.ntmps51
    go_wp2_with fail
    go_loopw [0, 3] (fun nv sv wr => ∃ (p : Nat) (t : List UInt8), nv = .int .i64 p ∧ sv = .string (S t) ∧ restD p ++ t = restD 0 ++ [UInt8.ofNat (48 + 0)] ∧ p ≤ 9223372036854775807 ∧ t.length ≤ 20 ∧ w = wr) (fun nv _ _ => (intOf nv).toNat)
    case atStart => exact ⟨0, [UInt8.ofNat (48 + 0)], by first | rfl | trivial, by rw [HE.out], rfl, by omega, by simp, rfl⟩
    case round =>
      obtain ⟨p, t, rfl, rfl, hpt, hp9, ht20, rfl⟩ := hrel
      have Hpt := Lib.hid hpt
      clear hpt
      by_cases hp0 : 0 < p
      · obtain ⟨e, he⟩ : ∃ e, p % 10 = e := ⟨_, rfl⟩
        obtain ⟨g, hg⟩ : ∃ g, p / 10 = g := ⟨_, rfl⟩
        have he10 : e < 10 := by omega
        have hst := restD_step hp0
        rw [hg, he] at hst
        have HE1 := Lib.hid (digit_at he10)
        have Hst := Lib.hid hst
        have r1 : ((p : Int).tmod 10) = (e : Int) := by rw [Int.tmod_eq_emod_of_nonneg (by omega)]; omega
        have r2 : ((p : Int) % 10) = (e : Int) := by omega
        have r3 : ((p : Int).tdiv 10) = (g : Int) := by rw [Int.tdiv_eq_ediv_of_nonneg (by omega)]; omega
        have r4 : ((p : Int) / 10) = (g : Int) := by omega
        have a1 : IntKind.i64.wrap ((e : Int) + 1) = (e : Int) + 1 := by rw [IntKind.wrap_i64]; omega
        have a2 : IntKind.i64.wrap (g : Int) = (g : Int) := by rw [IntKind.wrap_i64]; omega
        have a3 : IntKind.i64.wrap (e : Int) = (e : Int) := by rw [IntKind.wrap_i64]; omega
        have b1 : (e : Int) + 1 ≤ 10 := by omega
        have b2 : (0 : Int) < (p : Int) := by omega
        have hgp : g < p := by omega
        have hlt20 : (restD p ++ t).length ≤ 20 := by rw [Hpt.out]; exact HL.out
        have hcat : ¬ 9223372036854775807 < min (e + 1) 10 - e + (S t).size := by rw [S_size]; omega
        clear hst he hg hp0
        go_wp2_with fail
        exact ⟨⟨g, UInt8.ofNat (48 + e) :: t, rfl, by rw [HE1.out, S_append]; rfl, by rw [← Hpt.out, Hst.out]; simp, by omega, by rw [Hst.out] at hlt20; simp at hlt20 ⊢; omega, trivial⟩, by simp [intOf]; exact hgp⟩
      · obtain rfl : p = 0 := by omega
        have hcat : ¬ 9223372036854775807 < 1 + (S t).size := by rw [S_size]; omega
        clear hp0
        go_wp2_with fail
        go_ret
        exact ⟨by rw [HF.out, ← Hpt.out]; rfl, rfl⟩
  · obtain rfl : n = m := by omega
    have t1 : decide ((m : Int) < 0) = false := decide_eq_false (by omega)
    have r1 : ((m : Int).tmod 10) = (d : Int) := by rw [Int.tmod_eq_emod_of_nonneg (by omega)]; omega
    have r2 : ((m : Int) % 10) = (d : Int) := by omega
    have r3 : ((m : Int).tdiv 10) = (q : Int) := by rw [Int.tdiv_eq_ediv_of_nonneg (by omega)]; omega
    have r4 : ((m : Int) / 10) = (q : Int) := by omega
    have a1 : IntKind.i64.wrap ((d : Int) + 1) = (d : Int) + 1 := by rw [IntKind.wrap_i64]; omega
    have a2 : IntKind.i64.wrap (q : Int) = (q : Int) := by rw [IntKind.wrap_i64]; omega
    have a3 : IntKind.i64.wrap (d : Int) = (d : Int) := by rw [IntKind.wrap_i64]; omega
    have b1 : (d : Int) + 1 ≤ 10 := by omega
    clear hneg hm hF hlen hd hq
    go_enter Tryd.func51, Tryd.ntmps51
    go_wp2_with fail
    go_loopw [0, 3] (fun nv sv wr => ∃ (p : Nat) (t : List UInt8), nv = .int .i64 p ∧ sv = .string (S t) ∧ restD p ++ t = restD q ++ [UInt8.ofNat (48 + d)] ∧ p ≤ 9223372036854775807 ∧ t.length ≤ 20 ∧ w = wr) (fun nv _ _ => (intOf nv).toNat)
    case atStart => exact ⟨q, [UInt8.ofNat (48 + d)], by first | rfl | trivial, by rw [HE.out], rfl, by omega, by simp, rfl⟩
    case round =>
      obtain ⟨p, t, rfl, rfl, hpt, hp9, ht20, rfl⟩ := hrel
      have Hpt := Lib.hid hpt
      clear hpt
      by_cases hp0 : 0 < p
      · obtain ⟨e, he⟩ : ∃ e, p % 10 = e := ⟨_, rfl⟩
        obtain ⟨g, hg⟩ : ∃ g, p / 10 = g := ⟨_, rfl⟩
        have he10 : e < 10 := by omega
        have hst := restD_step hp0
        rw [hg, he] at hst
        have HE1 := Lib.hid (digit_at he10)
        have Hst := Lib.hid hst
        have r1 : ((p : Int).tmod 10) = (e : Int) := by rw [Int.tmod_eq_emod_of_nonneg (by omega)]; omega
        have r2 : ((p : Int) % 10) = (e : Int) := by omega
        have r3 : ((p : Int).tdiv 10) = (g : Int) := by rw [Int.tdiv_eq_ediv_of_nonneg (by omega)]; omega
        have r4 : ((p : Int) / 10) = (g : Int) := by omega
        have a1 : IntKind.i64.wrap ((e : Int) + 1) = (e : Int) + 1 := by rw [IntKind.wrap_i64]; omega
        have a2 : IntKind.i64.wrap (g : Int) = (g : Int) := by rw [IntKind.wrap_i64]; omega
        have a3 : IntKind.i64.wrap (e : Int) = (e : Int) := by rw [IntKind.wrap_i64]; omega
        have b1 : (e : Int) + 1 ≤ 10 := by omega
        have b2 : (0 : Int) < (p : Int) := by omega
        have hgp : g < p := by omega
        have hlt20 : (restD p ++ t).length ≤ 20 := by rw [Hpt.out]; exact HL.out
        have hcat : ¬ 9223372036854775807 < min (e + 1) 10 - e + (S t).size := by rw [S_size]; omega
        clear hst he hg hp0
        go_wp2_with fail
        exact ⟨⟨g, UInt8.ofNat (48 + e) :: t, rfl, by rw [HE1.out, S_append]; rfl, by rw [← Hpt.out, Hst.out]; simp, by omega, by rw [Hst.out] at hlt20; simp at hlt20 ⊢; omega, trivial⟩, by simp [intOf]; exact hgp⟩
      · obtain rfl : p = 0 := by omega
        have hcat : ¬ 9223372036854775807 < 1 + (S t).size := by rw [S_size]; omega
        clear hp0
        go_wp2_with fail
        go_ret
        exact ⟨by rw [HF.out, ← Hpt.out]; rfl, rfl⟩
end Go.Proofs.YtbheoahpaidpmaaDoor

/-! RManB -/
namespace Go.Proofs.YtbheoahpaidpmaaDoor
open Go Go.RowKit

theorem PAt.rof {M n c : Nat} {A : Option Addr} {e : TypeId} {l : List PartV} {w : World} (h : Lie (fun k => k < M) e 3 (.slice A n c) n (l.flatMap partCells) w) : PAt M A n l w :=
  ⟨h.rd, by have := h.1.1; rw [flatMap_length partCells_length] at this; omega, fun a e => by subst e; exact Nat.not_lt.1 fun hk => h.2 a.block rfl hk⟩
theorem three {w : World} {b : Nat} {v0 v1 v2 : Value} {T : TypeId} (h : w.heap[b]? = some (.cells #[v0, v1, v2] T (0, 0))) :
    w.cell? ⟨b, 0, none⟩ = some v0 ∧ w.cell? ⟨b, 1, none⟩ = some v1 ∧ w.cell? ⟨b, 2, none⟩ = some v2 ∧ ∀ j, w.frozen? ⟨b, j, none⟩ = false :=
  ⟨by rw [Lib.cell_of_heap h]; rfl, by rw [Lib.cell_of_heap h]; rfl, by rw [Lib.cell_of_heap h]; rfl, fun j => Lib.frozen_of_heap h j⟩

/-- a state's block and an answer's, made one behind the other -/
theorem two_states (w : World) (B : Nat) (hB : w.heap.size = B) (u : Array Value) (v : Array Value) (T U : TypeId) :
    ∃ w0, (w.alloc (.cells u T)).alloc (.cells v U) = w0 ∧ w0.heap.size = B + 2 ∧ Below B w w0 ∧ w0.heap[B]? = some (.cells u T (0, 0)) ∧ w0.heap[B + 1]? = some (.cells v U (0, 0)) := by
  have n1 := heap_alloc_new w (.cells u T)
  have n2 := heap_alloc_new (w.alloc (.cells u T)) (.cells v U)
  simp only [World.size_alloc, hB] at n1 n2
  refine ⟨_, rfl, by simp [hB], ?_, ?_, n2⟩
  · subst hB
    exact ((Below.refl _ _).alloc (Nat.le_refl _) _).alloc (by simp) _
  · exact (Lib.alloc_old _ _ _ (by simp; omega)).trans n1

set_option linter.unusedSimpArgs false in
set_option maxRecDepth 100000 in
set_option maxHeartbeats 2000000 in
theorem rfind_any (d : Int) (A : Option Addr) (c n : Nat) (s : St) (w : World) (hr : Rd w 3 A n (s.Parts.flatMap partCells)) (hn : s.Parts.length = n) (hl : n ≤ 1000000) :
    Calls Tryd.prog 16 #[stVal A n c s, .int .i64 d] w fun e w' => e = .returned (.tuple #[partVal ((findP s.Parts d).getD p0), .bool (findP s.Parts d).isSome]) ∧ Below w.heap.size w w' := by
  unfold stVal
  obtain ⟨P, N, Q, O, D, T, X⟩ := s
  simp only at hr hn ⊢
  obtain ⟨B, hB⟩ : ∃ B, w.heap.size = B := ⟨_, rfl⟩
  obtain ⟨w0, hw0, hs0, hb0, g0, g1⟩ := two_states w B hB #[.slice A n c, .int .i64 N, .int .i64 Q, .bool O, .int .i64 D, .int .i64 T, .int .i64 X] #[.int .i64 0, .int .i64 0, .string ⟨#[]⟩] 31 43
  have hrd0 := hr.below (hB ▸ hb0)
  have Hrd0 := Lib.hid hrd0
  have Hn := Lib.hid hn
  have HB := Lib.hid hB
  have HB0 := Lib.hid hb0
  obtain ⟨a0, -, -, -, -, -, -, -⟩ := seven g0
  obtain ⟨r0, r1, r2, zr⟩ := three g1
  have zr0 := zr 0
  have zr1 := zr 1
  have zr2 := zr 2
  clear hr hrd0 hb0 hn g0 g1 zr
  go_enter Tryd.func16, Tryd.ntmps16
  go_wp2_with fail
  try simp only [hw0]
  clear hw0 hB
  go_loopw [6] (fun ix wr => ∃ i : Nat, ix = .int .i64 i ∧ i ≤ n ∧ (∀ j, j < i → ∃ h : j < P.length, (P[j].Day == d) = false) ∧ w0 = wr) (fun ix _ => n - (intOf ix).toNat)
  case atStart => exact ⟨0, rfl, by omega, fun j hj => absurd hj (by omega), rfl⟩
  case round =>
    obtain ⟨i, rfl, hi, hall, rfl⟩ := hrel
    have Hall := Lib.hid hall
    clear hall
    by_cases hlt : i < n
    · have hlt' : i < P.length := by have := Hn.out; omega
      obtain ⟨gb, off, rfl, hgb, s0, s1, s2⟩ := part_at Hrd0.out hlt'
      have hk1 : (i : Int) < n := by omega
      obtain ⟨r, hr⟩ : ∃ r, P[i] = r := ⟨_, rfl⟩
      rw [hr] at s0 s1 s2
      have Hr := Lib.hid (show ∀ h : i < P.length, P[i]'h = r from fun _ => hr)
      clear hr hlt'
      obtain ⟨T1, I1, V1⟩ := r
      simp only at s0 s1 s2
      cases hb : (T1 == d) with
      | false =>
        have Hb := Lib.hid hb
        clear s1 s2
        go_wp2_with fail
        go_roundw
        case rel => exact ⟨i + 1, by go_num, by omega, fun j hj => by
          rcases Nat.lt_or_ge j i with h | h
          · exact Hall.out j h
          · obtain rfl : j = i := by omega
            refine ⟨by have := Hn.out; omega, ?_⟩
            rw [Hr.out]
            exact Hb.out, trivial⟩
        case measure => simp [intOf]; omega
      | true =>
        have HF := Lib.hid (findP_some (l := P) (d := d) (i := i) (by have := Hn.out; omega) (by rw [Hr.out]; exact hb) (fun j hj => by obtain ⟨_, h⟩ := Hall.out j hj; exact h))
        go_wp2_with fail
        refine bodyPost_ret (v := .tuple #[partVal ⟨T1, I1, V1⟩, .bool true]) (by rw [results_cell_tmp rfl]; go_simp; rfl) rfl ⟨by rw [HF.out, Hr.out]; rfl, ?_⟩
        rw [HB.out]
        exact ((HB0.out.setCell (p := ⟨B + 1, 0, none⟩) (by simp) _).setCell (p := ⟨B + 1, 1, none⟩) (by simp) _).setCell (p := ⟨B + 1, 2, none⟩) (by simp) _
    · obtain rfl : i = n := by omega
      have HF := Lib.hid (findP_none (l := P) (d := d) fun r hr => by
        obtain ⟨j, hj, rfl⟩ := List.getElem_of_mem hr
        obtain ⟨_, h⟩ := Hall.out j (by have := Hn.out; omega)
        exact h)
      go_wp2_with fail
      refine bodyPost_ret (v := .tuple #[partVal p0, .bool false]) (by rw [results_cell_tmp rfl]; go_simp; rfl) rfl ⟨by rw [HF.out]; rfl, ?_⟩
      rw [HB.out]
      exact ((HB0.out.setCell (p := ⟨B + 1, 0, none⟩) (by simp) _).setCell (p := ⟨B + 1, 1, none⟩) (by simp) _).setCell (p := ⟨B + 1, 2, none⟩) (by simp) _

set_option linter.unusedSimpArgs false in
set_option maxRecDepth 100000 in
set_option maxHeartbeats 2000000 in
/-- own: an own row of the parts -/
theorem rown_any (A : Option Addr) (n c : Nat) (s : St) (w : World) (hr : Rd w 3 A n (s.Parts.flatMap partCells)) (hl : n ≤ 1000000) :
    Calls Tryd.prog 36 #[stVal A n c s] w fun e w' => ∃ A' c', e = .returned (stVal A' n c' s) ∧ PAt w.heap.size A' n s.Parts w' ∧ Below w.heap.size w w' := by
  unfold stVal
  obtain ⟨P, N, Q, O, D, T, X⟩ := s
  simp only at hr ⊢
  obtain ⟨B, hB⟩ : ∃ B, w.heap.size = B := ⟨_, rfl⟩
  obtain ⟨w0, hw0, hs0, hb0, g0, g1⟩ := two_states w B hB #[.slice A n c, .int .i64 N, .int .i64 Q, .bool O, .int .i64 D, .int .i64 T, .int .i64 X] #[.slice none 0 0, .int .i64 0, .int .i64 0, .bool false, .int .i64 0, .int .i64 0, .int .i64 0] 31 31
  have HB := Lib.hid hB
  have HB0 := Lib.hid hb0
  obtain ⟨w1, hw1, hs1⟩ : ∃ w1, w0.alloc (.cells #[] 43) = w1 ∧ w1.heap.size = B + 3 := ⟨_, rfl, by simp [hs0]⟩
  have hm := Lie.made (fun k => k < B + 2) w0 43 3 (fun k hk => by omega)
  have hb1 := Below.one w0 (.cells #[] 43)
  rw [hw1] at hm hb1
  rw [hs0] at hm hb1
  have G0 := Lib.hid ((hb1.block B (by omega)).trans g0)
  have G1 := Lib.hid ((hb1.block (B + 1) (by omega)).trans g1)
  obtain ⟨a0, a1, a2, a3, a4, a5, a6, -⟩ := seven G0.out
  have Hrd1 := Lib.hid ((hr.below (hB ▸ hb0)).below (hs0 ▸ hb1))
  have HM := Lib.hid hm
  have HB1 := Lib.hid hb1
  have hold : Old (fun k => k < B + 2) w1 := fun k hk => by omega
  clear hr hb0 hm hb1 g0 g1
  go_enter Tryd.func36, Tryd.ntmps36
  go_wp2_with (at_builtin; go_must (refine wpList_append_rd_row rfl (.tmp 5) (.tmp 7) 29 (by rfl) 43 (.agg #[.int .i64 0, .int .i64 0, .string ⟨#[]⟩]) 3 32 Tryd.underlying29 rpartInf rfl (by decide) (fun k => k < B + 2) 0 [] _ _ HM.out (by rfl) hold A n c (P.flatMap partCells) (by rfl) Hrd1.out parts_one (by unfold maxLen; omega) (by omega) ?_); intro v6 w6 hown6 hst6 hgr6 hat6; obtain ⟨A6, c6, rfl⟩ := hown6.form; rw [Nat.zero_add, List.nil_append] at hown6; have Ho6 := Lib.hid hown6; have hb6 : Below (B + 2) w1 w6 := hst6.below fun k hk => hk; have k0 := (hb6.block B (by omega)).trans G0.out; have k1 := (hb6.block (B + 1) (by omega)).trans G1.out; have Hb6 := Lib.hid (HB0.out.trans ((HB1.out.trans hb6).mono (by omega))); clear hown6 hst6 hgr6 hat6 hb6 a0 a1 a2 a3 a4 a5 a6 hw1 hw0; obtain ⟨a0, a1, a2, a3, a4, a5, a6, za⟩ := seven k0; obtain ⟨r0, r1, r2, r3, r4, r5, r6, zr⟩ := seven k1; have za0 := za 0; have zr0 := zr 0; have zr1 := zr 1; have zr2 := zr 2; have zr3 := zr 3; have zr4 := zr 4; have zr5 := zr 5; have zr6 := zr 6; clear za zr k0 k1)
  refine bodyPost_ret (v := .agg #[.slice A6 n c6, .int .i64 N, .int .i64 Q, .bool O, .int .i64 D, .int .i64 T, .int .i64 X]) (by rw [results_cell1 rfl]; go_simp) rfl ⟨A6, c6, rfl, ?_, ?_⟩
  · rw [HB.out]
    exact ((((((((PAt.rof Ho6.out).set (b := B) (j := 0) (by omega) _).set (b := B + 1) (j := 0) (by omega) _).set (b := B + 1) (j := 1) (by omega) _).set (b := B + 1) (j := 2) (by omega) _).set (b := B + 1) (j := 3) (by omega) _).set (b := B + 1) (j := 4) (by omega) _).set (b := B + 1) (j := 5) (by omega) _).set (b := B + 1) (j := 6) (by omega) _ |>.mono (by omega)
  · rw [HB.out]
    exact (((((((Hb6.out.setCell (p := ⟨B, 0, none⟩) (by simp) _).setCell (p := ⟨B + 1, 0, none⟩) (by simp) _).setCell (p := ⟨B + 1, 1, none⟩) (by simp) _).setCell (p := ⟨B + 1, 2, none⟩) (by simp) _).setCell (p := ⟨B + 1, 3, none⟩) (by simp) _).setCell (p := ⟨B + 1, 4, none⟩) (by simp) _).setCell (p := ⟨B + 1, 5, none⟩) (by simp) _).setCell (p := ⟨B + 1, 6, none⟩) (by simp) _
end Go.Proofs.YtbheoahpaidpmaaDoor

/-! RManC -/
namespace Go.Proofs.YtbheoahpaidpmaaDoor
open Go Go.RowKit

/-- a state lies so (alone) -/
def StOne (v : St) (B : Nat) (w : World) (e : Ending) (w' : World) : Prop :=
  ∃ A n c, e = .returned (stVal A n c v) ∧ PAt B A n v.Parts w' ∧ Below B w w'

set_option linter.unusedSimpArgs false in
set_option maxRecDepth 100000 in
set_option maxHeartbeats 4000000 in
theorem rdrop_any (d : Int) (A : Option Addr) (n c : Nat) (s : St) (w : World) (hr : Rd w 3 A n (s.Parts.flatMap partCells)) (hn : s.Parts.length = n) (hl : n ≤ 1000000) :
    Calls Tryd.prog 38 #[stVal A n c s, .int .i64 d] w (StOne (dropS s d) w.heap.size w) := by
  unfold stVal
  obtain ⟨P, N, Q, O, D, T, X⟩ := s
  simp only at hr hn ⊢
  obtain ⟨V, hV⟩ : ∃ V, dropS ⟨P, N, Q, O, D, T, X⟩ d = V := ⟨_, rfl⟩
  have HV := Lib.hid (hV.symm.trans (dropS_eq P N Q O D T X d))
  rw [hV]
  obtain ⟨B, hB⟩ : ∃ B, w.heap.size = B := ⟨_, rfl⟩
  obtain ⟨w0, hw0, hs0, hb0, g0, g1⟩ := two_states w B hB #[.slice A n c, .int .i64 N, .int .i64 Q, .bool O, .int .i64 D, .int .i64 T, .int .i64 X] #[.slice none 0 0, .int .i64 0, .int .i64 0, .bool false, .int .i64 0, .int .i64 0, .int .i64 0] 31 31
  have hrd0 := hr.below (hB ▸ hb0)
  have HR := Lib.hid hrd0
  have Hn := Lib.hid hn
  have HB := Lib.hid hB
  have HB0 := Lib.hid hb0
  have G0 := Lib.hid g0
  have G1 := Lib.hid g1
  obtain ⟨w1, hw1, hs1⟩ : ∃ w1, w0.alloc (.cells #[] 43) = w1 ∧ w1.heap.size = B + 3 := ⟨_, rfl, by simp [hs0]⟩
  have hm := Lie.made (fun k => k < B + 2) w0 43 3 (fun k hk => by omega)
  have hb1 := Below.one w0 (.cells #[] 43)
  rw [hw1] at hm hb1
  rw [hs0] at hm hb1
  have HM := Lib.hid hm
  have HB1 := Lib.hid hb1
  clear hr hrd0 hb0 hn hm hb1 g0 g1 hV
  go_enter Tryd.func38, Tryd.ntmps38
  go_wp2_with fail
  try simp only [hw0, hs0, hw1]
  clear hw0 hw1 hB
  go_loopw [5, 6] (fun ov ix wr => ∃ (i m : Nat) (A5 : Option Addr) (c5 : Nat), ix = .int .i64 i ∧ ov = .slice A5 m c5 ∧ i ≤ n ∧ m ≤ i ∧ Lie (fun k => k < B + 2) 43 3 (.slice A5 m c5) m (((P.take i).filter (kp d)).flatMap partCells) wr ∧ Below (B + 2) w0 wr) (fun _ ix _ => n - (intOf ix).toNat)
  case atStart => exact ⟨0, 0, _, _, rfl, rfl, by omega, by omega, HM.out, HB1.out⟩
  case round =>
    obtain ⟨i, m, A5, c5, rfl, rfl, hi, hmi, hlie, hbel⟩ := hrel
    have k0 := (hbel.block B (by omega)).trans G0.out
    have k1 := (hbel.block (B + 1) (by omega)).trans G1.out
    have hsz := hbel.size
    have hold : Old (fun k => k < B + 2) wr := fun k hk => by omega
    by_cases hlt : i < n
    · obtain ⟨a0, -, -, -, -, -, -, -⟩ := seven k0
      have hlt' : i < P.length := by have := Hn.out; omega
      obtain ⟨gb, off, rfl, hgb, s0, s1, s2⟩ := part_at (HR.out.below (hs0 ▸ hbel)) hlt'
      have hk1 : (i : Int) < n := by omega
      have hkeep := Lib.hid (fun h => del_keep (p := kp d) (xs := P) (j := i) hlt' h)
      have hskip := Lib.hid (fun h => del_skip (p := kp d) (xs := P) (j := i) hlt' h)
      obtain ⟨r, hr⟩ : ∃ r, P[i] = r := ⟨_, rfl⟩
      rw [hr] at s0 s1 s2 hkeep hskip
      clear hr hlt'
      obtain ⟨T1, I1, V1⟩ := r
      simp only at s0 s1 s2
      have Hl := Lib.hid hlie
      have Hb := Lib.hid hbel
      clear hlie hbel k0 k1
      cases hb : (T1 == d) with
      | true =>
        have hsk := hskip.out (by unfold kp bne; simp only; rw [hb]; rfl)
        have Hsk := Lib.hid hsk
        have t1 : (T1 != d) = false := by rw [bne, hb]; rfl
        clear hsk s1 s2
        go_wp2_with fail
        go_roundw
        case rel => exact ⟨i + 1, m, A5, c5, by go_num, rfl, by omega, by omega, by rw [Hsk.out]; exact Hl.out, Hb.out⟩
        case measure => simp [intOf]; omega
      | false =>
        have hkp := hkeep.out (by unfold kp bne; simp only; rw [hb]; rfl)
        have Hkp := Lib.hid (show ((P.take (i + 1)).filter (kp d)).flatMap partCells = ((P.take i).filter (kp d)).flatMap partCells ++ #[Value.int .i64 T1, .int .i64 I1, .string (S V1)].toList by rw [hkp, List.flatMap_append]; simp [partCells])
        have t1 : (T1 != d) = true := by rw [bne, hb]; rfl
        clear hkp
        go_wp2_with (at_builtin; go_must (refine wpList_append_elem_row rfl (.tmp 23) (.tmp 29) 29 (by rfl) 43 (.agg #[.int .i64 0, .int .i64 0, .string ⟨#[]⟩]) 3 32 Tryd.underlying29 rpartInf rfl (by decide) (fun k => k < B + 2) m _ _ wr #[.int .i64 T1, .int .i64 I1, .string (S V1)] rfl (by intro u hu; simp at hu; rcases hu with rfl | rfl | rfl <;> rfl) Hl.out (by rfl) hold (by rfl) (by unfold maxLen; omega) (by omega) ?_); intro v8 w8 hown8 hst8 hgr8 hat8; have Hl8 := Lib.hid hown8; have Hb8 := Lib.hid (Hb.out.trans (hst8.below fun k hk => hk)); obtain ⟨A8, c8, rfl⟩ := hown8.form; clear hown8 hst8 hgr8 hat8)
        go_roundw
        case rel => exact ⟨i + 1, m + 1, A8, c8, by go_num, rfl, by omega, by omega, by rw [Hkp.out]; exact Hl8.out, Hb8.out⟩
        case measure => simp [intOf]; omega
    · obtain rfl : i = n := by omega
      rw [List.take_of_length_le (by rw [Hn.out]; exact Nat.le_refl _)] at hlie
      have hbw := HB0.out.trans (hbel.mono (by omega))
      obtain ⟨W, hW, hWs, q0, q1, hp, hb⟩ : ∃ W, wr.setCell ⟨B, 0, none⟩ (.slice A5 m c5) = W ∧ B + 1 < W.heap.size ∧ W.heap[B]? = some (.cells #[.slice A5 m c5, .int .i64 N, .int .i64 Q, .bool O, .int .i64 D, .int .i64 T, .int .i64 X] 31 (0, 0)) ∧ W.heap[B + 1]? = some (.cells #[.slice none 0 0, .int .i64 0, .int .i64 0, .bool false, .int .i64 0, .int .i64 0, .int .i64 0] 31 (0, 0)) ∧ PAt (B + 2) A5 m (P.filter (kp d)) W ∧ Below B w W :=
        ⟨_, rfl, by simp [World.setCell]; omega, by simp [World.setCell, Array.getElem?_modify, k0], (Below.heap_setCell _ _ _ _ (by simp)).trans k1, (PAt.rof hlie).set (by omega) _, hbw.setCell (p := ⟨B, 0, none⟩) (Nat.le_refl B) _⟩
      obtain ⟨b0, -, -, -, -, -, -, zb⟩ := seven k0
      have zb0 := zb 0
      obtain ⟨a0, a1, a2, a3, a4, a5, a6, za⟩ := seven q0
      obtain ⟨r0, r1, r2, r3, r4, r5, r6, zr⟩ := seven q1
      have za0 := za 0
      have za1 := za 1
      have za2 := za 2
      have za3 := za 3
      have za4 := za 4
      have za5 := za 5
      have za6 := za 6
      have zr0 := zr 0
      have zr1 := zr 1
      have zr2 := zr 2
      have zr3 := zr 3
      have zr4 := zr 4
      have zr5 := zr 5
      have zr6 := zr 6
      have HP := Lib.hid hp
      have HBW := Lib.hid hb
      have HQ0 := Lib.hid q0
      have HQ1 := Lib.hid q1
      clear hbw hp hb q0 q1 za zr zb hlie hbel k0 k1 G0 G1
      have fin : ∀ (V' : St) (W' : World), V = V' → V'.Parts = P.filter (kp d) → PAt (B + 2) A5 m (P.filter (kp d)) W' → Below B w W' → StOne V w.heap.size w (.returned (stVal A5 m c5 V')) W' := by
        intro V' W' hv hpp hat hbb
        subst hv
        exact ⟨A5, m, c5, rfl, by rw [hpp, HB.out]; exact hat.mono (by omega), by rw [HB.out]; exact hbb⟩
      cases O with
      | false =>
        have HV1 := Lib.hid (HV.out.trans (if_neg (by simp)))
        go_wp2_with fail
        refine bodyPost_ret (v := .agg #[.slice A5 m c5, .int .i64 N, .int .i64 Q, .bool false, .int .i64 D, .int .i64 T, .int .i64 X]) (by rw [results_cell1 rfl]; go_simp) rfl (fin ⟨P.filter (kp d), N, Q, false, D, T, X⟩ _ HV1.out rfl ?_ ?_)
        · exact (((((((HP.out.set (b := B + 1) (j := 0) (by omega) _).set (b := B + 1) (j := 1) (by omega) _).set (b := B + 1) (j := 2) (by omega) _).set (b := B + 1) (j := 3) (by omega) _).set (b := B + 1) (j := 4) (by omega) _).set (b := B + 1) (j := 5) (by omega) _).set (b := B + 1) (j := 6) (by omega) _)
        · exact (((((((HBW.out.setCell (p := ⟨B + 1, 0, none⟩) (by simp) _).setCell (p := ⟨B + 1, 1, none⟩) (by simp) _).setCell (p := ⟨B + 1, 2, none⟩) (by simp) _).setCell (p := ⟨B + 1, 3, none⟩) (by simp) _).setCell (p := ⟨B + 1, 4, none⟩) (by simp) _).setCell (p := ⟨B + 1, 5, none⟩) (by simp) _).setCell (p := ⟨B + 1, 6, none⟩) (by simp) _)
      | true =>
        by_cases hd : D = d
        · have u1 : (D == d) = true := beq_iff_eq.2 hd
          have HV1 := Lib.hid (HV.out.trans (if_pos ⟨rfl, hd⟩))
          have HOF := roff_any A5 m c5 ⟨P.filter (kp d), N, Q, true, D, T, X⟩ W
          unfold stVal offS at HOF
          simp only at HOF
          have HO := Lib.hid HOF
          clear HOF hd
          go_wp2_with fail
          refine HO.out.mono ?_
          rintro e w9 ⟨rfl, hb9⟩
          have q0 := (hb9.block B (by omega)).trans HQ0.out
          have q1 := (hb9.block (B + 1) (by omega)).trans HQ1.out
          have HP9 := Lib.hid (HP.out.below hb9)
          have HB9 := Lib.hid (HBW.out.trans (hb9.mono (by omega)))
          clear a0 a1 a2 a3 a4 a5 a6 r0 r1 r2 r3 r4 r5 r6 za0 za1 za2 za3 za4 za5 za6 zr0 zr1 zr2 zr3 zr4 zr5 zr6 hb9 HQ0 HQ1
          obtain ⟨a0, a1, a2, a3, a4, a5, a6, za⟩ := seven q0
          obtain ⟨r0, r1, r2, r3, r4, r5, r6, zr⟩ := seven q1
          have za0 := za 0
          have za1 := za 1
          have za2 := za 2
          have za3 := za 3
          have za4 := za 4
          have za5 := za 5
          have za6 := za 6
          have zr0 := zr 0
          have zr1 := zr 1
          have zr2 := zr 2
          have zr3 := zr 3
          have zr4 := zr 4
          have zr5 := zr 5
          have zr6 := zr 6
          clear za zr q0 q1
          go_wp2_with fail
          refine bodyPost_ret (v := .agg #[.slice A5 m c5, .int .i64 N, .int .i64 Q, .bool false, .int .i64 0, .int .i64 0, .int .i64 0]) (by rw [results_cell1 rfl]; go_simp) rfl (fin ⟨P.filter (kp d), N, Q, false, 0, 0, 0⟩ _ HV1.out rfl ?_ ?_)
          · exact ((((((((((((((HP9.out.set (b := B) (j := 0) (by omega) _).set (b := B) (j := 1) (by omega) _).set (b := B) (j := 2) (by omega) _).set (b := B) (j := 3) (by omega) _).set (b := B) (j := 4) (by omega) _).set (b := B) (j := 5) (by omega) _).set (b := B) (j := 6) (by omega) _).set (b := B + 1) (j := 0) (by omega) _).set (b := B + 1) (j := 1) (by omega) _).set (b := B + 1) (j := 2) (by omega) _).set (b := B + 1) (j := 3) (by omega) _).set (b := B + 1) (j := 4) (by omega) _).set (b := B + 1) (j := 5) (by omega) _).set (b := B + 1) (j := 6) (by omega) _)
          · exact ((((((((((((((HB9.out.setCell (p := ⟨B, 0, none⟩) (by simp) _).setCell (p := ⟨B, 1, none⟩) (by simp) _).setCell (p := ⟨B, 2, none⟩) (by simp) _).setCell (p := ⟨B, 3, none⟩) (by simp) _).setCell (p := ⟨B, 4, none⟩) (by simp) _).setCell (p := ⟨B, 5, none⟩) (by simp) _).setCell (p := ⟨B, 6, none⟩) (by simp) _).setCell (p := ⟨B + 1, 0, none⟩) (by simp) _).setCell (p := ⟨B + 1, 1, none⟩) (by simp) _).setCell (p := ⟨B + 1, 2, none⟩) (by simp) _).setCell (p := ⟨B + 1, 3, none⟩) (by simp) _).setCell (p := ⟨B + 1, 4, none⟩) (by simp) _).setCell (p := ⟨B + 1, 5, none⟩) (by simp) _).setCell (p := ⟨B + 1, 6, none⟩) (by simp) _)
        · have u1 : (D == d) = false := beq_eq_false_iff_ne.2 hd
          have HV1 := Lib.hid (HV.out.trans (if_neg (fun h => hd h.2)))
          clear hd
          go_wp2_with fail
          refine bodyPost_ret (v := .agg #[.slice A5 m c5, .int .i64 N, .int .i64 Q, .bool true, .int .i64 D, .int .i64 T, .int .i64 X]) (by rw [results_cell1 rfl]; go_simp) rfl (fin ⟨P.filter (kp d), N, Q, true, D, T, X⟩ _ HV1.out rfl ?_ ?_)
          · exact (((((((HP.out.set (b := B + 1) (j := 0) (by omega) _).set (b := B + 1) (j := 1) (by omega) _).set (b := B + 1) (j := 2) (by omega) _).set (b := B + 1) (j := 3) (by omega) _).set (b := B + 1) (j := 4) (by omega) _).set (b := B + 1) (j := 5) (by omega) _).set (b := B + 1) (j := 6) (by omega) _)
          · exact (((((((HBW.out.setCell (p := ⟨B + 1, 0, none⟩) (by simp) _).setCell (p := ⟨B + 1, 1, none⟩) (by simp) _).setCell (p := ⟨B + 1, 2, none⟩) (by simp) _).setCell (p := ⟨B + 1, 3, none⟩) (by simp) _).setCell (p := ⟨B + 1, 4, none⟩) (by simp) _).setCell (p := ⟨B + 1, 5, none⟩) (by simp) _).setCell (p := ⟨B + 1, 6, none⟩) (by simp) _)
end Go.Proofs.YtbheoahpaidpmaaDoor
