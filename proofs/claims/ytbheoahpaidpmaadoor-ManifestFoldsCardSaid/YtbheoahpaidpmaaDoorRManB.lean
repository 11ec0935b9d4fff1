/-
  The document's off, own, Find over states of parts.
-/
import Derived.Test.YtbheoahpaidpmaaDoorManAppK
import Derived.Test.YtbheoahpaidpmaaDoorRManA
namespace Go.Proofs.YtbheoahpaidpmaaDoor
open Go Go.RowKit

theorem PAt.rof {M n c : Nat} {A : Option Addr} {e : TypeId} {l : List PartV} {w : World} (h : Lie (fun k => k < M) e 3 (.slice A n c) n (l.flatMap partCells) w) : PAt M A n l w :=
  ⟨h.rd, by have := h.1.1; rw [flatMap_length partCells_length] at this; omega, fun a e => by subst e; exact Nat.not_lt.1 fun hk => h.2 a.block rfl hk⟩
theorem three {w : World} {b : Nat} {v0 v1 v2 : Value} {T : TypeId} (h : w.heap[b]? = some (.cells #[v0, v1, v2] T (0, 0))) :
    w.cell? ⟨b, 0, none⟩ = some v0 ∧ w.cell? ⟨b, 1, none⟩ = some v1 ∧ w.cell? ⟨b, 2, none⟩ = some v2 ∧ ∀ j, w.frozen? ⟨b, j, none⟩ = false :=
  ⟨by rw [Lib.cell_of_heap h]; rfl, by rw [Lib.cell_of_heap h]; rfl, by rw [Lib.cell_of_heap h]; rfl, fun j => Lib.frozen_of_heap h j⟩

/-- a state's block and an answer's, made one behind the other -/
theorem two_states (w : World) (B : Nat) (hB : w.heap.size = B) (u : Array Value) (v : Array Value) (T U : TypeId) :
    ∃ w0, (w.alloc (.cells u T)).alloc (.cells v U) = w0 ∧ w0.heap.size = B + 2 ∧ Below B w w0 ∧ w0.heap[B]? = some (.cells u T (0, 0)) ∧ w0.heap[B + 1]? = some (.cells v U (0, 0)) := by
  have n1 := heap_alloc_new w (.cells u T)
  have n2 := heap_alloc_new (w.alloc (.cells u T)) (.cells v U)
  simp only [World.size_alloc, hB] at n1 n2
  refine ⟨_, rfl, by simp [hB], ?_, ?_, n2⟩
  · subst hB
    exact ((Below.refl _ _).alloc (Nat.le_refl _) _).alloc (by simp) _
  · exact (Lib.alloc_old _ _ _ (by simp; omega)).trans n1

set_option linter.unusedSimpArgs false in
set_option maxRecDepth 100000 in
set_option maxHeartbeats 2000000 in
theorem rfind_any (d : Int) (A : Option Addr) (c n : Nat) (s : St) (w : World) (hr : Rd w 3 A n (s.Parts.flatMap partCells)) (hn : s.Parts.length = n) (hl : n ≤ 1000000) :
    Calls Tryd.prog 16 #[stVal A n c s, .int .i64 d] w fun e w' => e = .returned (.tuple #[partVal ((findP s.Parts d).getD p0), .bool (findP s.Parts d).isSome]) ∧ Below w.heap.size w w' := by
  unfold stVal
  obtain ⟨P, N, Q, O, D, T, X⟩ := s
  simp only at hr hn ⊢
  obtain ⟨B, hB⟩ : ∃ B, w.heap.size = B := ⟨_, rfl⟩
  obtain ⟨w0, hw0, hs0, hb0, g0, g1⟩ := two_states w B hB #[.slice A n c, .int .i64 N, .int .i64 Q, .bool O, .int .i64 D, .int .i64 T, .int .i64 X] #[.int .i64 0, .int .i64 0, .string ⟨#[]⟩] 31 43
  have hrd0 := hr.below (hB ▸ hb0)
  have Hrd0 := Lib.hid hrd0
  have Hn := Lib.hid hn
  have HB := Lib.hid hB
  have HB0 := Lib.hid hb0
  obtain ⟨a0, -, -, -, -, -, -, -⟩ := seven g0
  obtain ⟨r0, r1, r2, zr⟩ := three g1
  have zr0 := zr 0
  have zr1 := zr 1
  have zr2 := zr 2
  clear hr hrd0 hb0 hn g0 g1 zr
  go_enter Tryd.func16, Tryd.ntmps16
  go_wp2_with fail
  try simp only [hw0]
  clear hw0 hB
  go_loopw [6] (fun ix wr => ∃ i : Nat, ix = .int .i64 i ∧ i ≤ n ∧ (∀ j, j < i → ∃ h : j < P.length, (P[j].Day == d) = false) ∧ w0 = wr) (fun ix _ => n - (intOf ix).toNat)
  case atStart => exact ⟨0, rfl, by omega, fun j hj => absurd hj (by omega), rfl⟩
  case round =>
    obtain ⟨i, rfl, hi, hall, rfl⟩ := hrel
    have Hall := Lib.hid hall
    clear hall
    by_cases hlt : i < n
    · have hlt' : i < P.length := by have := Hn.out; omega
      obtain ⟨gb, off, rfl, hgb, s0, s1, s2⟩ := part_at Hrd0.out hlt'
      have hk1 : (i : Int) < n := by omega
      obtain ⟨r, hr⟩ : ∃ r, P[i] = r := ⟨_, rfl⟩
      rw [hr] at s0 s1 s2
      have Hr := Lib.hid (show ∀ h : i < P.length, P[i]'h = r from fun _ => hr)
      clear hr hlt'
      obtain ⟨T1, I1, V1⟩ := r
      simp only at s0 s1 s2
      cases hb : (T1 == d) with
      | false =>
        have Hb := Lib.hid hb
        clear s1 s2
        go_wp2_with fail
        go_roundw
        case rel => exact ⟨i + 1, by go_num, by omega, fun j hj => by
          rcases Nat.lt_or_ge j i with h | h
          · exact Hall.out j h
          · obtain rfl : j = i := by omega
            refine ⟨by have := Hn.out; omega, ?_⟩
            rw [Hr.out]
            exact Hb.out, trivial⟩
        case measure => simp [intOf]; omega
      | true =>
        have HF := Lib.hid (findP_some (l := P) (d := d) (i := i) (by have := Hn.out; omega) (by rw [Hr.out]; exact hb) (fun j hj => by obtain ⟨_, h⟩ := Hall.out j hj; exact h))
        go_wp2_with fail
        refine bodyPost_ret (v := .tuple #[partVal ⟨T1, I1, V1⟩, .bool true]) (by rw [results_cell_tmp rfl]; go_simp; rfl) rfl ⟨by rw [HF.out, Hr.out]; rfl, ?_⟩
        rw [HB.out]
        exact ((HB0.out.setCell (p := ⟨B + 1, 0, none⟩) (by simp) _).setCell (p := ⟨B + 1, 1, none⟩) (by simp) _).setCell (p := ⟨B + 1, 2, none⟩) (by simp) _
    · obtain rfl : i = n := by omega
      have HF := Lib.hid (findP_none (l := P) (d := d) fun r hr => by
        obtain ⟨j, hj, rfl⟩ := List.getElem_of_mem hr
        obtain ⟨_, h⟩ := Hall.out j (by have := Hn.out; omega)
        exact h)
      go_wp2_with fail
      refine bodyPost_ret (v := .tuple #[partVal p0, .bool false]) (by rw [results_cell_tmp rfl]; go_simp; rfl) rfl ⟨by rw [HF.out]; rfl, ?_⟩
      rw [HB.out]
      exact ((HB0.out.setCell (p := ⟨B + 1, 0, none⟩) (by simp) _).setCell (p := ⟨B + 1, 1, none⟩) (by simp) _).setCell (p := ⟨B + 1, 2, none⟩) (by simp) _

set_option linter.unusedSimpArgs false in
set_option maxRecDepth 100000 in
set_option maxHeartbeats 2000000 in
/-- own: an own row of the parts -/
theorem rown_any (A : Option Addr) (n c : Nat) (s : St) (w : World) (hr : Rd w 3 A n (s.Parts.flatMap partCells)) (hl : n ≤ 1000000) :
    Calls Tryd.prog 36 #[stVal A n c s] w fun e w' => ∃ A' c', e = .returned (stVal A' n c' s) ∧ PAt w.heap.size A' n s.Parts w' ∧ Below w.heap.size w w' := by
  unfold stVal
  obtain ⟨P, N, Q, O, D, T, X⟩ := s
  simp only at hr ⊢
  obtain ⟨B, hB⟩ : ∃ B, w.heap.size = B := ⟨_, rfl⟩
  obtain ⟨w0, hw0, hs0, hb0, g0, g1⟩ := two_states w B hB #[.slice A n c, .int .i64 N, .int .i64 Q, .bool O, .int .i64 D, .int .i64 T, .int .i64 X] #[.slice none 0 0, .int .i64 0, .int .i64 0, .bool false, .int .i64 0, .int .i64 0, .int .i64 0] 31 31
  have HB := Lib.hid hB
  have HB0 := Lib.hid hb0
  obtain ⟨w1, hw1, hs1⟩ : ∃ w1, w0.alloc (.cells #[] 43) = w1 ∧ w1.heap.size = B + 3 := ⟨_, rfl, by simp [hs0]⟩
  have hm := Lie.made (fun k => k < B + 2) w0 43 3 (fun k hk => by omega)
  have hb1 := Below.one w0 (.cells #[] 43)
  rw [hw1] at hm hb1
  rw [hs0] at hm hb1
  have G0 := Lib.hid ((hb1.block B (by omega)).trans g0)
  have G1 := Lib.hid ((hb1.block (B + 1) (by omega)).trans g1)
  obtain ⟨a0, a1, a2, a3, a4, a5, a6, -⟩ := seven G0.out
  have Hrd1 := Lib.hid ((hr.below (hB ▸ hb0)).below (hs0 ▸ hb1))
  have HM := Lib.hid hm
  have HB1 := Lib.hid hb1
  have hold : Old (fun k => k < B + 2) w1 := fun k hk => by omega
  clear hr hb0 hm hb1 g0 g1
  go_enter Tryd.func36, Tryd.ntmps36
  go_wp2_with (at_builtin; go_must (refine wpList_append_rd_row rfl (.tmp 5) (.tmp 7) 29 (by rfl) 43 (.agg #[.int .i64 0, .int .i64 0, .string ⟨#[]⟩]) 3 32 Tryd.underlying29 rpartInf rfl (by decide) (fun k => k < B + 2) 0 [] _ _ HM.out (by rfl) hold A n c (P.flatMap partCells) (by rfl) Hrd1.out parts_one (by unfold maxLen; omega) (by omega) ?_); intro v6 w6 hown6 hst6 hgr6 hat6; obtain ⟨A6, c6, rfl⟩ := hown6.form; rw [Nat.zero_add, List.nil_append] at hown6; have Ho6 := Lib.hid hown6; have hb6 : Below (B + 2) w1 w6 := hst6.below fun k hk => hk; have k0 := (hb6.block B (by omega)).trans G0.out; have k1 := (hb6.block (B + 1) (by omega)).trans G1.out; have Hb6 := Lib.hid (HB0.out.trans ((HB1.out.trans hb6).mono (by omega))); clear hown6 hst6 hgr6 hat6 hb6 a0 a1 a2 a3 a4 a5 a6 hw1 hw0; obtain ⟨a0, a1, a2, a3, a4, a5, a6, za⟩ := seven k0; obtain ⟨r0, r1, r2, r3, r4, r5, r6, zr⟩ := seven k1; have za0 := za 0; have zr0 := zr 0; have zr1 := zr 1; have zr2 := zr 2; have zr3 := zr 3; have zr4 := zr 4; have zr5 := zr 5; have zr6 := zr 6; clear za zr k0 k1)
  refine bodyPost_ret (v := .agg #[.slice A6 n c6, .int .i64 N, .int .i64 Q, .bool O, .int .i64 D, .int .i64 T, .int .i64 X]) (by rw [results_cell1 rfl]; go_simp) rfl ⟨A6, c6, rfl, ?_, ?_⟩
  · rw [HB.out]
    exact ((((((((PAt.rof Ho6.out).set (b := B) (j := 0) (by omega) _).set (b := B + 1) (j := 0) (by omega) _).set (b := B + 1) (j := 1) (by omega) _).set (b := B + 1) (j := 2) (by omega) _).set (b := B + 1) (j := 3) (by omega) _).set (b := B + 1) (j := 4) (by omega) _).set (b := B + 1) (j := 5) (by omega) _).set (b := B + 1) (j := 6) (by omega) _ |>.mono (by omega)
  · rw [HB.out]
    exact (((((((Hb6.out.setCell (p := ⟨B, 0, none⟩) (by simp) _).setCell (p := ⟨B + 1, 0, none⟩) (by simp) _).setCell (p := ⟨B + 1, 1, none⟩) (by simp) _).setCell (p := ⟨B + 1, 2, none⟩) (by simp) _).setCell (p := ⟨B + 1, 3, none⟩) (by simp) _).setCell (p := ⟨B + 1, 4, none⟩) (by simp) _).setCell (p := ⟨B + 1, 5, none⟩) (by simp) _).setCell (p := ⟨B + 1, 6, none⟩) (by simp) _
end Go.Proofs.YtbheoahpaidpmaaDoor
