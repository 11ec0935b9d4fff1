/-
  runs: read, the walk.
-/
import Derived.Test.YthmikefinibecaaRunRead2
namespace Go.Proofs.Ythmikefinibecaa
open Go Go.RowKit

/-- a block's box -/
def FBox (b : Nat) (f : Fen) (w : World) : Prop := w.heap[b]? = some (.cells #[.int .i64 f.F, .int .i64 f.T, .int .i64 f.n, .string (S f.b)] 46 (0, 0))
theorem FBox.cells {b : Nat} {f : Fen} {w : World} (h : FBox b f w) : w.cell? ⟨b, 0, none⟩ = some (.int .i64 f.F) ∧ w.cell? ⟨b, 1, none⟩ = some (.int .i64 f.T) :=
  ⟨(Lib.cell_of_heap h 0).trans rfl, (Lib.cell_of_heap h 1).trans rfl⟩
def ReadPost (f : Fen) (B : Nat) (w : World) (e : Ending) (w' : World) : Prop :=
  (readR f = none ∧ (∃ v, e = .returned (.tuple #[v, .bool false])) ∧ Below B w w') ∨
    ∃ rs v, readR f = some rs ∧ e = .returned (.tuple #[v, .bool true]) ∧ Lie (fun k => k < B) 36 3 v rs.length (rs.flatMap rowCells) w' ∧ rs.length ≤ 16 ∧ Below B w w'
def ReadRel (B : Nat) (f : Fen) (H : Option (List Row × Int)) (w : World) (sv tv ix : Value) (wr : World) : Prop :=
  ∃ (xs : List Row) (k : Nat) (a t : Int) (A : Option Addr) (cp : Nat), sv = .slice A xs.length cp ∧ tv = .int .i64 t ∧ ix = .int .i64 xs.length ∧ xs.length + k = f.n ∧ fineR xs = true ∧ 0 ≤ t ∧ t ≤ 1099511627776 * (xs.length + 1) ∧ 0 ≤ a ∧ a ≤ f.b.length ∧
    (xs = [] ∧ t = f.F ∨ ∃ hp x, xs = hp ++ [x] ∧ x.T = t) ∧ Lie (fun j => j < B ∨ j = B ∨ j = B + 1) 36 3 (.slice A xs.length cp) xs.length (xs.flatMap rowCells) wr ∧ RunOf (B + 1) (S f.b) a true wr ∧ FBox B f wr ∧ Below B w wr ∧
    (rowsR f.b k a t).map (fun r => (xs ++ r.1, r.2)) = H
theorem rowInf : (Try.prog.info? 36).map (fun i => (i.zero, i.size, i.bytes)) = some (some (.agg #[.int .i64 0, .int .i64 0, .int .i64 0]), 3, 24) := by kernel_rfl

set_option linter.unusedSimpArgs false in
set_option maxRecDepth 100000 in
set_option maxHeartbeats 4000000 in
theorem read_at (f : Fen) (B : Nat) (w : World) (hB : w.heap.size = B) (hf : FenOk 1000000 f) : Calls Try.prog 22 #[fenVal f] w (ReadPost f B w) := by
  obtain ⟨f1, f2, f3, f4, f5, f6⟩ := hf
  obtain ⟨H, hH⟩ : ∃ H, rowsR f.b f.n 0 f.F = H := ⟨_, rfl⟩
  have hre := read_eq f
  rw [hH] at hre
  have Hre := Lib.hid hre
  have HH := Lib.hid hH
  have Hf := Lib.hid (And.intro f1 (And.intro f2 f3))
  have hl : (S f.b).data.toList = f.b := S_toList f.b
  have hsz : (S f.b).size = f.b.length := S_size f.b
  have Hl := Lib.hid hl
  have Hsz := Lib.hid hsz
  have hs6 : (S f.b).size ≤ 1000000 := by omega
  have e1 : (w.alloc (.cells #[.int .i64 f.F, .int .i64 f.T, .int .i64 f.n, .string (S f.b)] 46)).heap.size = B + 1 := by simp [hB]
  obtain ⟨wa, hwa⟩ : ∃ wa, w.alloc (.cells #[.int .i64 f.F, .int .i64 f.T, .int .i64 f.n, .string (S f.b)] 46) = wa := ⟨_, rfl⟩
  have hfb : FBox B f wa := by rw [← hwa, ← hB]; exact heap_alloc_new w _
  have hba : Below B w wa := by rw [← hwa]; exact (Below.refl B w).alloc (by omega) _
  rw [hwa] at e1
  obtain ⟨wb, hwb⟩ : ∃ wb, wa.alloc (.cells #[.string (S f.b), .int .i64 0, .bool true] 77) = wb := ⟨_, rfl⟩
  have hrb : RunOf (B + 1) (S f.b) 0 true wb := by rw [← hwb, ← e1]; exact heap_alloc_new wa _
  have hfb2 : FBox B f wb := by
    have := (Below.one wa (.cells #[.string (S f.b), .int .i64 0, .bool true] 77)).block B (by omega)
    rw [hwb] at this
    exact this.trans hfb
  have hbb : Below B w wb := by rw [← hwb]; exact hba.alloc (by omega) _
  have Hrb := Lib.hid hrb
  have Hfb := Lib.hid hfb2
  have Hbb := Lib.hid hbb
  have HB := Lib.hid hB
  have Hwa := Lib.hid hwa
  have Hwb := Lib.hid hwb
  clear hre hH f1 f2 f3 hl hsz hrb hfb2 hbb hfb hba f6 e1 hB hwa hwb
  obtain ⟨F, T, n, b⟩ := f
  simp only [fenVal] at *
  have hB := HB.out
  go_enter Try.func22, Try.ntmps22
  go_wp2_with fail
  rw [Hwa.out, Hwb.out]
  clear hB
  go_loopw [5, 6, 21] (fun sv tv ix wr => ReadRel B ⟨F, T, n, b⟩ H w sv tv ix wr) (fun _ _ ix _ => n - (intOf ix).toNat)
  case atStart => exact ⟨[], n, 0, F, none, 0, rfl, rfl, rfl, by simp, rfl, Hf.out.1, by have := Hf.out; simp; omega, by omega, by simp, .inl ⟨rfl, rfl⟩, Lie.nil _ _ _ _, Hrb.out, Hfb.out, Hbb.out, by rw [HH.out]; simp⟩
  case round =>
    obtain ⟨xs, k, a, t, A, cp, rfl, rfl, rfl, hk, hfine, ht0, ht1, ha0, ha1, hlast, hlie, hrun, hfbx, hbel, hrows⟩ := hrel
    obtain ⟨nl, hnl⟩ : ∃ nl, xs.length = nl := ⟨_, rfl⟩
    rw [hnl] at hlie hk ht1 ⊢
    have Hnl := Lib.hid hnl
    clear hnl
    simp only at hk ha1 hrows
    by_cases hlt : nl < n
    · obtain ⟨k', rfl⟩ : ∃ k', k = k' + 1 := ⟨k - 1, by omega⟩
      obtain ⟨⟨p, a1, o1⟩, h1⟩ : ∃ x, numP b a true 1099511627776 = x := ⟨_, rfl⟩
      obtain ⟨⟨q, a2, o2⟩, h2⟩ : ∃ x, numP b a1 o1 200 = x := ⟨_, rfl⟩
      obtain ⟨⟨v, a3, e3⟩, h3⟩ : ∃ x, getAt b a2 = x := ⟨_, rfl⟩
      have hx := row_num (t := t) h1 h2 h3
      have hp : p < 1099511627776 := by have := numP_lt (l := b) (a := a) (ok := true) (below := 1099511627776) (by decide); rw [h1] at this; exact this
      have hq : q < 200 := by have := numP_lt (l := b) (a := a1) (ok := o1) (below := 200) (by decide); rw [h2] at this; exact this
      have i1 := numP_in rfl h1 ha0 ha1
      have i2 := numP_in rfl h2 i1.1 i1.2
      have i3 := getAt_next b a2
      have hv := getAt_lt b a2
      rw [h3] at i3 hv
      simp only at i3 hv
      have C1 : ∀ ww, RunOf (B + 1) (S b) a true ww → Calls Try.prog 36 #[.pointer (some ⟨B + 1, 0, none⟩), .int .i64 1099511627776] ww fun e w' => e = .returned (.int .i64 p) ∧ RunOf (B + 1) (S b) a1 o1 w' ∧ But (B + 1) ww w' := fun ww hw => by
        have := number_any (B + 1) (S b) a true 1099511627776 ww hw hs6 (by omega)
        rw [Hl.out, h1] at this
        exact this
      have C2 : ∀ ww, RunOf (B + 1) (S b) a1 o1 ww → Calls Try.prog 36 #[.pointer (some ⟨B + 1, 0, none⟩), .int .i64 200] ww fun e w' => e = .returned (.int .i64 q) ∧ RunOf (B + 1) (S b) a2 o2 w' ∧ But (B + 1) ww w' := fun ww hw => by
        have := number_any (B + 1) (S b) a1 o1 200 ww hw hs6 (by omega)
        rw [Hl.out, h2] at this
        exact this
      have C3 : ∀ ww, Calls Try.prog 38 #[.string (S b), .int .i64 a2] ww fun e w' => e = .returned (.tuple #[.int .i64 (unfoldN v), .int .i64 a3, .int .i64 e3]) ∧ w' = ww := fun ww => by
        have := getInt_any (S b) a2 ww (by omega)
        unfold getIntAt at this
        rw [Hl.out, h3] at this
        exact this.mono fun e w' h => ⟨h.1, h.2.symm⟩
      clear h1 h2 h3
      have HC1 := Lib.hid C1
      have HC2 := Lib.hid C2
      have HC3 := Lib.hid C3
      have Hx := Lib.hid hx
      have Hlie := Lib.hid hlie
      have Hrun := Lib.hid hrun
      have Hfbx := Lib.hid hfbx
      have Hbel := Lib.hid hbel
      have Hrows := Lib.hid hrows
      have Hi := Lib.hid i3
      have Hlast := Lib.hid hlast
      have Hfine := Lib.hid hfine
      have Ht := Lib.hid (show 0 ≤ t + (p : Int) ∧ t + (p : Int) ≤ 1099511627776 * ((nl : Int) + 1 + 1) by omega)
      obtain ⟨t', ht'⟩ : ∃ t', t + (p : Int) = t' := ⟨_, rfl⟩
      rw [ht'] at Ht
      have htw : IntKind.i64.wrap (t + (p : Int)) = t' := by rw [IntKind.wrap_i64]; omega
      have Ht' := Lib.hid ht'
      have hvv : I64 (unfoldN v) := ⟨by have := unfoldN_lo hv; omega, by have := unfoldN_hi hv; omega⟩
      have Hvv := Lib.hid hvv
      clear C1 C2 C3 hx hlie hrun hfbx hbel hrows i1 i2 i3 hlast hfine ht' ht0 ht1 ha0 ha1 hp hq hv hvv Hrb Hfb Hbb Hwa Hwb HH
      go_wp2_with fail
      refine (HC1.out _ Hrun.out).mono ?_
      rintro e w3 ⟨rfl, hr3, hb3⟩
      have Hr3 := Lib.hid hr3
      have Hl3 := Lib.hid (but_lie Hlie.out hb3 (.inr (.inr rfl)))
      have Hf3 := Lib.hid (show FBox B ⟨F, T, n, b⟩ w3 from (hb3.block B (by omega)).trans Hfbx.out)
      have Hb3 := Lib.hid (Hbel.out.trans (hb3.below (by omega)))
      clear hr3 hb3
      go_wp2_with fail
      refine (HC2.out _ Hr3.out).mono ?_
      rintro e w4 ⟨rfl, hr4, hb4⟩
      have Hr4 := Lib.hid hr4
      have Hl4 := Lib.hid (but_lie Hl3.out hb4 (.inr (.inr rfl)))
      have Hf4 := Lib.hid (show FBox B ⟨F, T, n, b⟩ w4 from (hb4.block B (by omega)).trans Hf3.out)
      have Hb4 := Lib.hid (Hb3.out.trans (hb4.below (by omega)))
      obtain ⟨c0, c1, c2, z1, z2⟩ := hr4.cells
      clear hr4 hb4 HC1 HC2 Hlie Hrun Hfbx Hbel Hr3 Hl3 Hf3 Hb3
      go_wp2_with fail
      go_quiet ((go_at_call 38; exact Calls.quiet_of_same (HC3.out _)))
      have Hr5 := Lib.hid (show RunOf (B + 1) (S b) a2 o2 (w4.drewN nq) from Hr4.out)
      have Hl5 := Lib.hid (Hl4.out.below (below_drewN (Below.refl _ w4) nq))
      have Hf5 := Lib.hid (show FBox B ⟨F, T, n, b⟩ (w4.drewN nq) from Hf4.out)
      have Hb5 := Lib.hid (below_drewN Hb4.out nq)
      clear Hr4 Hl4 Hf4 Hb4 c0 c1 c2 z1 z2 HC3
      generalize w4.drewN nq = w5 at *
      have hBg : B + 1 < w5.heap.size := (Array.getElem?_eq_some_iff.1 Hr5.out).1
      have Hr6 := Lib.hid (Hr5.out.frame ((Below.one w5 (.cells #[.int .i64 t', .int .i64 q, .int .i64 (unfoldN v)] 36)).block (B + 1) hBg))
      have Hf6 := Lib.hid (show FBox B ⟨F, T, n, b⟩ (w5.alloc (.cells #[.int .i64 t', .int .i64 q, .int .i64 (unfoldN v)] 36)) from ((Below.one w5 (.cells #[.int .i64 t', .int .i64 q, .int .i64 (unfoldN v)] 36)).block B (by omega)).trans Hf5.out)
      have Hl6 := Lib.hid (Hl5.out.alloc (.cells #[.int .i64 t', .int .i64 q, .int .i64 (unfoldN v)] 36))
      have Hb6 := Lib.hid (Hb5.out.alloc (by omega) (.cells #[.int .i64 t', .int .i64 q, .int .i64 (unfoldN v)] 36))
      have hy : FBox w5.heap.size ⟨0, 0, 0, []⟩ w5 → True := fun _ => trivial
      have hrow : (w5.alloc (.cells #[.int .i64 t', .int .i64 q, .int .i64 (unfoldN v)] 36)).heap[w5.heap.size]? = some (.cells #[.int .i64 t', .int .i64 q, .int .i64 (unfoldN v)] 36 (0, 0)) := heap_alloc_new w5 _
      have Hrow := Lib.hid hrow
      clear hrow hy Hr5 Hl5 Hf5 Hb5
      go_wp2_with fail
      generalize w5.alloc (.cells #[.int .i64 t', .int .i64 q, .int .i64 (unfoldN v)] 36) = w6 at *
      generalize w5.heap.size = g at *
      obtain ⟨d0, d1, d2, y1, y2⟩ := Hr6.out.cells
      have r0 : w6.cell? ⟨g, 0, none⟩ = some (.int .i64 t') := (Lib.cell_of_heap Hrow.out 0).trans rfl
      have r1 : w6.cell? ⟨g, 1, none⟩ = some (.int .i64 q) := (Lib.cell_of_heap Hrow.out 1).trans rfl
      have r2 : w6.cell? ⟨g, 2, none⟩ = some (.int .i64 (unfoldN v)) := (Lib.cell_of_heap Hrow.out 2).trans rfl
      have hc : o2 = false ∨ (o2 = true ∧ e3 ≠ 0) ∨ (o2 = true ∧ e3 = 0) := by cases o2 <;> simp; omega
      rcases hc with rfl | ⟨rfl, he⟩ | ⟨rfl, he⟩
      · have HN := Lib.hid (show readR ⟨F, T, n, b⟩ = none by rw [Hre.out, rows_stop Hrows.out (by rw [Hx.out, if_neg (by simp)])]; rfl)
        go_quiet (fail)
        go_wp2_with fail
        go_ret2
        exact .inl ⟨HN.out, ⟨_, rfl⟩, below_drewN Hb6.out _⟩
      · have HN := Lib.hid (show readR ⟨F, T, n, b⟩ = none by rw [Hre.out, rows_stop Hrows.out (by rw [Hx.out, if_neg (fun h => he h.2)])]; rfl)
        obtain ⟨p1, p2⟩ := err_yes he
        clear he
        go_quiet (fail)
        go_wp2_with fail
        go_ret2
        exact .inl ⟨HN.out, ⟨_, rfl⟩, below_drewN Hb6.out _⟩
      · have hrx := Hx.out
        rw [if_pos ⟨rfl, he⟩] at hrx
        have Hnext := Lib.hid (rows_next Hrows.out hrx)
        obtain ⟨p1, p2⟩ := err_no he
        clear he hrx Hx
        by_cases h0 : nl = 0
        · have k1 : decide ((0 : Int) < (nl : Int)) = false := decide_eq_false (by omega)
          have k2 : decide (0 < nl) = false := decide_eq_false (by omega)
          clear h0
          go_quiet (fail)
          have hb7 := but_set (B + 1) 1 (w6.drewN nq) (.int .i64 a3)
          have Hr7 := Lib.hid (RunOf.at (a' := a3) (show RunOf (B + 1) (S b) a2 true (w6.drewN nq) from Hr6.out))
          have Hf7 := Lib.hid (show FBox B ⟨F, T, n, b⟩ ((w6.drewN nq).setCell ⟨B + 1, 1, none⟩ (.int .i64 a3)) from (hb7.block B (by omega)).trans Hf6.out)
          have Hl7 := Lib.hid (but_lie (Hl6.out.below (below_drewN (Below.refl _ w6) nq)) hb7 (.inr (.inr rfl)))
          have Hb7 := Lib.hid ((below_drewN Hb6.out nq).trans (hb7.below (by omega)))
          have Hrow7 := Lib.hid ((hb7.block g (by omega)).trans (show (w6.drewN nq).heap[g]? = _ from Hrow.out))
          have hold : Old (fun j => j < B ∨ j = B ∨ j = B + 1) ((w6.drewN nq).setCell ⟨B + 1, 1, none⟩ (.int .i64 a3)) := fun j hj => by have := (Array.getElem?_eq_some_iff.1 Hr7.out).1; omega
          have Hs7 := Lib.hid hb7.size
          clear hb7
          go_wp2_with (at_builtin; go_must (refine wpList_append_elem_row rfl (.tmp 75) (.tmp 77) 28 (by rfl) 36 (.agg #[.int .i64 0, .int .i64 0, .int .i64 0]) 3 24 Try.underlying28 rowInf rfl (by decide) _ nl _ _ ((w6.drewN nq).setCell ⟨B + 1, 1, none⟩ (.int .i64 a3)) #[.int .i64 t', .int .i64 q, .int .i64 (unfoldN v)] rfl (by intro u hu; simp at hu; rcases hu with rfl | rfl | rfl <;> rfl) Hl7.out (by rfl) hold (by rw [Hs7.out]; rfl) (by unfold maxLen; omega) (by omega) ?_); intro v8 w8 hown8 hst8 hgr8 hat8; have Hl8 := Lib.hid hown8; have Hr8 := Lib.hid (Hr7.out.frame (hst8.block (B + 1) (.inr (.inr rfl)))); have Hf8 := Lib.hid (show FBox B ⟨F, T, n, b⟩ w8 from (hst8.block B (.inr (.inl rfl))).trans Hf7.out); have Hb8 := Lib.hid (Hb7.out.trans (hst8.below fun k hk => .inl hk)); obtain ⟨A8, c8, rfl⟩ := hown8.form; clear hown8 hst8 hgr8 hat8)
          go_roundw
          case rel =>
            have hx0 : xs = [] := List.eq_nil_of_length_eq_zero (by have := Hnl.out; have := of_decide_eq_false k2; omega)
            subst hx0
            have h00 : nl = 0 := by have := Hnl.out; simp at this; omega
            subst h00
            rw [Ht'.out] at Hnext
            exact ⟨[⟨t', q, unfoldN v⟩], k', a3, t', A8, c8, rfl, rfl, by go_num, by simp only [List.length_singleton]; omega, rfl, Ht.out.1, by have := Ht.out.2; simp only [List.length_singleton]; omega, Hi.out.1, Hi.out.2, .inr ⟨[], _, rfl, rfl⟩, Hl8.out, Hr8.out, Hf8.out, Hb8.out, by have := Hnext.out; simpa using this⟩
          case measure => simp [intOf]; omega
        · have hnl := Hnl.out
          have hxl : nl - 1 < xs.length := by omega
          obtain ⟨hp, y, hxs, hyT⟩ : ∃ hp y, xs = hp ++ [y] ∧ y.T = t := by
            rcases Hlast.out with ⟨h, -⟩ | h
            · exfalso; rw [h] at hnl; simp at hnl; omega
            · exact h
          have hy : xs[nl - 1] = y := by
            subst hxs
            simp only [List.length_append, List.length_singleton] at hnl
            rw [List.getElem_append_right (by omega)]
            simp
          obtain ⟨gb, off, rfl, hgb, s0, s1, s2⟩ := row_at Hl6.out.rd hxl
          rw [hy] at s0 s1 s2
          have hn1 : 0 < nl := by omega
          have Hgl := Lib.hid (show g < w6.heap.size from (Array.getElem?_eq_some_iff.1 Hrow.out).1)
          have k1 : decide ((0 : Int) < (nl : Int)) = true := decide_eq_true (by omega)
          have k2 : decide (0 < nl) = true := decide_eq_true hn1
          have hq1 : (0 : Int) ≤ (nl : Int) - 1 := by omega
          have hq2 : (nl : Int) - 1 < nl := by omega
          have hq5 : (1 : Int) ≤ nl := by omega
          have hq3 : IntKind.i64.wrap ((nl : Int) - 1) = (nl : Int) - 1 := by rw [IntKind.wrap_i64]; omega
          have hq4 : ((nl : Int) - 1).toNat = nl - 1 := by omega
          have CB : ∀ ww, Calls Try.prog 26 #[rowVal ⟨t', q, unfoldN v⟩, rowVal y] ww fun e w' => e = .returned (.bool (behR ⟨t', q, unfoldN v⟩ y)) ∧ Below ww.heap.size ww w' := fun ww => behind_any _ _ ww
          have HCB := Lib.hid CB
          have Hxs := Lib.hid hxs
          have Hgb := Lib.hid hgb
          have HyT := Lib.hid hyT
          clear CB hxs hgb hyT hy hxl hnl h0
          cases hbe : behR ⟨t', q, unfoldN v⟩ y with
          | false =>
            have HN := Lib.hid (show readR ⟨F, T, n, b⟩ = none by rw [Hre.out]; refine rows_bad Hnext.out ?_; rw [Hxs.out, Ht'.out]; exact fineR_bad hbe)
            rw [hbe] at HCB
            clear hbe
            refine wp_region_held_drew (S := fun w' => w'.cell? ⟨B + 1, 2, none⟩ = some (.bool true) ∧ w'.cell? ⟨g, 0, none⟩ = some (.int .i64 t') ∧ w'.cell? ⟨g, 1, none⟩ = some (.int .i64 q) ∧ w'.cell? ⟨g, 2, none⟩ = some (.int .i64 (unfoldN v)) ∧ w'.cell? ⟨gb, off + (nl - 1) * 3, none⟩ = some (.int .i64 y.T) ∧ w'.cell? ⟨gb, off + (nl - 1) * 3 + 1, none⟩ = some (.int .i64 y.ID) ∧ w'.cell? ⟨gb, off + (nl - 1) * 3 + 2, none⟩ = some (.int .i64 y.V)) (by kernel_rfl) ?_ (fun hHeld => ?_)
            · exact ⟨d2, r0, r1, r2, s0, s1, s2⟩
            refine wpAnyH_take (i := 0) (oi := _) (v := ?_) (by simp only [List.getElem?_toArray, List.getElem?_cons_succ, List.getElem?_cons_zero]; rfl) (by kernel_rfl) (by kernel_rfl) (by kernel_rfl) (by exact fun _ _ _ h => h) (Or.inl ⟨by rfl, ?_⟩) (by assumption) ?_
            rotate_left
            · (intro w hSw; (try dsimp only at hSw); go_simp) <;> with_reducible rfl
            try simp only [Act.put, List.setIfInBounds_toArray, List.set_cons_zero, List.set_cons_succ]
            refine wpAnyH_take (i := 1) (oi := _) (v := ?_) (by simp only [List.getElem?_toArray, List.getElem?_cons_succ, List.getElem?_cons_zero]; rfl) (by kernel_rfl) (by kernel_rfl) (by kernel_rfl) (by exact fun _ _ _ h => h) (Or.inl ⟨by rfl, ?_⟩) (by assumption) ?_
            rotate_left
            · (intro w hSw; (try dsimp only at hSw); go_simp) <;> with_reducible rfl
            try simp only [Act.put, List.setIfInBounds_toArray, List.set_cons_zero, List.set_cons_succ]
            refine wpAnyH_take (i := 2) (oi := _) (v := ?_) (by simp only [List.getElem?_toArray, List.getElem?_cons_succ, List.getElem?_cons_zero]; rfl) (by kernel_rfl) (by kernel_rfl) (by kernel_rfl) (by exact fun _ _ _ h => h) (Or.inl ⟨by rfl, ?_⟩) (by assumption) ?_
            rotate_left
            · (intro w hSw; (try dsimp only at hSw); go_simp) <;> with_reducible rfl
            try simp only [Act.put, List.setIfInBounds_toArray, List.set_cons_zero, List.set_cons_succ]
            refine wpAnyH_take (i := 3) (oi := _) (v := ?_) (by simp only [List.getElem?_toArray, List.getElem?_cons_succ, List.getElem?_cons_zero]; rfl) (by kernel_rfl) (by kernel_rfl) (by kernel_rfl) (by exact fun _ _ _ h => h) (Or.inl ⟨by rfl, ?_⟩) (by assumption) ?_
            rotate_left
            · (intro w hSw; (try dsimp only at hSw); go_simp) <;> with_reducible rfl
            try simp only [Act.put, List.setIfInBounds_toArray, List.set_cons_zero, List.set_cons_succ]
            refine wpAnyH_take (i := 4) (oi := _) (v := ?_) (by simp only [List.getElem?_toArray, List.getElem?_cons_succ, List.getElem?_cons_zero]; rfl) (by kernel_rfl) (by kernel_rfl) (by kernel_rfl) (by exact fun _ _ _ h => h) (Or.inl ⟨by rfl, ?_⟩) (by assumption) ?_
            rotate_left
            · (intro w hSw; (try dsimp only at hSw); go_simp) <;> with_reducible rfl
            try simp only [Act.put, List.setIfInBounds_toArray, List.set_cons_zero, List.set_cons_succ]
            refine wpAnyH_take (i := 5) (oi := _) (v := ?_) (by simp only [List.getElem?_toArray, List.getElem?_cons_succ, List.getElem?_cons_zero]; rfl) (by kernel_rfl) (by kernel_rfl) (by kernel_rfl) (by exact fun _ _ _ h => h) (Or.inl ⟨by rfl, ?_⟩) (by assumption) ?_
            rotate_left
            · (intro w hSw; (try dsimp only at hSw); go_simp) <;> with_reducible rfl
            try simp only [Act.put, List.setIfInBounds_toArray, List.set_cons_zero, List.set_cons_succ]
            refine wpAnyH_take (i := 6) (oi := _) (v := ?_) (by simp only [List.getElem?_toArray, List.getElem?_cons_succ, List.getElem?_cons_zero]; rfl) (by kernel_rfl) (by kernel_rfl) (by kernel_rfl) (by exact fun _ _ _ h => h) (Or.inl ⟨by rfl, ?_⟩) (by assumption) ?_
            rotate_left
            · (intro w hSw; (try dsimp only at hSw); go_simp) <;> with_reducible rfl
            try simp only [Act.put, List.setIfInBounds_toArray, List.set_cons_zero, List.set_cons_succ]
            refine wpAnyH_take (i := 7) (oi := _) (v := ?_) (by simp only [List.getElem?_toArray, List.getElem?_cons_succ, List.getElem?_cons_zero]; rfl) (by kernel_rfl) (by kernel_rfl) (by kernel_rfl) (by exact fun _ _ _ h => h) (Or.inl ⟨by rfl, ?_⟩) (by assumption) ?_
            rotate_left
            · (intro w hSw; (try dsimp only at hSw); go_simp) <;> with_reducible rfl
            try simp only [Act.put, List.setIfInBounds_toArray, List.set_cons_zero, List.set_cons_succ]
            refine wpAnyH_take (i := 8) (oi := _) (v := ?_) (by simp only [List.getElem?_toArray, List.getElem?_cons_succ, List.getElem?_cons_zero]; rfl) (by kernel_rfl) (by kernel_rfl) (by kernel_rfl) (by exact fun _ _ _ h => h) (Or.inl ⟨by rfl, ?_⟩) (by assumption) ?_
            rotate_left
            · (intro w hSw; (try dsimp only at hSw); go_simp) <;> with_reducible rfl
            try simp only [Act.put, List.setIfInBounds_toArray, List.set_cons_zero, List.set_cons_succ]
            refine wpAnyH_take (i := 9) (oi := _) (v := ?_) (by simp only [List.getElem?_toArray, List.getElem?_cons_succ, List.getElem?_cons_zero]; rfl) (by kernel_rfl) (by kernel_rfl) (by kernel_rfl) (by exact fun _ _ _ h => h) (Or.inl ⟨by rfl, ?_⟩) (by assumption) ?_
            rotate_left
            · (intro w hSw; (try dsimp only at hSw); go_simp) <;> with_reducible rfl
            try simp only [Act.put, List.setIfInBounds_toArray, List.set_cons_zero, List.set_cons_succ]
            refine wpAnyH_take (i := 10) (oi := _) (v := ?_) (by simp only [List.getElem?_toArray, List.getElem?_cons_succ, List.getElem?_cons_zero]; rfl) (by kernel_rfl) (by kernel_rfl) (by kernel_rfl) (by exact fun _ _ _ h => h) (Or.inl ⟨by rfl, ?_⟩) (by assumption) ?_
            rotate_left
            · (intro w hSw; (try dsimp only at hSw); go_simp) <;> with_reducible rfl
            try simp only [Act.put, List.setIfInBounds_toArray, List.set_cons_zero, List.set_cons_succ]
            refine wpAnyH_take (i := 11) (oi := _) (v := ?_) (by simp only [List.getElem?_toArray, List.getElem?_cons_succ, List.getElem?_cons_zero]; rfl) (by kernel_rfl) (by kernel_rfl) (by kernel_rfl) (by exact fun _ _ _ h => h) (Or.inl ⟨by rfl, ?_⟩) (by assumption) ?_
            rotate_left
            · (intro w hSw; (try dsimp only at hSw); go_simp) <;> with_reducible rfl
            try simp only [Act.put, List.setIfInBounds_toArray, List.set_cons_zero, List.set_cons_succ]
            refine wpAnyH_take (i := 12) (oi := _) (v := ?_) (by simp only [List.getElem?_toArray, List.getElem?_cons_succ, List.getElem?_cons_zero]; rfl) (by kernel_rfl) (by kernel_rfl) (by kernel_rfl) (by exact fun _ _ _ h => h) (Or.inl ⟨by rfl, ?_⟩) (by assumption) ?_
            rotate_left
            · (intro w hSw; (try dsimp only at hSw); go_simp) <;> with_reducible rfl
            try simp only [Act.put, List.setIfInBounds_toArray, List.set_cons_zero, List.set_cons_succ]
            refine wpAnyH_take (i := 13) (oi := _) (v := ?_) (by simp only [List.getElem?_toArray, List.getElem?_cons_succ, List.getElem?_cons_zero]; rfl) (by kernel_rfl) (by kernel_rfl) (by kernel_rfl) (by exact fun _ _ _ h => h) (Or.inl ⟨by rfl, ?_⟩) (by assumption) ?_
            rotate_left
            · (intro w hSw; (try dsimp only at hSw); go_simp) <;> with_reducible rfl
            try simp only [Act.put, List.setIfInBounds_toArray, List.set_cons_zero, List.set_cons_succ]
            refine wpAnyH_take (i := 14) (oi := _) (v := ?_) (by simp only [List.getElem?_toArray, List.getElem?_cons_succ, List.getElem?_cons_zero]; rfl) (by kernel_rfl) (by kernel_rfl) (by kernel_rfl) (by exact fun _ _ _ h => h) (Or.inl ⟨by rfl, ?_⟩) (by assumption) ?_
            rotate_left
            · (intro w hSw; (try dsimp only at hSw); go_simp) <;> with_reducible rfl
            try simp only [Act.put, List.setIfInBounds_toArray, List.set_cons_zero, List.set_cons_succ]
            refine wpAnyH_take (i := 15) (oi := _) (v := ?_) (by simp only [List.getElem?_toArray, List.getElem?_cons_succ, List.getElem?_cons_zero]; rfl) (by kernel_rfl) (by kernel_rfl) (by kernel_rfl) (by exact fun _ _ _ h => h) (Or.inl ⟨by rfl, ?_⟩) (by assumption) ?_
            rotate_left
            · (intro w hSw; (try dsimp only at hSw); go_simp) <;> with_reducible rfl
            try simp only [Act.put, List.setIfInBounds_toArray, List.set_cons_zero, List.set_cons_succ]
            refine wpAnyH_take (i := 16) (oi := _) (v := ?_) (by simp only [List.getElem?_toArray, List.getElem?_cons_succ, List.getElem?_cons_zero]; rfl) (by kernel_rfl) (by kernel_rfl) (by kernel_rfl) (by exact fun _ _ _ h => h) (Or.inl ⟨by rfl, ?_⟩) (by assumption) ?_
            rotate_left
            · (intro w hSw; (try dsimp only at hSw); go_simp) <;> with_reducible rfl
            try simp only [Act.put, List.setIfInBounds_toArray, List.set_cons_zero, List.set_cons_succ]
            refine wpAnyH_take (i := 17) (oi := _) (v := ?_) (by simp only [List.getElem?_toArray, List.getElem?_cons_succ, List.getElem?_cons_zero]; rfl) (by kernel_rfl) (by kernel_rfl) (by kernel_rfl) (by exact fun _ _ _ h => h) (Or.inl ⟨by rfl, ?_⟩) (by assumption) ?_
            rotate_left
            · (intro w hSw; (try dsimp only at hSw); go_simp) <;> with_reducible rfl
            try simp only [Act.put, List.setIfInBounds_toArray, List.set_cons_zero, List.set_cons_succ]
            refine wpAnyH_take (i := 18) (oi := _) (v := ?_) (by simp only [List.getElem?_toArray, List.getElem?_cons_succ, List.getElem?_cons_zero]; rfl) (by kernel_rfl) (by kernel_rfl) (by kernel_rfl) (by exact fun _ _ _ h => h) (Or.inl ⟨by rfl, ?_⟩) (by assumption) ?_
            rotate_left
            · (intro w hSw; (try dsimp only at hSw); go_simp) <;> with_reducible rfl
            try simp only [Act.put, List.setIfInBounds_toArray, List.set_cons_zero, List.set_cons_succ]
            refine wpAnyH_take (i := 19) (oi := _) (v := ?_) (by simp only [List.getElem?_toArray, List.getElem?_cons_succ, List.getElem?_cons_zero]; rfl) (by kernel_rfl) (by kernel_rfl) (by kernel_rfl) (by exact fun _ _ _ h => h) (Or.inl ⟨by rfl, ?_⟩) (by assumption) ?_
            rotate_left
            · (intro w hSw; (try dsimp only at hSw); go_simp) <;> with_reducible rfl
            try simp only [Act.put, List.setIfInBounds_toArray, List.set_cons_zero, List.set_cons_succ]
            refine wpAnyH_take (i := 20) (oi := _) (v := ?_) (by simp only [List.getElem?_toArray, List.getElem?_cons_succ, List.getElem?_cons_zero]; rfl) (by kernel_rfl) (by kernel_rfl) (by kernel_rfl) (by exact fun _ _ _ h => h) (Or.inl ⟨by rfl, ?_⟩) (by assumption) ?_
            rotate_left
            · (intro w hSw; (try dsimp only at hSw); go_simp) <;> with_reducible rfl
            try simp only [Act.put, List.setIfInBounds_toArray, List.set_cons_zero, List.set_cons_succ]
            refine wpAnyH_ready (rs := [21]) (by kernel_rfl) (by simp) ?_
            refine AllReadyH.cons (o := _) (by simp only [List.getElem?_toArray, List.getElem?_cons_succ, List.getElem?_cons_zero]; rfl) (fun K hK => ?_) AllReadyH.nil
            go_simp
            refine (HCB.out _).mono ?_
            rintro e wx1 ⟨rfl, hx1⟩
            have Hx1 := Lib.hid hx1
            clear hx1
            go_wp2_with fail
            refine hK.out _ _ ?_ (fun hHeld => ?_)
            · exact ⟨keepc Hx1.out hHeld.1, keepc Hx1.out hHeld.2.1, keepc Hx1.out hHeld.2.2.1, keepc Hx1.out hHeld.2.2.2.1, keepc Hx1.out hHeld.2.2.2.2.1, keepc Hx1.out hHeld.2.2.2.2.2.1, keepc Hx1.out hHeld.2.2.2.2.2.2⟩
            clear hK K
            try simp only [Act.put, List.setIfInBounds_toArray, List.set_cons_zero, List.set_cons_succ]
            refine wpAnyH_take (i := 22) (oi := _) (v := ?_) (by simp only [List.getElem?_toArray, List.getElem?_cons_succ, List.getElem?_cons_zero]; rfl) (by kernel_rfl) (by kernel_rfl) (by kernel_rfl) (by exact fun _ _ _ h => h) (Or.inl ⟨by rfl, ?_⟩) (by assumption) ?_
            rotate_left
            · (intro w hSw; (try dsimp only at hSw); go_simp) <;> with_reducible rfl
            try simp only [Act.put, List.setIfInBounds_toArray, List.set_cons_zero, List.set_cons_succ]
            refine wpAnyH_take (i := 23) (oi := _) (v := ?_) (by simp only [List.getElem?_toArray, List.getElem?_cons_succ, List.getElem?_cons_zero]; rfl) (by kernel_rfl) (by kernel_rfl) (by kernel_rfl) (by exact fun _ _ _ h => h) (Or.inl ⟨by rfl, ?_⟩) (by assumption) ?_
            rotate_left
            · (intro w hSw; (try dsimp only at hSw); go_simp) <;> with_reducible rfl
            try simp only [Act.put, List.setIfInBounds_toArray, List.set_cons_zero, List.set_cons_succ]
            refine wpAnyH_take (i := 24) (oi := _) (v := ?_) (by simp only [List.getElem?_toArray, List.getElem?_cons_succ, List.getElem?_cons_zero]; rfl) (by kernel_rfl) (by kernel_rfl) (by kernel_rfl) (by exact fun _ _ _ h => h) (Or.inl ⟨by rfl, ?_⟩) (by assumption) ?_
            rotate_left
            · (intro w hSw; (try dsimp only at hSw); go_simp) <;> with_reducible rfl
            try simp only [Act.put, List.setIfInBounds_toArray, List.set_cons_zero, List.set_cons_succ]
            refine wpAnyH_done (by kernel_rfl) ?_ _
            go_wp2_with fail
            go_ret2
            exact .inl ⟨HN.out, ⟨_, rfl⟩, Hb6.out.trans (Hx1.out.drewl.mono (by have := Hgl.out; omega))⟩
          | true =>
            have HF := Lib.hid (show fineR (xs ++ [⟨t', q, unfoldN v⟩]) = true by refine fineR_snoc Hfine.out (.inr ?_); rw [Hxs.out]; rw [show rAt (hp ++ [y]) ((hp ++ [y]).length - 1) = y by simp [rAt]]; exact hbe)
            rw [hbe] at HCB
            clear hbe
            refine wp_region_held_drew (S := fun w' => w'.cell? ⟨B + 1, 2, none⟩ = some (.bool true) ∧ w'.cell? ⟨g, 0, none⟩ = some (.int .i64 t') ∧ w'.cell? ⟨g, 1, none⟩ = some (.int .i64 q) ∧ w'.cell? ⟨g, 2, none⟩ = some (.int .i64 (unfoldN v)) ∧ w'.cell? ⟨gb, off + (nl - 1) * 3, none⟩ = some (.int .i64 y.T) ∧ w'.cell? ⟨gb, off + (nl - 1) * 3 + 1, none⟩ = some (.int .i64 y.ID) ∧ w'.cell? ⟨gb, off + (nl - 1) * 3 + 2, none⟩ = some (.int .i64 y.V)) (by kernel_rfl) ?_ (fun hHeld => ?_)
            · exact ⟨d2, r0, r1, r2, s0, s1, s2⟩
            refine wpAnyH_take (i := 0) (oi := _) (v := ?_) (by simp only [List.getElem?_toArray, List.getElem?_cons_succ, List.getElem?_cons_zero]; rfl) (by kernel_rfl) (by kernel_rfl) (by kernel_rfl) (by exact fun _ _ _ h => h) (Or.inl ⟨by rfl, ?_⟩) (by assumption) ?_
            rotate_left
            · (intro w hSw; (try dsimp only at hSw); go_simp) <;> with_reducible rfl
            try simp only [Act.put, List.setIfInBounds_toArray, List.set_cons_zero, List.set_cons_succ]
            refine wpAnyH_take (i := 1) (oi := _) (v := ?_) (by simp only [List.getElem?_toArray, List.getElem?_cons_succ, List.getElem?_cons_zero]; rfl) (by kernel_rfl) (by kernel_rfl) (by kernel_rfl) (by exact fun _ _ _ h => h) (Or.inl ⟨by rfl, ?_⟩) (by assumption) ?_
            rotate_left
            · (intro w hSw; (try dsimp only at hSw); go_simp) <;> with_reducible rfl
            try simp only [Act.put, List.setIfInBounds_toArray, List.set_cons_zero, List.set_cons_succ]
            refine wpAnyH_take (i := 2) (oi := _) (v := ?_) (by simp only [List.getElem?_toArray, List.getElem?_cons_succ, List.getElem?_cons_zero]; rfl) (by kernel_rfl) (by kernel_rfl) (by kernel_rfl) (by exact fun _ _ _ h => h) (Or.inl ⟨by rfl, ?_⟩) (by assumption) ?_
            rotate_left
            · (intro w hSw; (try dsimp only at hSw); go_simp) <;> with_reducible rfl
            try simp only [Act.put, List.setIfInBounds_toArray, List.set_cons_zero, List.set_cons_succ]
            refine wpAnyH_take (i := 3) (oi := _) (v := ?_) (by simp only [List.getElem?_toArray, List.getElem?_cons_succ, List.getElem?_cons_zero]; rfl) (by kernel_rfl) (by kernel_rfl) (by kernel_rfl) (by exact fun _ _ _ h => h) (Or.inl ⟨by rfl, ?_⟩) (by assumption) ?_
            rotate_left
            · (intro w hSw; (try dsimp only at hSw); go_simp) <;> with_reducible rfl
            try simp only [Act.put, List.setIfInBounds_toArray, List.set_cons_zero, List.set_cons_succ]
            refine wpAnyH_take (i := 4) (oi := _) (v := ?_) (by simp only [List.getElem?_toArray, List.getElem?_cons_succ, List.getElem?_cons_zero]; rfl) (by kernel_rfl) (by kernel_rfl) (by kernel_rfl) (by exact fun _ _ _ h => h) (Or.inl ⟨by rfl, ?_⟩) (by assumption) ?_
            rotate_left
            · (intro w hSw; (try dsimp only at hSw); go_simp) <;> with_reducible rfl
            try simp only [Act.put, List.setIfInBounds_toArray, List.set_cons_zero, List.set_cons_succ]
            refine wpAnyH_take (i := 5) (oi := _) (v := ?_) (by simp only [List.getElem?_toArray, List.getElem?_cons_succ, List.getElem?_cons_zero]; rfl) (by kernel_rfl) (by kernel_rfl) (by kernel_rfl) (by exact fun _ _ _ h => h) (Or.inl ⟨by rfl, ?_⟩) (by assumption) ?_
            rotate_left
            · (intro w hSw; (try dsimp only at hSw); go_simp) <;> with_reducible rfl
            try simp only [Act.put, List.setIfInBounds_toArray, List.set_cons_zero, List.set_cons_succ]
            refine wpAnyH_take (i := 6) (oi := _) (v := ?_) (by simp only [List.getElem?_toArray, List.getElem?_cons_succ, List.getElem?_cons_zero]; rfl) (by kernel_rfl) (by kernel_rfl) (by kernel_rfl) (by exact fun _ _ _ h => h) (Or.inl ⟨by rfl, ?_⟩) (by assumption) ?_
            rotate_left
            · (intro w hSw; (try dsimp only at hSw); go_simp) <;> with_reducible rfl
            try simp only [Act.put, List.setIfInBounds_toArray, List.set_cons_zero, List.set_cons_succ]
            refine wpAnyH_take (i := 7) (oi := _) (v := ?_) (by simp only [List.getElem?_toArray, List.getElem?_cons_succ, List.getElem?_cons_zero]; rfl) (by kernel_rfl) (by kernel_rfl) (by kernel_rfl) (by exact fun _ _ _ h => h) (Or.inl ⟨by rfl, ?_⟩) (by assumption) ?_
            rotate_left
            · (intro w hSw; (try dsimp only at hSw); go_simp) <;> with_reducible rfl
            try simp only [Act.put, List.setIfInBounds_toArray, List.set_cons_zero, List.set_cons_succ]
            refine wpAnyH_take (i := 8) (oi := _) (v := ?_) (by simp only [List.getElem?_toArray, List.getElem?_cons_succ, List.getElem?_cons_zero]; rfl) (by kernel_rfl) (by kernel_rfl) (by kernel_rfl) (by exact fun _ _ _ h => h) (Or.inl ⟨by rfl, ?_⟩) (by assumption) ?_
            rotate_left
            · (intro w hSw; (try dsimp only at hSw); go_simp) <;> with_reducible rfl
            try simp only [Act.put, List.setIfInBounds_toArray, List.set_cons_zero, List.set_cons_succ]
            refine wpAnyH_take (i := 9) (oi := _) (v := ?_) (by simp only [List.getElem?_toArray, List.getElem?_cons_succ, List.getElem?_cons_zero]; rfl) (by kernel_rfl) (by kernel_rfl) (by kernel_rfl) (by exact fun _ _ _ h => h) (Or.inl ⟨by rfl, ?_⟩) (by assumption) ?_
            rotate_left
            · (intro w hSw; (try dsimp only at hSw); go_simp) <;> with_reducible rfl
            try simp only [Act.put, List.setIfInBounds_toArray, List.set_cons_zero, List.set_cons_succ]
            refine wpAnyH_take (i := 10) (oi := _) (v := ?_) (by simp only [List.getElem?_toArray, List.getElem?_cons_succ, List.getElem?_cons_zero]; rfl) (by kernel_rfl) (by kernel_rfl) (by kernel_rfl) (by exact fun _ _ _ h => h) (Or.inl ⟨by rfl, ?_⟩) (by assumption) ?_
            rotate_left
            · (intro w hSw; (try dsimp only at hSw); go_simp) <;> with_reducible rfl
            try simp only [Act.put, List.setIfInBounds_toArray, List.set_cons_zero, List.set_cons_succ]
            refine wpAnyH_take (i := 11) (oi := _) (v := ?_) (by simp only [List.getElem?_toArray, List.getElem?_cons_succ, List.getElem?_cons_zero]; rfl) (by kernel_rfl) (by kernel_rfl) (by kernel_rfl) (by exact fun _ _ _ h => h) (Or.inl ⟨by rfl, ?_⟩) (by assumption) ?_
            rotate_left
            · (intro w hSw; (try dsimp only at hSw); go_simp) <;> with_reducible rfl
            try simp only [Act.put, List.setIfInBounds_toArray, List.set_cons_zero, List.set_cons_succ]
            refine wpAnyH_take (i := 12) (oi := _) (v := ?_) (by simp only [List.getElem?_toArray, List.getElem?_cons_succ, List.getElem?_cons_zero]; rfl) (by kernel_rfl) (by kernel_rfl) (by kernel_rfl) (by exact fun _ _ _ h => h) (Or.inl ⟨by rfl, ?_⟩) (by assumption) ?_
            rotate_left
            · (intro w hSw; (try dsimp only at hSw); go_simp) <;> with_reducible rfl
            try simp only [Act.put, List.setIfInBounds_toArray, List.set_cons_zero, List.set_cons_succ]
            refine wpAnyH_take (i := 13) (oi := _) (v := ?_) (by simp only [List.getElem?_toArray, List.getElem?_cons_succ, List.getElem?_cons_zero]; rfl) (by kernel_rfl) (by kernel_rfl) (by kernel_rfl) (by exact fun _ _ _ h => h) (Or.inl ⟨by rfl, ?_⟩) (by assumption) ?_
            rotate_left
            · (intro w hSw; (try dsimp only at hSw); go_simp) <;> with_reducible rfl
            try simp only [Act.put, List.setIfInBounds_toArray, List.set_cons_zero, List.set_cons_succ]
            refine wpAnyH_take (i := 14) (oi := _) (v := ?_) (by simp only [List.getElem?_toArray, List.getElem?_cons_succ, List.getElem?_cons_zero]; rfl) (by kernel_rfl) (by kernel_rfl) (by kernel_rfl) (by exact fun _ _ _ h => h) (Or.inl ⟨by rfl, ?_⟩) (by assumption) ?_
            rotate_left
            · (intro w hSw; (try dsimp only at hSw); go_simp) <;> with_reducible rfl
            try simp only [Act.put, List.setIfInBounds_toArray, List.set_cons_zero, List.set_cons_succ]
            refine wpAnyH_take (i := 15) (oi := _) (v := ?_) (by simp only [List.getElem?_toArray, List.getElem?_cons_succ, List.getElem?_cons_zero]; rfl) (by kernel_rfl) (by kernel_rfl) (by kernel_rfl) (by exact fun _ _ _ h => h) (Or.inl ⟨by rfl, ?_⟩) (by assumption) ?_
            rotate_left
            · (intro w hSw; (try dsimp only at hSw); go_simp) <;> with_reducible rfl
            try simp only [Act.put, List.setIfInBounds_toArray, List.set_cons_zero, List.set_cons_succ]
            refine wpAnyH_take (i := 16) (oi := _) (v := ?_) (by simp only [List.getElem?_toArray, List.getElem?_cons_succ, List.getElem?_cons_zero]; rfl) (by kernel_rfl) (by kernel_rfl) (by kernel_rfl) (by exact fun _ _ _ h => h) (Or.inl ⟨by rfl, ?_⟩) (by assumption) ?_
            rotate_left
            · (intro w hSw; (try dsimp only at hSw); go_simp) <;> with_reducible rfl
            try simp only [Act.put, List.setIfInBounds_toArray, List.set_cons_zero, List.set_cons_succ]
            refine wpAnyH_take (i := 17) (oi := _) (v := ?_) (by simp only [List.getElem?_toArray, List.getElem?_cons_succ, List.getElem?_cons_zero]; rfl) (by kernel_rfl) (by kernel_rfl) (by kernel_rfl) (by exact fun _ _ _ h => h) (Or.inl ⟨by rfl, ?_⟩) (by assumption) ?_
            rotate_left
            · (intro w hSw; (try dsimp only at hSw); go_simp) <;> with_reducible rfl
            try simp only [Act.put, List.setIfInBounds_toArray, List.set_cons_zero, List.set_cons_succ]
            refine wpAnyH_take (i := 18) (oi := _) (v := ?_) (by simp only [List.getElem?_toArray, List.getElem?_cons_succ, List.getElem?_cons_zero]; rfl) (by kernel_rfl) (by kernel_rfl) (by kernel_rfl) (by exact fun _ _ _ h => h) (Or.inl ⟨by rfl, ?_⟩) (by assumption) ?_
            rotate_left
            · (intro w hSw; (try dsimp only at hSw); go_simp) <;> with_reducible rfl
            try simp only [Act.put, List.setIfInBounds_toArray, List.set_cons_zero, List.set_cons_succ]
            refine wpAnyH_take (i := 19) (oi := _) (v := ?_) (by simp only [List.getElem?_toArray, List.getElem?_cons_succ, List.getElem?_cons_zero]; rfl) (by kernel_rfl) (by kernel_rfl) (by kernel_rfl) (by exact fun _ _ _ h => h) (Or.inl ⟨by rfl, ?_⟩) (by assumption) ?_
            rotate_left
            · (intro w hSw; (try dsimp only at hSw); go_simp) <;> with_reducible rfl
            try simp only [Act.put, List.setIfInBounds_toArray, List.set_cons_zero, List.set_cons_succ]
            refine wpAnyH_take (i := 20) (oi := _) (v := ?_) (by simp only [List.getElem?_toArray, List.getElem?_cons_succ, List.getElem?_cons_zero]; rfl) (by kernel_rfl) (by kernel_rfl) (by kernel_rfl) (by exact fun _ _ _ h => h) (Or.inl ⟨by rfl, ?_⟩) (by assumption) ?_
            rotate_left
            · (intro w hSw; (try dsimp only at hSw); go_simp) <;> with_reducible rfl
            try simp only [Act.put, List.setIfInBounds_toArray, List.set_cons_zero, List.set_cons_succ]
            refine wpAnyH_ready (rs := [21]) (by kernel_rfl) (by simp) ?_
            refine AllReadyH.cons (o := _) (by simp only [List.getElem?_toArray, List.getElem?_cons_succ, List.getElem?_cons_zero]; rfl) (fun K hK => ?_) AllReadyH.nil
            go_simp
            refine (HCB.out _).mono ?_
            rintro e wx1 ⟨rfl, hx1⟩
            have Hx1 := Lib.hid hx1
            clear hx1
            go_wp2_with fail
            refine hK.out _ _ ?_ (fun hHeld => ?_)
            · exact ⟨keepc Hx1.out hHeld.1, keepc Hx1.out hHeld.2.1, keepc Hx1.out hHeld.2.2.1, keepc Hx1.out hHeld.2.2.2.1, keepc Hx1.out hHeld.2.2.2.2.1, keepc Hx1.out hHeld.2.2.2.2.2.1, keepc Hx1.out hHeld.2.2.2.2.2.2⟩
            clear hK K
            try simp only [Act.put, List.setIfInBounds_toArray, List.set_cons_zero, List.set_cons_succ]
            refine wpAnyH_take (i := 22) (oi := _) (v := ?_) (by simp only [List.getElem?_toArray, List.getElem?_cons_succ, List.getElem?_cons_zero]; rfl) (by kernel_rfl) (by kernel_rfl) (by kernel_rfl) (by exact fun _ _ _ h => h) (Or.inl ⟨by rfl, ?_⟩) (by assumption) ?_
            rotate_left
            · (intro w hSw; (try dsimp only at hSw); go_simp) <;> with_reducible rfl
            try simp only [Act.put, List.setIfInBounds_toArray, List.set_cons_zero, List.set_cons_succ]
            refine wpAnyH_take (i := 23) (oi := _) (v := ?_) (by simp only [List.getElem?_toArray, List.getElem?_cons_succ, List.getElem?_cons_zero]; rfl) (by kernel_rfl) (by kernel_rfl) (by kernel_rfl) (by exact fun _ _ _ h => h) (Or.inl ⟨by rfl, ?_⟩) (by assumption) ?_
            rotate_left
            · (intro w hSw; (try dsimp only at hSw); go_simp) <;> with_reducible rfl
            try simp only [Act.put, List.setIfInBounds_toArray, List.set_cons_zero, List.set_cons_succ]
            refine wpAnyH_take (i := 24) (oi := _) (v := ?_) (by simp only [List.getElem?_toArray, List.getElem?_cons_succ, List.getElem?_cons_zero]; rfl) (by kernel_rfl) (by kernel_rfl) (by kernel_rfl) (by exact fun _ _ _ h => h) (Or.inl ⟨by rfl, ?_⟩) (by assumption) ?_
            rotate_left
            · (intro w hSw; (try dsimp only at hSw); go_simp) <;> with_reducible rfl
            try simp only [Act.put, List.setIfInBounds_toArray, List.set_cons_zero, List.set_cons_succ]
            refine wpAnyH_done (by kernel_rfl) ?_ _
            have HX := Lib.hid (show Below w6.heap.size w6 wx1 from Hx1.out.drewl)
            have hb7 := but_set (B + 1) 1 wx1 (.int .i64 a3)
            have Hr7 := Lib.hid (RunOf.at (a' := a3) (show RunOf (B + 1) (S b) a2 true wx1 from Hr6.out.frame (HX.out.block (B + 1) (by have := Hgl.out; omega))))
            have Hf7 := Lib.hid (show FBox B ⟨F, T, n, b⟩ (wx1.setCell ⟨B + 1, 1, none⟩ (.int .i64 a3)) from ((hb7.block B (by omega)).trans (HX.out.block B (by have := Hgl.out; omega))).trans Hf6.out)
            have Hl7 := Lib.hid (but_lie (Hl6.out.below HX.out) hb7 (.inr (.inr rfl)))
            have Hb7 := Lib.hid ((Hb6.out.trans (HX.out.mono (by have := Hgl.out; omega))).trans (hb7.below (by omega)))
            have Hrow7 := Lib.hid ((hb7.block g (by omega)).trans ((HX.out.block g Hgl.out).trans Hrow.out))
            have hold : Old (fun j => j < B ∨ j = B ∨ j = B + 1) (wx1.setCell ⟨B + 1, 1, none⟩ (.int .i64 a3)) := fun j hj => by have := (Array.getElem?_eq_some_iff.1 Hr7.out).1; omega
            have Hs7 := Lib.hid hb7.size
            clear hb7
            have e0 := keepc HX.out r0
            have e1 := keepc HX.out r1
            have e2 := keepc HX.out r2
            obtain ⟨-, v1, -, v2, -⟩ := (show RunOf (B + 1) (S b) a2 true wx1 from Hr6.out.frame (HX.out.block (B + 1) (by have := Hgl.out; omega))).cells
            clear r0 r1 r2 s0 s1 s2 d0 d1 d2 y1 y2 hq1 hq2 hq3 hq4 hq5 Hx1 hHeld
            go_wp2_with (at_builtin; go_must (refine wpList_append_elem_row rfl (.tmp 75) (.tmp 77) 28 (by rfl) 36 (.agg #[.int .i64 0, .int .i64 0, .int .i64 0]) 3 24 Try.underlying28 rowInf rfl (by decide) _ nl _ _ (wx1.setCell ⟨B + 1, 1, none⟩ (.int .i64 a3)) #[.int .i64 t', .int .i64 q, .int .i64 (unfoldN v)] rfl (by intro u hu; simp at hu; rcases hu with rfl | rfl | rfl <;> rfl) Hl7.out (by rfl) hold (by rw [Hs7.out]; rfl) (by unfold maxLen; omega) (by omega) ?_); intro v8 w8 hown8 hst8 hgr8 hat8; have Hl8 := Lib.hid hown8; have Hr8 := Lib.hid (Hr7.out.frame (hst8.block (B + 1) (.inr (.inr rfl)))); have Hf8 := Lib.hid (show FBox B ⟨F, T, n, b⟩ w8 from (hst8.block B (.inr (.inl rfl))).trans Hf7.out); have Hb8 := Lib.hid (Hb7.out.trans (hst8.below fun k hk => .inl hk)); obtain ⟨A8, c8, rfl⟩ := hown8.form; clear hown8 hst8 hgr8 hat8)
            go_roundw
            case rel =>
              have hl1 : (xs ++ [(⟨t', q, unfoldN v⟩ : Row)]).length = nl + 1 := by rw [List.length_append, Hnl.out]; rfl
              have hf1 : (xs ++ [(⟨t', q, unfoldN v⟩ : Row)]).flatMap rowCells = xs.flatMap rowCells ++ #[Value.int .i64 t', .int .i64 q, .int .i64 (unfoldN v)].toList := by simp [rowCells]
              have hnx := Hnext.out
              rw [Ht'.out] at hnx
              refine ⟨xs ++ [⟨t', q, unfoldN v⟩], k', a3, t', A8, c8, by rw [hl1], rfl, by rw [hl1]; go_num, by rw [hl1]; simp only; omega, HF.out, Ht.out.1, by rw [hl1]; have := Ht.out.2; omega, Hi.out.1, Hi.out.2, .inr ⟨xs, _, rfl, rfl⟩, ?_, Hr8.out, Hf8.out, Hb8.out, hnx⟩
              rw [hl1, hf1]; exact Hl8.out
            case measure => simp [intOf]; omega
    · obtain rfl : k = 0 := by omega
      have hnn : nl = n := by omega
      subst hnn
      have hdone := rows_done hrows
      have hnl := Hnl.out
      have hx0 : 0 < xs.length := by omega
      obtain ⟨gb, off, rfl, hgb, s0, -, -⟩ := row_at hlie.rd hx0
      simp only [Nat.zero_mul, Nat.add_zero] at s0
      obtain ⟨z, hz⟩ : ∃ z, xs[0].T = z := ⟨_, rfl⟩
      rw [hz] at s0
      have hr0 : (rAt xs 0).T = z := by rw [rAt_get hx0, hz]
      have hrl : (rAt xs (nl - 1)).T = t := by
        rcases hlast with ⟨h, -⟩ | ⟨hp, y, h, hyT⟩
        · exfalso; rw [h] at hnl; simp at hnl; omega
        · rw [← hyT]; subst h
          simp only [List.length_append, List.length_singleton] at hnl
          unfold rAt
          rw [List.getD_eq_getElem?_getD, List.getElem?_append_right (by omega)]
          rw [show nl - 1 - hp.length = 0 by omega]
          rfl
      have hfin : readR ⟨F, T, nl, b⟩ = if a = b.length ∧ z = F ∧ t = T - 1 then some xs else none := by
        rw [Hre.out, hdone]
        simp only [readEnd, hr0, hrl, hfine, true_and]
      obtain ⟨c0, c1, -, -, -⟩ := hrun.cells
      obtain ⟨g0, g1⟩ := hfbx.cells
      have hTw : IntKind.i64.wrap (T - 1) = T - 1 := by have := Hf.out; rw [IntKind.wrap_i64]; omega
      have hs5 : ((S b).size : Int) = b.length := by rw [Hsz.out]
      have Hfin := Lib.hid hfin
      have Hlie := Lib.hid hlie
      have Hbel := Lib.hid hbel
      have hc : a ≠ b.length ∨ (a = b.length ∧ z ≠ F) ∨ (a = b.length ∧ z = F ∧ t ≠ T - 1) ∨ (a = b.length ∧ z = F ∧ t = T - 1) := by
        by_cases h1 : a = b.length
        · by_cases h2 : z = F
          · by_cases h3 : t = T - 1
            · exact .inr (.inr (.inr ⟨h1, h2, h3⟩))
            · exact .inr (.inr (.inl ⟨h1, h2, h3⟩))
          · exact .inr (.inl ⟨h1, h2⟩)
        · exact .inl h1
      have HQ : ∀ m n : Int, m ≠ n → (m == n) = false := fun m n h => beq_eq_false_iff_ne.2 h
      have hln : decide (nl < nl) = false := by simp
      have hx1 : (0 : Int) < nl := by omega
      have hx2 : 0 < nl := by omega
      clear hfin hlie hrun hfbx hbel hrows hdone hnl hr0 hrl hlast hfine ht0 ht1 ha0 ha1 Hre HH hx0 hz
      rcases hc with h1 | ⟨h1, h2⟩ | ⟨h1, h2, h3⟩ | ⟨h1, h2, h3⟩
      · have HN := Lib.hid (show readR ⟨F, T, nl, b⟩ = none by rw [Hfin.out, if_neg (fun h => h1 h.1)])
        have t1 := HQ _ _ (fun h : a = ((S b).size : Int) => h1 (h.trans hs5))
        clear h1 hs5 HQ
        go_wp2_with fail
        go_quiet (fail)
        go_wp2_with fail
        go_ret2
        exact .inl ⟨HN.out, ⟨_, rfl⟩, below_drewN Hbel.out _⟩
      · have HN := Lib.hid (show readR ⟨F, T, nl, b⟩ = none by rw [Hfin.out, if_neg (fun h => h2 h.2.1)])
        have t1 : (a == ((S b).size : Int)) = true := by rw [hs5]; exact beq_iff_eq.2 h1
        have t2 := HQ _ _ h2
        clear h1 h2 hs5 HQ
        go_wp2_with fail
        go_quiet (fail)
        go_wp2_with fail
        go_ret2
        exact .inl ⟨HN.out, ⟨_, rfl⟩, below_drewN Hbel.out _⟩
      · have HN := Lib.hid (show readR ⟨F, T, nl, b⟩ = none by rw [Hfin.out, if_neg (fun h => h3 h.2.2)])
        have t1 : (a == ((S b).size : Int)) = true := by rw [hs5]; exact beq_iff_eq.2 h1
        have t2 : (z == F) = true := beq_iff_eq.2 h2
        have t3 := HQ _ _ h3
        clear h1 h2 h3 hs5 HQ
        go_wp2_with fail
        go_quiet (fail)
        go_wp2_with fail
        go_ret2
        exact .inl ⟨HN.out, ⟨_, rfl⟩, below_drewN Hbel.out _⟩
      · have HN := Lib.hid (show readR ⟨F, T, nl, b⟩ = some xs by rw [Hfin.out, if_pos ⟨h1, h2, h3⟩])
        have t1 : (a == ((S b).size : Int)) = true := by rw [hs5]; exact beq_iff_eq.2 h1
        have t2 : (z == F) = true := beq_iff_eq.2 h2
        have t3 : (t == T - 1) = true := beq_iff_eq.2 h3
        have HE := Lib.hid (show xs.length = nl from Hnl.out)
        clear h1 h2 h3 hs5 HQ
        go_wp2_with fail
        go_quiet (fail)
        go_wp2_with fail
        go_ret2
        refine .inr ⟨xs, _, HN.out, rfl, ?_, by rw [HE.out]; exact f5, below_drewN Hbel.out _⟩
        rw [HE.out]
        exact (Hlie.out.below (below_drewN (Below.refl _ _) _)).shift fun j hj hp => Hlie.out.2 j hj (.inl hp)
end Go.Proofs.Ythmikefinibecaa
