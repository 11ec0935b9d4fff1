/-
  The document's fences of runs.
-/
import Derived.Test.YthmikefinibecaaRunFen1
import Derived.Test.YthmikefinibecaaTri
namespace Go.Proofs.Ythmikefinibecaa
open Go Go.RowKit

def rngC (f : Fen) : List Value := [.int .i64 f.F, .int .i64 f.T]
theorem rngC_length (f : Fen) : (rngC f).length = 2 := rfl
def txtC (f : Fen) : List Value := [.string (S f.b)]
theorem txtC_length (f : Fen) : (txtC f).length = 1 := rfl
def cntC (f : Fen) : List Value := [.int .i64 f.n]
theorem cntC_length (f : Fen) : (cntC f).length = 1 := rfl
def hrngC (h : Int × Int × Nat × Nat) : List Value := [.int .i64 h.1, .int .i64 h.2.1]
theorem hrngC_length (h : Int × Int × Nat × Nat) : (hrngC h).length = 2 := rfl
def hcntC (h : Int × Int × Nat × Nat) : List Value := [.int .i64 h.2.2.1]
theorem cut_rng : ∀ (hs : List (Int × Int × Nat × Nat)) (t : List UInt8), (cutR hs t).flatMap rngC = hs.flatMap hrngC := by
  intro hs
  induction hs with
  | nil => intro t; rfl
  | cons h hs ih => intro t; simp [cutR, ih, rngC, hrngC]
theorem cut_cnt : ∀ (hs : List (Int × Int × Nat × Nat)) (t : List UInt8), (cutR hs t).flatMap cntC = hs.flatMap hcntC := by
  intro hs
  induction hs with
  | nil => intro t; rfl
  | cons h hs ih => intro t; simp [cutR, ih, cntC, hcntC]
theorem cut_get : ∀ (i : Nat) (hs : List (Int × Int × Nat × Nat)) (t : List UInt8) (h : i < hs.length) (h' : i < (cutR hs t).length), (cutR hs t)[i].b = (t.drop (sumR (hs.take i))).take hs[i].2.2.2 := by
  intro i
  induction i with
  | zero =>
    intro hs t h h'
    cases hs with
    | nil => simp at h
    | cons x hs => simp [cutR, sumR]
  | succ i ih =>
    intro hs t h h'
    cases hs with
    | nil => simp at h
    | cons x hs =>
      simp only [cutR, List.getElem_cons_succ]
      rw [ih hs _ (by simpa using h) (by simpa [cutR] using h'), List.drop_drop]
      congr 2
theorem txt_next {hs : List (Int × Int × Nat × Nat)} {t : List UInt8} {i : Nat} (h : i < hs.length) : ((cutR hs t).take (i + 1)).flatMap txtC = ((cutR hs t).take i).flatMap txtC ++ [.string (S ((t.drop (sumR (hs.take i))).take hs[i].2.2.2))] := by
  have h' : i < (cutR hs t).length := by rw [cutR_length]; exact h
  rw [show (cutR hs t).take (i + 1) = (cutR hs t).take i ++ [(cutR hs t)[i]] by rw [List.take_append_getElem], List.flatMap_append]
  simp [txtC, cut_get i hs t h h']
theorem rngInf : (Try.prog.info? 23).map (fun i => (i.zero, i.size, i.bytes)) = some (some (.agg #[.int .i64 0, .int .i64 0]), 2, 16) := by kernel_rfl
theorem strInf : (Try.prog.info? 9).map (fun i => (i.zero, i.size, i.bytes)) = some (some (.string ⟨#[]⟩), 1, 16) := by kernel_rfl
theorem head_at {l : List UInt8} {a a1 a2 a3 : Int} {f m b e1 e2 e3 : Nat} (h1 : getAt l a = (f, a1, e1)) (h2 : getAt l a1 = (m, a2, e2)) (h3 : getAt l a2 = (b, a3, e3)) :
    headR l a = if e1 = 0 ∧ e2 = 0 ∧ e3 = 0 ∧ f < 1099511627776 ∧ m < 1099511627776 ∧ f + m < 1099511627776 ∧ b ≤ l.length then some (f, m, b, a3) else none := by
  unfold headR
  simp only [h1, h2, h3]

/-- what the document's fences answers -/
def RFenPost (s : ByteArray) (B : Nat) (w : World) (e : Ending) (w' : World) : Prop :=
  (fencesR s.data.toList = none ∧ e = .returned (.tuple #[.slice none 0 0, .slice none 0 0, .slice none 0 0, .bool false]) ∧ Below B w w') ∨
    ∃ fs v t q, fencesR s.data.toList = some fs ∧ e = .returned (.tuple #[v, t, q, .bool true]) ∧ Lie (fun k => k < B) 23 2 v fs.length (fs.flatMap rngC) w' ∧ Lie (fun k => k < B) 9 1 t fs.length (fs.flatMap txtC) w' ∧ Lie (fun k => k < B) 3 1 q fs.length (fs.flatMap cntC) w' ∧ fs.length ≤ 400 ∧ Below B w w'

def RFenRel (B : Nat) (s : ByteArray) (H : Option (List (Int × Int × Nat × Nat) × Int)) (w : World) (tv lv sv cv av zv : Value) (wr : World) : Prop :=
  ∃ (hs : List (Int × Int × Nat × Nat)) (k : Nat) (a z last : Int) (A1 A2 A3 : Option Addr) (c1 c2 c3 : Nat), tv = .int .i64 a ∧ lv = .slice A1 hs.length c1 ∧ sv = .slice A2 hs.length c2 ∧ cv = .slice A3 hs.length c3 ∧ av = .int .i64 (sumR hs : Nat) ∧ zv = .int .i64 z ∧
    z ≤ 5000 ∧ -16 < z ∧ (hs.length : Int) * 16 + z ≤ 5016 ∧ k = (z.toNat + 15) / 16 ∧ 0 ≤ last ∧ last < 1099511627776 ∧ sumR hs ≤ hs.length * 1000000 ∧ 0 ≤ a ∧ a ≤ s.size ∧ (hs = [] ∧ last = 0 ∨ ∃ hp x, hs = hp ++ [x] ∧ x.2.1 = last + 1) ∧
    Tri (fun j => j < B) 23 2 (.slice A1 hs.length c1) hs.length (hs.flatMap hrngC) 3 1 (.slice A2 hs.length c2) hs.length (hs.flatMap sizCells) 3 1 (.slice A3 hs.length c3) hs.length (hs.flatMap hcntC) wr ∧ Below B w wr ∧
    (headsR s.data.toList k z.toNat a last).map (fun r => (hs ++ r.1, r.2)) = H

theorem results_tmp4 {fn : Func} {t u v x : Tmp} (h : fn.results = #[.tmp t, .tmp u, .tmp v, .tmp x]) (tmps : Array Value) (P : Program) (w : World) :
    (results fn tmps).run P w = .ok (.tuple #[tmps.getD t undef, tmps.getD u undef, tmps.getD v undef, tmps.getD x undef]) w := by
  simp [results, h]

set_option linter.unusedSimpArgs false in
set_option maxRecDepth 100000 in
set_option maxHeartbeats 4000000 in
theorem rfences_at (s : ByteArray) (B : Nat) (w : World) (hB : w.heap.size = B) (hs : s.size ≤ 1000000) : Calls Try.prog 20 #[.string s] w (RFenPost s B w) := by
  have G0 := fun w => rgetUint_any s 0 w (by omega)
  obtain ⟨g0, hg0⟩ : ∃ g, getAt s.data.toList 0 = g := ⟨_, rfl⟩
  have hn0 := getAt_next s.data.toList 0
  have hN0 := getAt_lt s.data.toList 0
  rw [hg0, ← Lib.size_eq] at hn0
  rw [hg0] at hN0
  simp only [hg0] at G0
  obtain ⟨n, a0, e0⟩ := g0
  simp only at G0 hn0 hN0
  have HG0 := Lib.hid G0
  have HB := Lib.hid hB
  clear G0 hB
  have hc : e0 ≠ 0 ∨ (e0 = 0 ∧ 5000 < n) ∨ (e0 = 0 ∧ n ≤ 5000) := by omega
  have hfe : fencesR s.data.toList = if e0 ≠ 0 ∨ 5000 < n then none else fenEnd s.data.toList true (headsR s.data.toList ((n + 15) / 16) n a0 0) := by
    unfold fencesR fenEnd
    simp only [hg0]
    split
    · rfl
    · cases headsR s.data.toList ((n + 15) / 16) n a0 0 <;> rfl
  have Hfe := Lib.hid hfe
  clear hfe hg0
  rcases hc with h | ⟨h, h'⟩ | ⟨h, h'⟩
  · have HN := Lib.hid (show fencesR s.data.toList = none by rw [Hfe.out, if_pos (.inl h)])
    obtain ⟨k1, k2⟩ := err_yes h
    clear h
    go_enter Try.func20, Try.ntmps20
    go_wp2_with fail
    refine (HG0.out _).mono ?_
    rintro e w1 ⟨rfl, hb1⟩
    have Hb1 := Lib.hid (hb1.mono (Nat.le_of_eq HB.out.symm))
    clear hb1
    go_wp2_with fail
    ((try simp only [Exit.inBlock, Exit.then]); refine bodyPost_ret (results_tmp4 rfl _ _ _) rfl ?_)
    exact .inl ⟨HN.out, rfl, Hb1.out⟩
  · have HN := Lib.hid (show fencesR s.data.toList = none by rw [Hfe.out, if_pos (.inr h')])
    obtain ⟨k1, k2⟩ := err_no h
    have k3 : decide ((5000 : Int) < (n : Int)) = true := decide_eq_true (by omega)
    clear h h'
    go_enter Try.func20, Try.ntmps20
    go_wp2_with fail
    refine (HG0.out _).mono ?_
    rintro e w1 ⟨rfl, hb1⟩
    have Hb1 := Lib.hid (hb1.mono (Nat.le_of_eq HB.out.symm))
    clear hb1
    go_wp2_with fail
    ((try simp only [Exit.inBlock, Exit.then]); refine bodyPost_ret (results_tmp4 rfl _ _ _) rfl ?_)
    exact .inl ⟨HN.out, rfl, Hb1.out⟩
  · obtain ⟨H, hH⟩ : ∃ H, headsR s.data.toList ((n + 15) / 16) n a0 0 = H := ⟨_, rfl⟩
    have hfe := Hfe.out
    rw [if_neg (by omega), hH] at hfe
    have Hfe := Lib.hid hfe
    have HH := Lib.hid hH
    obtain ⟨k1, k2⟩ := err_no h
    have k3 : decide ((5000 : Int) < (n : Int)) = false := decide_eq_false (by omega)
    have hnw : IntKind.i64.wrap (n : Int) = n := by rw [IntKind.wrap_i64]; omega
    clear h hH hfe hN0
    go_enter Try.func20, Try.ntmps20
    go_wp2_with fail
    refine (HG0.out _).mono ?_
    rintro e w1 ⟨rfl, hb1⟩
    have Hb1 := Lib.hid (hb1.mono (Nat.le_of_eq HB.out.symm))
    have hsz1 : B ≤ w1.heap.size := by have := hb1.size; have := HB.out; omega
    clear hb1 HG0
    have HT := Lib.hid (Tri.made (fun j => j < B) 23 3 3 2 1 1 w1.heap.size w1 rfl (fun j hj => Nat.lt_of_lt_of_le hj hsz1))
    have HB1 := Lib.hid (((Hb1.out.alloc hsz1 (.cells #[] 23)).alloc (by simp; omega) (.cells #[] 3)).alloc (by simp; omega) (.cells #[] 3))
    go_wp2_with fail
    generalize ((w1.alloc (.cells #[] 23)).alloc (.cells #[] 3)).alloc (.cells #[] 3) = w2 at *
    generalize w1.heap.size = g1 at *
    go_loopw [7, 9, 10, 11, 12, 13] (fun tv lv sv cv av zv wr => RFenRel B s H w tv lv sv cv av zv wr) (fun _ _ _ _ _ zv _ => (intOf zv).toNat)
    case atStart => exact ⟨[], (n + 15) / 16, a0, n, 0, _, _, _, 0, 0, 0, rfl, rfl, rfl, rfl, rfl, rfl, by omega, by omega, by simp; omega, by simp, by omega, by omega, by simp [sumR], hn0.1, hn0.2, .inl ⟨rfl, rfl⟩, HT.out, HB1.out, by rw [Int.toNat_natCast, HH.out]; simp⟩
    case round =>
      obtain ⟨hd, k, a, z, last, A1, A2, A3, c1, c2, c3, rfl, rfl, rfl, rfl, rfl, rfl, hz1, hz2, hz3, hk, hl0, hl1, hsm, ha1, ha2, hlast, htri, hbel, hheads⟩ := hrel
      obtain ⟨nl, hnl⟩ : ∃ nl, hd.length = nl := ⟨_, rfl⟩
      rw [hnl] at htri hz3 hsm ⊢
      have Hnl := Lib.hid hnl
      clear hnl
      by_cases hlt : 0 < z
      · obtain ⟨k', rfl⟩ : ∃ k', k = k' + 1 := ⟨k - 1, by omega⟩
        have G1 := fun w => rgetUint_any s a w (by omega)
        obtain ⟨g1', hg1⟩ : ∃ g, getAt s.data.toList a = g := ⟨_, rfl⟩
        have hn1 := getAt_next s.data.toList a
        have hN1 := getAt_lt s.data.toList a
        rw [hg1, ← Lib.size_eq] at hn1
        rw [hg1] at hN1
        simp only [hg1] at G1
        obtain ⟨f, a1, e1⟩ := g1'
        simp only at G1 hn1 hN1
        have G2 := fun w => rgetUint_any s a1 w (by omega)
        obtain ⟨g2', hg2⟩ : ∃ g, getAt s.data.toList a1 = g := ⟨_, rfl⟩
        have hn2 := getAt_next s.data.toList a1
        have hN2 := getAt_lt s.data.toList a1
        rw [hg2, ← Lib.size_eq] at hn2
        rw [hg2] at hN2
        simp only [hg2] at G2
        obtain ⟨m, a2, e2⟩ := g2'
        simp only at G2 hn2 hN2
        have G3 := fun w => rgetUint_any s a2 w (by omega)
        obtain ⟨g3', hg3⟩ : ∃ g, getAt s.data.toList a2 = g := ⟨_, rfl⟩
        have hn3 := getAt_next s.data.toList a2
        have hN3 := getAt_lt s.data.toList a2
        rw [hg3, ← Lib.size_eq] at hn3
        rw [hg3] at hN3
        simp only [hg3] at G3
        obtain ⟨b, a3, e3⟩ := g3'
        simp only at G3 hn3 hN3
        have hx := head_at hg1 hg2 hg3
        rw [← Lib.size_eq] at hx
        have Hx := Lib.hid hx
        have HG1 := Lib.hid G1
        have HG2 := Lib.hid G2
        have HG3 := Lib.hid G3
        have Htri := Lib.hid htri
        have Hbel := Lib.hid hbel
        have Hheads := Lib.hid hheads
        have Hi := Lib.hid hn3
        have Hk := Lib.hid hk
        have Hl := Lib.hid (And.intro hl0 hl1)
        have Hsm := Lib.hid hsm
        have Hlast := Lib.hid hlast
        have hsl : IntKind.u64.wrap (s.size : Int) = s.size := by rw [IntKind.wrap_u64]; omega
        clear G1 G2 G3 hg1 hg2 hg3 hx htri hbel hheads hn1 hn2 hn3 hk hl0 hl1 hsm hlast HT HB1 ha1 ha2
        have hc : e1 ≠ 0 ∨ (e1 = 0 ∧ e2 ≠ 0) ∨ (e1 = 0 ∧ e2 = 0 ∧ e3 ≠ 0) ∨ (e1 = 0 ∧ e2 = 0 ∧ e3 = 0 ∧ 1099511627776 ≤ f) ∨ (e1 = 0 ∧ e2 = 0 ∧ e3 = 0 ∧ f < 1099511627776 ∧ 1099511627776 ≤ m) ∨ (e1 = 0 ∧ e2 = 0 ∧ e3 = 0 ∧ f < 1099511627776 ∧ m < 1099511627776 ∧ 1099511627776 ≤ f + m) ∨
            (e1 = 0 ∧ e2 = 0 ∧ e3 = 0 ∧ f < 1099511627776 ∧ m < 1099511627776 ∧ f + m < 1099511627776 ∧ s.size < b) ∨ (e1 = 0 ∧ e2 = 0 ∧ e3 = 0 ∧ f < 1099511627776 ∧ m < 1099511627776 ∧ f + m < 1099511627776 ∧ b ≤ s.size) := by omega
        have hstop : ¬ (e1 = 0 ∧ e2 = 0 ∧ e3 = 0 ∧ f < 1099511627776 ∧ m < 1099511627776 ∧ f + m < 1099511627776 ∧ b ≤ s.size) → fencesR s.data.toList = none := fun h => by
          rw [Hfe.out, heads_stop Hheads.out (by rw [Hx.out, if_neg h])]; exact fenEnd_none _ _
        have Hstop := Lib.hid hstop
        clear hstop
        obtain ⟨g, hg⟩ : ∃ g : Int, (f : Int) + m = g := ⟨_, rfl⟩
        have Hg := Lib.hid hg
        go_wp2_with fail
        refine (HG1.out _).mono ?_
        rintro e w3 ⟨rfl, hb3⟩
        have Ht3 := Lib.hid (Htri.out.below hb3)
        have Hb3 := Lib.hid (Hbel.out.trans (hb3.mono (by have := Hbel.out.size; have := HB.out; omega)))
        clear hb3
        go_wp2_with fail
        refine (HG2.out _).mono ?_
        rintro e w4 ⟨rfl, hb4⟩
        have Ht4 := Lib.hid (Ht3.out.below hb4)
        have Hb4 := Lib.hid (Hb3.out.trans (hb4.mono (by have := Hb3.out.size; have := HB.out; omega)))
        clear hb4
        go_wp2_with fail
        refine (HG3.out _).mono ?_
        rintro e w5 ⟨rfl, hb5⟩
        have Ht5 := Lib.hid (Ht4.out.below hb5)
        have Hb5 := Lib.hid (Hb4.out.trans (hb5.mono (by have := Hb4.out.size; have := HB.out; omega)))
        clear hb5 Htri Ht3 Ht4 Hb3 Hb4 Hbel HG1 HG2 HG3 hg
        rcases hc with h1 | ⟨h1, h2⟩ | ⟨h1, h2, h3⟩ | ⟨h1, h2, h3, h4⟩ | ⟨h1, h2, h3, h4, h5⟩ | ⟨h1, h2, h3, h4, h5, h6⟩ | ⟨h1, h2, h3, h4, h5, h6, h7⟩ | ⟨h1, h2, h3, h4, h5, h6, h7⟩
        · have HN := Lib.hid (Hstop.out (by omega))
          obtain ⟨p1, q1⟩ := err_yes h1
          clear h1
          go_wp2_with fail
          ((try simp only [Exit.inBlock, Exit.then]); refine bodyPost_ret (results_tmp4 rfl _ _ _) rfl ?_)
          exact .inl ⟨HN.out, rfl, Hb5.out⟩
        · have HN := Lib.hid (Hstop.out (by omega))
          obtain ⟨p1, q1⟩ := err_no h1
          obtain ⟨p2, q2⟩ := err_yes h2
          clear h1 h2
          go_wp2_with fail
          ((try simp only [Exit.inBlock, Exit.then]); refine bodyPost_ret (results_tmp4 rfl _ _ _) rfl ?_)
          exact .inl ⟨HN.out, rfl, Hb5.out⟩
        · have HN := Lib.hid (Hstop.out (by omega))
          obtain ⟨p1, q1⟩ := err_no h1
          obtain ⟨p2, q2⟩ := err_no h2
          obtain ⟨p3, q3⟩ := err_yes h3
          clear h1 h2 h3
          go_wp2_with fail
          ((try simp only [Exit.inBlock, Exit.then]); refine bodyPost_ret (results_tmp4 rfl _ _ _) rfl ?_)
          exact .inl ⟨HN.out, rfl, Hb5.out⟩
        · have HN := Lib.hid (Hstop.out (by omega))
          obtain ⟨p1, q1⟩ := err_no h1
          obtain ⟨p2, q2⟩ := err_no h2
          obtain ⟨p3, q3⟩ := err_no h3
          have p4 : decide ((1099511627776 : Int) ≤ (f : Int)) = true := decide_eq_true (by omega)
          clear h1 h2 h3 h4
          go_wp2_with fail
          ((try simp only [Exit.inBlock, Exit.then]); refine bodyPost_ret (results_tmp4 rfl _ _ _) rfl ?_)
          exact .inl ⟨HN.out, rfl, Hb5.out⟩
        · have HN := Lib.hid (Hstop.out (by omega))
          obtain ⟨p1, q1⟩ := err_no h1
          obtain ⟨p2, q2⟩ := err_no h2
          obtain ⟨p3, q3⟩ := err_no h3
          have p4 : decide ((1099511627776 : Int) ≤ (f : Int)) = false := decide_eq_false (by omega)
          have p5 : decide ((1099511627776 : Int) ≤ (m : Int)) = true := decide_eq_true (by omega)
          clear h1 h2 h3 h4 h5
          go_wp2_with fail
          ((try simp only [Exit.inBlock, Exit.then]); refine bodyPost_ret (results_tmp4 rfl _ _ _) rfl ?_)
          exact .inl ⟨HN.out, rfl, Hb5.out⟩
        · have HN := Lib.hid (Hstop.out (by omega))
          obtain ⟨p1, q1⟩ := err_no h1
          obtain ⟨p2, q2⟩ := err_no h2
          obtain ⟨p3, q3⟩ := err_no h3
          have p4 : decide ((1099511627776 : Int) ≤ (f : Int)) = false := decide_eq_false (by omega)
          have p5 : decide ((1099511627776 : Int) ≤ (m : Int)) = false := decide_eq_false (by omega)
          have p0 : IntKind.u64.wrap ((f : Int) + (m : Int)) = g := by rw [IntKind.wrap_u64]; have := Hg.out; omega
          have p6 : decide ((1099511627776 : Int) ≤ g) = true := decide_eq_true (by have := Hg.out; omega)
          clear h1 h2 h3 h4 h5 h6
          go_wp2_with fail
          ((try simp only [Exit.inBlock, Exit.then]); refine bodyPost_ret (results_tmp4 rfl _ _ _) rfl ?_)
          exact .inl ⟨HN.out, rfl, Hb5.out⟩
        · have HN := Lib.hid (Hstop.out (by omega))
          obtain ⟨p1, q1⟩ := err_no h1
          obtain ⟨p2, q2⟩ := err_no h2
          obtain ⟨p3, q3⟩ := err_no h3
          have p4 : decide ((1099511627776 : Int) ≤ (f : Int)) = false := decide_eq_false (by omega)
          have p5 : decide ((1099511627776 : Int) ≤ (m : Int)) = false := decide_eq_false (by omega)
          have p0 : IntKind.u64.wrap ((f : Int) + (m : Int)) = g := by rw [IntKind.wrap_u64]; have := Hg.out; omega
          have p6 : decide ((1099511627776 : Int) ≤ g) = false := decide_eq_false (by have := Hg.out; omega)
          have p7 : decide ((s.size : Int) < (b : Int)) = true := decide_eq_true (by omega)
          have p8 : decide (s.size < b) = true := decide_eq_true h7
          clear h1 h2 h3 h4 h5 h6
          go_wp2_with fail
          ((try simp only [Exit.inBlock, Exit.then]); refine bodyPost_ret (results_tmp4 rfl _ _ _) rfl ?_)
          exact .inl ⟨HN.out, rfl, Hb5.out⟩
        · have hy := Hx.out
          rw [if_pos (by omega)] at hy
          obtain ⟨p1, q1⟩ := err_no h1
          obtain ⟨p2, q2⟩ := err_no h2
          obtain ⟨p3, q3⟩ := err_no h3
          have p4 : decide ((1099511627776 : Int) ≤ (f : Int)) = false := decide_eq_false (by omega)
          have p5 : decide ((1099511627776 : Int) ≤ (m : Int)) = false := decide_eq_false (by omega)
          have p0 : IntKind.u64.wrap ((f : Int) + (m : Int)) = g := by rw [IntKind.wrap_u64]; have := Hg.out; omega
          have p6 : decide ((1099511627776 : Int) ≤ g) = false := decide_eq_false (by have := Hg.out; omega)
          have p7 : decide ((s.size : Int) < (b : Int)) = false := decide_eq_false (by omega)
          have p8 : decide (s.size < b) = false := decide_eq_false (by omega)
          have hfw : IntKind.i64.wrap (f : Int) = f := by rw [IntKind.wrap_i64]; omega
          have hgw : IntKind.i64.wrap g = g := by rw [IntKind.wrap_i64]; have := Hg.out; omega
          have hgw2 : IntKind.i64.wrap (g + 1) = g + 1 := by rw [IntKind.wrap_i64]; have := Hg.out; omega
          have hbw : IntKind.i64.wrap (b : Int) = b := by rw [IntKind.wrap_i64]; omega
          have hall : IntKind.i64.wrap ((sumR hd : Nat) + (b : Int)) = ((sumR hd + b : Nat) : Int) := by have := Hsm.out; rw [IntKind.wrap_i64]; omega
          have hgl : g < 1099511627776 := by have := Hg.out; omega
          have Hgl := Lib.hid hgl
          obtain ⟨mn, hmn⟩ : ∃ mn : Int, min z 16 = mn := ⟨_, rfl⟩
          have hmn2 : (if (16 : Int) < z then 16 else z) = mn := by rw [← hmn]; split <;> omega
          have hmn3 : ((min z.toNat 16 : Nat) : Int) = mn := by omega
          have Hmn := Lib.hid hmn3
          have hw16 : IntKind.i64.wrap (z - 16) = z - 16 := by rw [IntKind.wrap_i64]; omega
          have hsz5 : B ≤ w5.heap.size := by have := Hb5.out.size; have := HB.out; omega
          have H7 := Lib.hid h7
          clear hmn3 h1 h2 h3 h4 h5 h6 hgl hN1 hN2 hN3
          by_cases h0 : nl = 0
          · have hl : last = 0 := by
              rcases Hlast.out with h | ⟨hp, x, h, _⟩
              · exact h.2
              · have := Hnl.out; rw [h] at this; simp at this; omega
            have hlow : ¬ (f : Int) < last := by omega
            have Hn := Lib.hid (heads_next Hheads.out hy hlow)
            rw [Hg.out] at Hn
            have Hc := Lib.hid (And.intro Hgl.out (Int.not_lt.1 hlow))
            have r1 : decide ((0 : Int) < (nl : Int)) = false := decide_eq_false (by omega)
            have r2 : decide (0 < nl) = false := decide_eq_false (by omega)
            clear hy hl hlow Hx Hheads Hgl h0
            go_wp2_with (at_builtin; first | ((refine wpList_append_elem_row rfl (.tmp 114) (.tmp 123) 24 (by rfl) 23 (.agg #[.int .i64 0, .int .i64 0]) 2 16 Try.underlying24 rngInf rfl (by decide) _ nl _ _ w5 #[.int .i64 f, .int .i64 (g + 1)] rfl (by intro u hu; simp at hu; rcases hu with rfl | rfl <;> rfl) Ht5.out.a (by rfl) (Ht5.out.old (fun j hj => Nat.lt_of_lt_of_le hj hsz5)) (by rfl) (by unfold maxLen; omega) (by omega) ?_); intro v6 w6 hown6 hst6 hgr6 hat6; have Ht6 := Lib.hid (Ht5.out.append hown6 hst6 hat6); have Hb6 := Lib.hid (Hb5.out.trans (hst6.below fun k hk => .inl hk)); have hsz6 := Nat.le_trans hsz5 hst6.size; obtain ⟨A6, c6, rfl⟩ := hown6.form; clear hown6 hst6 hgr6 hat6) | ((refine wpList_append_elem_row rfl (.tmp 125) (.tmp 128) 48 (by rfl) 3 (.int .i64 0) 1 8 Try.underlying48 intInf rfl (by decide) _ nl _ _ w6 #[.int .i64 b] rfl (by intro u hu; simp at hu; rcases hu with rfl; rfl) Ht6.out.rot.a (by rfl) (Ht6.out.rot.old (fun j hj => Nat.lt_of_lt_of_le hj hsz6)) (by rfl) (by unfold maxLen; omega) (by omega) ?_); intro v7 w7 hown7 hst7 hgr7 hat7; have Ht7 := Lib.hid (Ht6.out.rot.append hown7 hst7 hat7).rot.rot; have Hb7 := Lib.hid (Hb6.out.trans (hst7.below fun k hk => .inl hk)); have hsz7 := Nat.le_trans hsz6 hst7.size; obtain ⟨A7, c7, rfl⟩ := hown7.form; clear hown7 hst7 hgr7 hat7) | (go_must (refine wpList_append_elem_row rfl (.tmp 130) (.tmp 133) 48 (by rfl) 3 (.int .i64 0) 1 8 Try.underlying48 intInf rfl (by decide) _ nl _ _ w7 #[.int .i64 mn] rfl (by intro u hu; simp at hu; rcases hu with rfl; rfl) Ht7.out.rot.rot.a (by rfl) (Ht7.out.rot.rot.old (fun j hj => Nat.lt_of_lt_of_le hj hsz7)) (by rfl) (by unfold maxLen; omega) (by omega) ?_); intro v8 w8 hown8 hst8 hgr8 hat8; have Ht8 := Lib.hid (Ht7.out.rot.rot.append hown8 hst8 hat8).rot; have Hb8 := Lib.hid (Hb7.out.trans (hst8.below fun k hk => .inl hk)); obtain ⟨A8, c8, rfl⟩ := hown8.form; clear hown8 hst8 hgr8 hat8))
            go_roundw
            case rel =>
              have hp : (hd ++ [((f : Int), g + 1, min z.toNat 16, b)]).flatMap hrngC = hd.flatMap hrngC ++ #[.int .i64 f, .int .i64 (g + 1)].toList := by simp [hrngC]
              have hq : (hd ++ [((f : Int), g + 1, min z.toNat 16, b)]).flatMap sizCells = hd.flatMap sizCells ++ #[Value.int .i64 b].toList := by simp [sizCells]
              have hr : (hd ++ [((f : Int), g + 1, min z.toNat 16, b)]).flatMap hcntC = hd.flatMap hcntC ++ #[Value.int .i64 mn].toList := by simp [hcntC, ← Hmn.out]
              have hlen : (hd ++ [((f : Int), g + 1, min z.toNat 16, b)]).length = nl + 1 := by simp [Hnl.out]
              have hz : (z - 16).toNat = z.toNat - 16 := by omega
              refine ⟨hd ++ [((f : Int), g + 1, min z.toNat 16, b)], k', a3, z - 16, g, A6, A7, A8, c6, c7, c8, rfl, by rw [hlen], by rw [hlen], by rw [hlen], by rw [sum_snoc]; exact rfl, rfl, by omega, by omega, by rw [hlen]; omega, ?_, ?_, Hc.out.1, ?_, Hi.out.1, Hi.out.2, .inr ⟨hd, _, rfl, rfl⟩, ?_, Hb8.out, ?_⟩
              · have := Hk.out; omega
              · have := Hg.out; omega
              · rw [sum_snoc, hlen]; have := Hsm.out; simp only; omega
              · rw [hlen, hp, hq, hr]; exact Ht8.out
              · rw [hz]; exact Hn.out
            case measure => simp [intOf]; omega
          · obtain ⟨m', hm'⟩ : ∃ m', nl = m' + 1 := ⟨nl - 1, by omega⟩
            have hmd : m' < hd.length := by have := Hnl.out; omega
            have hxl : hd[m'].2.1 = last + 1 := by
              rcases Hlast.out with h | ⟨hp, x, h, h'⟩
              · rw [h.1] at hmd; simp at hmd
              · have h9 := Hnl.out
                have h8 : hp.length = m' := by rw [h] at h9; simp at h9; omega
                subst h h8
                simpa using h'
            obtain ⟨gg, oo, rfl, hggl, hcl⟩ := Rd.elem hrngC_length (by decide) Ht5.out.a.rd hmd
            have f1 := hcl 1 _ rfl
            rw [hxl, ← Nat.add_assoc] at f1
            obtain ⟨L1, hL1⟩ : ∃ L1, last + 1 = L1 := ⟨_, rfl⟩
            rw [hL1] at f1
            have hLw : IntKind.i64.wrap (L1 - 1) = last := by rw [IntKind.wrap_i64]; have := Hl.out; omega
            have hm1 : (nl : Int) - 1 = (m' : Int) := by omega
            have hm2 : (m' : Int) < (nl : Int) := by omega
            have hm4 : m' < nl := by omega
            have r1 : decide ((0 : Int) < (nl : Int)) = true := decide_eq_true (by omega)
            have r2 : decide (0 < nl) = true := decide_eq_true (by omega)
            have hm5 : IntKind.i64.wrap ((nl : Int) - 1) = (m' : Int) := by rw [IntKind.wrap_i64]; omega
            clear hcl hxl hL1
            by_cases hlow : (f : Int) < last
            · have HN := Lib.hid (show fencesR s.data.toList = none by rw [Hfe.out, heads_low Hheads.out hy hlow]; exact fenEnd_none _ _)
              have t2 : decide ((f : Int) < last) = true := decide_eq_true hlow
              clear hlow hy h0 hm'
              go_wp2_with fail
              ((try simp only [Exit.inBlock, Exit.then]); refine bodyPost_ret (results_tmp4 rfl _ _ _) rfl ?_)
              exact .inl ⟨HN.out, rfl, Hb5.out⟩
            · have Hn := Lib.hid (heads_next Hheads.out hy hlow)
              rw [Hg.out] at Hn
              have Hc := Lib.hid (And.intro Hgl.out (Int.not_lt.1 hlow))
              have t2 : decide ((f : Int) < last) = false := decide_eq_false hlow
              clear hlow hy h0 hm' Hgl Hx Hheads
              go_wp2_with (at_builtin; first | ((refine wpList_append_elem_row rfl (.tmp 114) (.tmp 123) 24 (by rfl) 23 (.agg #[.int .i64 0, .int .i64 0]) 2 16 Try.underlying24 rngInf rfl (by decide) _ nl _ _ w5 #[.int .i64 f, .int .i64 (g + 1)] rfl (by intro u hu; simp at hu; rcases hu with rfl | rfl <;> rfl) Ht5.out.a (by rfl) (Ht5.out.old (fun j hj => Nat.lt_of_lt_of_le hj hsz5)) (by rfl) (by unfold maxLen; omega) (by omega) ?_); intro v6 w6 hown6 hst6 hgr6 hat6; have Ht6 := Lib.hid (Ht5.out.append hown6 hst6 hat6); have Hb6 := Lib.hid (Hb5.out.trans (hst6.below fun k hk => .inl hk)); have hsz6 := Nat.le_trans hsz5 hst6.size; obtain ⟨A6, c6, rfl⟩ := hown6.form; clear hown6 hst6 hgr6 hat6) | ((refine wpList_append_elem_row rfl (.tmp 125) (.tmp 128) 48 (by rfl) 3 (.int .i64 0) 1 8 Try.underlying48 intInf rfl (by decide) _ nl _ _ w6 #[.int .i64 b] rfl (by intro u hu; simp at hu; rcases hu with rfl; rfl) Ht6.out.rot.a (by rfl) (Ht6.out.rot.old (fun j hj => Nat.lt_of_lt_of_le hj hsz6)) (by rfl) (by unfold maxLen; omega) (by omega) ?_); intro v7 w7 hown7 hst7 hgr7 hat7; have Ht7 := Lib.hid (Ht6.out.rot.append hown7 hst7 hat7).rot.rot; have Hb7 := Lib.hid (Hb6.out.trans (hst7.below fun k hk => .inl hk)); have hsz7 := Nat.le_trans hsz6 hst7.size; obtain ⟨A7, c7, rfl⟩ := hown7.form; clear hown7 hst7 hgr7 hat7) | (go_must (refine wpList_append_elem_row rfl (.tmp 130) (.tmp 133) 48 (by rfl) 3 (.int .i64 0) 1 8 Try.underlying48 intInf rfl (by decide) _ nl _ _ w7 #[.int .i64 mn] rfl (by intro u hu; simp at hu; rcases hu with rfl; rfl) Ht7.out.rot.rot.a (by rfl) (Ht7.out.rot.rot.old (fun j hj => Nat.lt_of_lt_of_le hj hsz7)) (by rfl) (by unfold maxLen; omega) (by omega) ?_); intro v8 w8 hown8 hst8 hgr8 hat8; have Ht8 := Lib.hid (Ht7.out.rot.rot.append hown8 hst8 hat8).rot; have Hb8 := Lib.hid (Hb7.out.trans (hst8.below fun k hk => .inl hk)); obtain ⟨A8, c8, rfl⟩ := hown8.form; clear hown8 hst8 hgr8 hat8))
              go_roundw
              case rel =>
                have hp : (hd ++ [((f : Int), g + 1, min z.toNat 16, b)]).flatMap hrngC = hd.flatMap hrngC ++ #[.int .i64 f, .int .i64 (g + 1)].toList := by simp [hrngC]
                have hq : (hd ++ [((f : Int), g + 1, min z.toNat 16, b)]).flatMap sizCells = hd.flatMap sizCells ++ #[Value.int .i64 b].toList := by simp [sizCells]
                have hr : (hd ++ [((f : Int), g + 1, min z.toNat 16, b)]).flatMap hcntC = hd.flatMap hcntC ++ #[Value.int .i64 mn].toList := by simp [hcntC, ← Hmn.out]
                have hlen : (hd ++ [((f : Int), g + 1, min z.toNat 16, b)]).length = nl + 1 := by simp [Hnl.out]
                have hz : (z - 16).toNat = z.toNat - 16 := by omega
                refine ⟨hd ++ [((f : Int), g + 1, min z.toNat 16, b)], k', a3, z - 16, g, A6, A7, A8, c6, c7, c8, rfl, by rw [hlen], by rw [hlen], by rw [hlen], by rw [sum_snoc]; exact rfl, rfl, by omega, by omega, by rw [hlen]; omega, ?_, ?_, Hc.out.1, ?_, Hi.out.1, Hi.out.2, .inr ⟨hd, _, rfl, rfl⟩, ?_, Hb8.out, ?_⟩
                · have := Hk.out; omega
                · have := Hg.out; omega
                · rw [sum_snoc, hlen]; have := Hsm.out; simp only; omega
                · rw [hlen, hp, hq, hr]; exact Ht8.out
                · rw [hz]; exact Hn.out
              case measure => simp [intOf]; omega
      · have hk0 : k = 0 := by omega
        subst hk0
        have hdone := heads_done hheads
        have hfin : fencesR s.data.toList = if (sumR hd : Int) = (s.size : Int) - a then some (cutR hd (s.data.toList.drop a.toNat)) else none := by
          rw [Hfe.out, hdone, Lib.size_eq s]
          unfold fenEnd
          rw [if_pos rfl]
        have Hfin := Lib.hid hfin
        have Htri := Lib.hid htri
        have Hbel := Lib.hid hbel
        have Hsm := Lib.hid hsm
        have hz4 : decide ((0 : Int) < z) = false := decide_eq_false hlt
        have hnlk : nl ≤ 400 := by omega
        have hw1 : IntKind.i64.wrap ((s.size : Int) - a) = (s.size : Int) - a := by rw [IntKind.wrap_i64]; omega
        have hBw : B ≤ wr.heap.size := by have := hbel.size; have := HB.out; omega
        clear hfin htri hbel hsm hdone hheads Hfe HH hk hl0 hl1 hn0 hlast HT HB1
        by_cases c1 : (sumR hd : Int) = (s.size : Int) - a
        · have HN := Lib.hid (show fencesR s.data.toList = some (cutR hd (s.data.toList.drop a.toNat)) by rw [Hfin.out, if_pos c1])
          have t1 : ((sumR hd : Int) == (s.size : Int) - a) = true := beq_iff_eq.2 c1
          have t2 : ((sumR hd : Int) != (s.size : Int) - a) = false := by rw [bne, t1]; rfl
          obtain ⟨aN, haN⟩ : ∃ aN : Nat, a = aN := ⟨a.toNat, by omega⟩
          have hcN : aN + sumR hd = s.size := by omega
          have HcN := Lib.hid hcN
          clear c1 hcN Hfin
          subst haN
          rw [Int.toNat_natCast] at HN
          have hold : Old (fun j => j < B ∨ (Value.slice A1 nl c1).ownBlock = some j ∨ (Value.slice A2 nl c2).ownBlock = some j ∨ (Value.slice A3 nl c3).ownBlock = some j) wr := fun j hj => by
            rcases hj with h | h | h | h
            · omega
            · exact (Htri.out.a.1.lt j h).2
            · exact (Htri.out.b.1.lt j h).2
            · exact (Htri.out.c.1.lt j h).2
          have HM := Lib.hid (Lie.made _ wr 9 1 hold)
          have HL1 := Lib.hid ((Htri.out.a.shift (R' := fun j => j < B) fun j hj hp => Htri.out.a.2 j hj (.inl hp)).alloc (.cells #[] 9))
          have HL2 := Lib.hid ((Htri.out.b.shift (R' := fun j => j < B) fun j hj hp => Htri.out.b.2 j hj (.inl hp)).alloc (.cells #[] 9))
          have HL3 := Lib.hid ((Htri.out.c.shift (R' := fun j => j < B) fun j hj hp => Htri.out.c.2 j hj (.inl hp)).alloc (.cells #[] 9))
          have HbM := Lib.hid (Hbel.out.alloc hBw (.cells #[] 9))
          clear hold Htri Hbel
          go_wp2_with fail
          generalize wr.alloc (.cells #[] 9) = wm at *
          generalize wr.heap.size = gm at *
          go_loopw [7, 23, 24] (fun tv xv ix wr => ∃ (i : Nat) (A9 : Option Addr) (c9 : Nat), tv = .int .i64 (aN + sumR (hd.take i) : Nat) ∧ xv = .slice A9 i c9 ∧ ix = .int .i64 i ∧ i ≤ nl ∧
            Lie (fun j => j < B) 23 2 (.slice A1 nl c1) nl (hd.flatMap hrngC) wr ∧ Lie (fun j => j < B) 3 1 (.slice A2 nl c2) nl (hd.flatMap sizCells) wr ∧ Lie (fun j => j < B) 3 1 (.slice A3 nl c3) nl (hd.flatMap hcntC) wr ∧
            Lie (fun j => j < B ∨ (Value.slice A1 nl c1).ownBlock = some j ∨ (Value.slice A2 nl c2).ownBlock = some j ∨ (Value.slice A3 nl c3).ownBlock = some j) 9 1 (.slice A9 i c9) i (((cutR hd (s.data.toList.drop aN)).take i).flatMap txtC) wr ∧ Below B w wr) (fun _ _ ix _ => nl - (intOf ix).toNat)
          case atStart => exact ⟨0, _, _, by simp [sumR], rfl, rfl, by omega, HL1.out, HL2.out, HL3.out, by simpa using HM.out, HbM.out⟩
          case round =>
            obtain ⟨i, A9, c9, rfl, rfl, rfl, hi, hl1, hl2, hl3, hl4, hbel2⟩ := hrel
            have HL1' := Lib.hid hl1
            have HL2' := Lib.hid hl2
            have HL3' := Lib.hid hl3
            have HL4' := Lib.hid hl4
            have HB2 := Lib.hid hbel2
            clear hl1 hl2 hl3 hl4 hbel2 HL1 HL2 HL3 HM HbM
            by_cases hlt2 : i < nl
            · have hid : i < hd.length := by have := Hnl.out; omega
              obtain ⟨g2, o2, rfl, hgl2, hf2⟩ := Rd.elem sizCells_length (by decide) HL2'.out.rd hid
              have f2 := hf2 0 _ rfl
              obtain ⟨m1, m2⟩ := sum_take hid
              have hstep := txt_next (t := s.data.toList.drop aN) hid
              obtain ⟨p, hp⟩ : ∃ p, aN + sumR (hd.take i) = p := ⟨_, rfl⟩
              obtain ⟨n, hn⟩ : ∃ n, hd[i].2.2.2 = n := ⟨_, rfl⟩
              have hpn : p + n ≤ s.size := by have := HcN.out; omega
              have hp2 : aN + sumR (hd.take (i + 1)) = p + n := by omega
              have hS : S (((s.data.toList.drop aN).drop (sumR (hd.take i))).take n) = s.extract p (p + n) := by
                rw [List.drop_drop, hp]
                rw [← S_data (s.extract p (p + n)), Lib.extract_data]
                congr 2
                omega
              rw [hn, hS] at hstep
              rw [hn, Nat.mul_one, Nat.add_zero] at f2
              have Hstep := Lib.hid hstep
              have Hp2 := Lib.hid hp2
              have Hp := Lib.hid hp
              have hold : Old (fun j => j < B ∨ (Value.slice A1 nl c1).ownBlock = some j ∨ (Value.slice (some ⟨g2, o2, none⟩) nl c2).ownBlock = some j ∨ (Value.slice A3 nl c3).ownBlock = some j) wr := fun j hj => by
                have := HB2.out.size
                have := HB.out
                rcases hj with h | h | h | h
                · omega
                · exact (HL1'.out.1.lt j h).2
                · exact (HL2'.out.1.lt j h).2
                · exact (HL3'.out.1.lt j h).2
              have hil : i ≤ 400 := by omega
              clear hstep hp2 hf2 m1 m2 hS
              rw [Hp.out]
              clear hp hn
              go_wp2_with (at_builtin; go_must (refine wpList_append_elem_row rfl (.tmp 153) (.tmp 163) 47 (by rfl) 9 (.string ⟨#[]⟩) 1 16 Try.underlying47 strInf rfl (by decide) _ i _ _ wr #[.string (s.extract p (p + n))] rfl (by intro u hu; simp at hu; rcases hu with rfl; rfl) HL4'.out (by rfl) hold (by rfl) (by unfold maxLen; omega) (by omega) ?_); intro v6 w6 hown6 hst6 hgr6 hat6; have f2' := (World.cell?_of_block (a := ⟨g2, o2 + i, none⟩) (hst6.block g2 (.inr (.inr (.inl rfl))))).trans f2; have HK1 := Lib.hid (HL1'.out.later fun g hg => hst6.block g (.inr (.inl hg))); have HK2 := Lib.hid (HL2'.out.later fun g hg => hst6.block g (.inr (.inr (.inl hg)))); have HK3 := Lib.hid (HL3'.out.later fun g hg => hst6.block g (.inr (.inr (.inr hg)))); have HK4 := Lib.hid hown6; have HB6 := Lib.hid (HB2.out.trans (hst6.below fun k hk => .inl hk)); obtain ⟨A6, c6, rfl⟩ := hown6.form; clear hown6 hst6 hgr6 hat6)
              go_roundw
              case rel => exact ⟨i + 1, A6, c6, by rw [Hp2.out]; go_num, rfl, by go_num, by omega, HK1.out, HK2.out, HK3.out, by rw [Hstep.out]; exact HK4.out, HB6.out⟩
              case measure => simp [intOf]; omega
            · obtain rfl : nl = i := by omega
              go_wp2_with fail
              ((try simp only [Exit.inBlock, Exit.then]); refine bodyPost_ret (results_tmp4 rfl _ _ _) rfl ?_)
              have hn2 : (cutR hd (s.data.toList.drop aN)).length = nl := by rw [cutR_length, Hnl.out]
              exact .inr ⟨_, _, _, _, HN.out, rfl, by rw [hn2, cut_rng]; exact HL1'.out, by rw [hn2]; have := HL4'.out; rw [List.take_of_length_le (by omega)] at this; exact this.shift fun j hj hp => this.2 j hj (.inl hp), by rw [hn2, cut_cnt]; exact HL3'.out, by omega, HB2.out⟩
        · have HN := Lib.hid (show fencesR s.data.toList = none by rw [Hfin.out, if_neg c1])
          have t1 : ((sumR hd : Int) == (s.size : Int) - a) = false := beq_eq_false_iff_ne.2 c1
          have t2 : ((sumR hd : Int) != (s.size : Int) - a) = true := by rw [bne, t1]; rfl
          clear c1
          go_wp2_with fail
          ((try simp only [Exit.inBlock, Exit.then]); refine bodyPost_ret (results_tmp4 rfl _ _ _) rfl ?_)
          exact .inl ⟨HN.out, rfl, Hbel.out⟩
end Go.Proofs.Ythmikefinibecaa
