/-
  delta.rest: the samples behind the first.
-/
import Derived.Test.YtmafdbdmmfpeeaaDeltaBack
import Derived.Test.YtmafdbdmmfpeeaaLawDeltaEven
namespace Go.Proofs.Ytmafdbdmmfpeeaa
open Go Go.RowKit Go.Shelf

theorem riceZ_lt (l : List Bool) (k : Int) : (riceZ l k).1 < 18446744073709551616 := by
  have h64 : numB ((l.drop 24).take 64) < 2 ^ 64 := take_num_lt l 24 64
  unfold riceZ
  split
  · rename_i hk
    have hp : 2 ^ k.toNat ≤ 2 ^ 40 := Nat.pow_le_pow_right (by decide) (by omega)
    have hq := take_num_lt l (lead l 24 + 1) k.toNat
    unfold riceR
    split
    · rename_i hl
      split
      · simp only; omega
      · simp only
        have : lead l 24 * 2 ^ k.toNat ≤ 24 * 2 ^ 40 := Nat.mul_le_mul (by omega) hp
        omega
    · split
      · simp only; omega
      · split <;> simp only <;> omega
  · simp only; omega
theorem lastS {ys : List Sample} {p : Sample} {m : Nat} (h : ys.length = m) : sAt (ys ++ [p]) m = p := by
  subst h
  rw [sAt_get (by simp)]
  simp
theorem cells_snoc (ys : List Sample) (p : Sample) : (ys ++ [p]).flatMap sampleCells = ys.flatMap sampleCells ++ [.int .i64 p.T, .int .i64 p.V] := by simp [sampleCells]
theorem rd_built2 (w : World) (u v : Value) (T : TypeId) : Rd (w.alloc (.cells #[u, v] T)) 2 (some ⟨w.heap.size, 0, none⟩) 1 [u, v] := by
  refine ⟨by simp, fun _ => ⟨_, 0, rfl, by simp, fun j x hx => ?_⟩⟩
  have := cell_new w #[u, v] T j x (by simpa using hx)
  rwa [add_none] at this
theorem Lie.alloc {R : Nat → Prop} {n size : Nat} {e : TypeId} {w : World} {v : Value} {xs : List Value} (h : Lie R e size v n xs w) (o : Obj) : Lie R e size v n xs (w.alloc o) := h.below (Below.one w o)
theorem Lie.drew {R : Nat → Prop} {n size : Nat} {e : TypeId} {w : World} {v : Value} {xs : List Value} (h : Lie R e size v n xs w) : Lie R e size v n xs w.drew := h.below (Below.refl _ _).drew
def lenOf : Value → Nat
  | .slice _ n _ => n
  | _ => 0
theorem but_lie {R : Nat → Prop} {n size c : Nat} {e : TypeId} {w w' : World} {v : Value} {xs : List Value} (h : Lie R e size v n xs w) (hb : But c w w') (hc : R c) : Lie R e size v n xs w' :=
  h.later fun g hg => hb.block g fun e => h.2 g hg (e ▸ hc)

/-- the way on from one sample -/
theorem rest_next {L : List Bool} {a b : Int} {m j : Nat} {d t v : Int} {ys : List Sample} {p : Sample} {x : Nat × Int × Int × Int} {R : Option (List Sample × Nat)} (h : (restD L a b (m + 1) j d t v).map (fun r => (ys ++ p :: r.1, r.2)) = R) (hx : stepD L a b j d t v = some x) :
    (restD L a b m x.1 x.2.1 x.2.2.1 x.2.2.2).map (fun r => ((ys ++ [p]) ++ ⟨x.2.2.1, x.2.2.2⟩ :: r.1, r.2)) = R := by
  rw [← h]
  simp only [restD, hx, Option.map_map]
  congr 1
  funext r
  simp
theorem rest_stop {L : List Bool} {a b : Int} {m j : Nat} {d t v : Int} {ys : List Sample} {p : Sample} {R : Option (List Sample × Nat)} (h : (restD L a b (m + 1) j d t v).map (fun r => (ys ++ p :: r.1, r.2)) = R) (hx : stepD L a b j d t v = none) : R = none := by
  rw [← h]
  simp [restD, hx]
theorem rest_done {L : List Bool} {a b : Int} {j : Nat} {d t v : Int} {ys : List Sample} {p : Sample} {R : Option (List Sample × Nat)} (h : (restD L a b 0 j d t v).map (fun r => (ys ++ p :: r.1, r.2)) = R) : R = some (ys ++ [p], j) := by
  rw [← h]
  rfl

theorem err_no {e : Nat} (h : e = 0) : ((e : Int) == 0) = true ∧ ((e : Int) != 0) = false := by subst h; exact ⟨rfl, rfl⟩
theorem err_yes {e : Nat} (h : e ≠ 0) : ((e : Int) == 0) = false ∧ ((e : Int) != 0) = true := by
  have : ((e : Int) == 0) = false := beq_eq_false_iff_ne.2 (by omega)
  exact ⟨this, by rw [bne, this]; rfl⟩
theorem box_two {w w1 : World} {u v : Value} {T : TypeId} (h : w.alloc (.cells #[u, v] T) = w1) : w1.cell? ⟨w.heap.size, 0, none⟩ = some u ∧ w1.cell? ⟨w.heap.size, 1, none⟩ = some v := by
  subst h; simp

/-- what rest answers: nothing, or the samples -/
def RestPost (B n : Nat) (L : List Bool) (R : Option (List Sample × Nat)) (w : World) (e : Ending) (w' : World) : Prop :=
  (R = none ∧ e = .returned (.tuple #[.slice none 0 0, .bool false]) ∧ Below B w w') ∨
    ∃ r v', R = some r ∧ e = .returned (.tuple #[v', .bool ((endE (L.drop r.2) : Int) == 0)]) ∧ Lie (fun k => k < B) 60 2 v' n (r.1.flatMap sampleCells) w' ∧ Below B w w'

/-- between two rounds -/
def RestRel (B c n : Nat) (q : ByteArray) (a b : Int) (R : Option (List Sample × Nat)) (w : World) (sv dv : Value) (wr : World) : Prop :=
  ∃ (ys : List Sample) (p : Sample) (j m : Nat) (d : Int) (A : Option Addr) (cap : Nat), sv = .slice A (m + 1) cap ∧ dv = .int .i64 d ∧ ys.length = m ∧ m + 1 ≤ n ∧ 0 ≤ p.T ∧ p.T < 1099511627776 ∧ In64 p.V ∧ 0 ≤ d ∧ d ≤ 1099511627776 ∧ j ≤ 8 * q.size ∧
    Lie (fun k => k < B ∨ k = c) 60 2 (.slice A (m + 1) cap) (m + 1) ((ys ++ [p]).flatMap sampleCells) wr ∧ RdrOf 122 c q j wr ∧ Below B w wr ∧
    (restD (sbits q) a b (n - (m + 1)) j d p.T p.V).map (fun r => (ys ++ p :: r.1, r.2)) = R

set_option linter.unusedSimpArgs false in
set_option maxRecDepth 100000 in
set_option maxHeartbeats 4000000 in
theorem rest_loop_any (B n : Nat) (q : ByteArray) (x0 : Sample) (v : Value) (w : World) (hown : Lie (fun k => k < B) 60 2 v 1 (sampleCells x0) w) (hB : B ≤ w.heap.size) (hq : q.size ≤ 1000000) (hq2 : 2 ≤ q.size) (hn : 1 ≤ n) (hn5 : n ≤ 5000)
    (hT0 : 0 ≤ x0.T) (hT1 : x0.T < 1099511627776) (hV : In64 x0.V) (R : Option (List Sample × Nat)) (hR : (restD (sbits (q.extract 2 q.size)) (q[0].toNat : Int) (q[1].toNat : Int) (n - 1) 0 0 x0.T x0.V).map (fun r => (x0 :: r.1, r.2)) = R) :
    Calls Try.prog 52 #[v, .int .i64 n, .string q] w (RestPost B n (sbits (q.extract 2 q.size)) R w) := by
  have Hown := Lib.hid hown
  have HR := Lib.hid hR
  obtain ⟨A0, cap0, rfl⟩ := hown.form
  have hs2 : (q.extract 2 q.size).size = q.size - 2 := by rw [ByteArray.size_extract]; omega
  have hqi : (2 : Int) ≤ (q.size : Int) := by omega
  have hqj : (0 : Int) < (q.size : Int) := by omega
  have hqk : (1 : Int) < (q.size : Int) := by omega
  have hq0 : 0 < q.size := by omega
  have hq1 : 1 < q.size := by omega
  obtain ⟨a, ha⟩ : ∃ a : Nat, q[0].toNat = a := ⟨_, rfl⟩
  obtain ⟨b, hb⟩ : ∃ b : Nat, q[1].toNat = b := ⟨_, rfl⟩
  rw [ha, hb] at HR
  have ha2 : a ≤ 255 := by have := UInt8.toNat_lt q[0]; omega
  have hb2 : b ≤ 255 := by have := UInt8.toNat_lt q[1]; omega
  clear hown hR
  go_enter Try.func52, Try.ntmps52
  go_wp2_with fail
  go_quiet (fail)
  go_wp2_with fail
  have HB2 : Hid (Below B w (w.drewN nq)) := Lib.hid (below_drewN (Below.refl _ _) _)
  have Hown2 : Hid (Lie (fun k => k < B) 60 2 (.slice A0 1 cap0) 1 (sampleCells x0) (w.drewN nq)) := Lib.hid (Hown.out.below (below_drewN (Below.refl _ _) _))
  have hB2 : B ≤ (w.drewN nq).heap.size := hB
  generalize w.drewN nq = w1 at *
  refine (read_any _ _).mono ?_
  rintro e w2 ⟨rfl, hw2⟩
  generalize (q.extract 2 q.size) = qe at *
  have hr2 : RdrOf 122 w1.heap.size qe 0 w2 := by rw [hw2]; exact heap_alloc_new w1 _
  have hl2 : Lie (fun k => k < B ∨ k = w1.heap.size) 60 2 (.slice A0 1 cap0) 1 (sampleCells x0) w2 := by
    rw [hw2]
    refine (Hown2.out.alloc _).shift fun g hg h => ?_
    have h1 := (Hown2.out.1.lt g hg).2
    rcases h with h | h
    · exact Hown2.out.2 g hg h
    · omega
  have hb2 : Below B w w2 := by rw [hw2]; exact HB2.out.alloc hB2 _
  have Hr2 := Lib.hid hr2
  have Hl2 := Lib.hid hl2
  have Hb2 := Lib.hid hb2
  have hBc : B ≤ w1.heap.size := hB2
  clear hr2 hl2 hb2 hw2 hB2 Hown Hown2 HB2
  generalize w1.heap.size = c at *
  go_wp2_with fail
  go_loopw [0, 11] (fun sv dv wr => RestRel B c n qe a b R w sv dv wr) (fun sv _ _ => n - lenOf sv)
  case atStart => exact ⟨[], x0, 0, 0, 0, A0, cap0, rfl, rfl, rfl, by omega, hT0, hT1, hV, by omega, by omega, by omega, Hl2.out, Hr2.out, Hb2.out, HR.out⟩
  case round =>
    obtain ⟨ys, p, j, m, d, A, cap, rfl, rfl, hys, hm, hpT, hpT2, hpV, hd0, hd1, hj, hlie, hrdr, hbel, hrest⟩ := hrel
    by_cases hlt : m + 1 < n
    · obtain ⟨g, o, rfl, hgl, f0, f1⟩ := sample_at hlie.rd (show m < (ys ++ [p]).length by simp; omega)
      rw [← sAt_get, lastS hys] at f0 f1
      have hgc : g ≠ c := fun e => hlie.2 g rfl (.inr e)
      obtain ⟨m', hm'⟩ : ∃ m', n - (m + 1) = m' + 1 := ⟨n - (m + 1) - 1, by omega⟩
      rw [hm'] at hrest
      have hz1 := riceZ_le ((sbits qe).drop j) (a : Int)
      have hx := riceZ_lt ((sbits qe).drop j) (a : Int)
      have C1 := readRice_any c qe j (a : Int) wr hrdr (by omega) hj
      obtain ⟨g1, hg1⟩ : ∃ g1, riceZ ((sbits qe).drop j) (a : Int) = g1 := ⟨_, rfl⟩
      rw [hg1] at hz1 hx C1
      obtain ⟨x, tx, ex⟩ := g1
      simp only at hz1 hx
      rw [List.length_drop, sbits_size] at hz1
      have hz2 := riceZ_le ((sbits qe).drop (j + tx)) (b : Int)
      have hy := riceZ_lt ((sbits qe).drop (j + tx)) (b : Int)
      have C2 := fun w' h => readRice_any c qe (j + tx) (b : Int) w' h (by omega) (by omega)
      obtain ⟨g2, hg2⟩ : ∃ g2, riceZ ((sbits qe).drop (j + tx)) (b : Int) = g2 := ⟨_, rfl⟩
      rw [hg2] at hz2 hy C2
      obtain ⟨y, ty, ey⟩ := g2
      simp only at hz2 hy
      rw [List.length_drop, sbits_size] at hz2
      have hstep : stepD (sbits qe) a b j d p.T p.V = if ex = 0 ∧ ey = 0 ∧ unfoldN x ≤ 1099511627776 ∧ -1099511627776 ≤ unfoldN x ∧ 1 ≤ d + unfoldN x ∧ d + unfoldN x ≤ 1099511627776 ∧ p.T + (d + unfoldN x) < 1099511627776 then
          some (j + tx + ty, d + unfoldN x, p.T + (d + unfoldN x), wrapV (p.V + unfoldN y)) else none := by
        unfold stepD
        rw [hg1]
        simp only
        rw [hg2]
      have UX := Lib.hid (fun w => unfold_any x w hx)
      have UY := Lib.hid (fun w => (unfold_any y w hy).mono fun e w' (h : e = _ ∧ w = w') => (⟨h.1, h.2.symm⟩ : e = _ ∧ w' = w))
      have hux := unfold_in hx
      have huy := unfold_in hy
      unfold In64 at hux huy hpV
      have HC1 := Lib.hid C1
      have HC2 := Lib.hid C2
      have Hlie := Lib.hid hlie
      have Hrdr := Lib.hid hrdr
      have Hbel := Lib.hid hbel
      have Hys := Lib.hid hys
      have Hrest := Lib.hid hrest
      have Hm' := Lib.hid hm'
      have Hgc := Lib.hid hgc
      have hwsz := Lib.hid (hlie.1.lt g rfl)
      clear C1 C2 hg1 hg2 hx hy hlie hrdr hbel hys hrest hm' hgc ha hb
      generalize unfoldN x = ux at *
      generalize unfoldN y = uy at *
      have hc : (ex ≠ 0 ∨ (ex = 0 ∧ ey ≠ 0) ∨ (ex = 0 ∧ ey = 0 ∧ 1099511627776 < ux) ∨ (ex = 0 ∧ ey = 0 ∧ ¬ 1099511627776 < ux ∧ ux < -1099511627776) ∨ (ex = 0 ∧ ey = 0 ∧ ¬ 1099511627776 < ux ∧ ¬ ux < -1099511627776 ∧ d + ux < 1) ∨
          (ex = 0 ∧ ey = 0 ∧ ¬ 1099511627776 < ux ∧ ¬ ux < -1099511627776 ∧ ¬ d + ux < 1 ∧ 1099511627776 < d + ux) ∨ (ex = 0 ∧ ey = 0 ∧ ¬ 1099511627776 < ux ∧ ¬ ux < -1099511627776 ∧ ¬ d + ux < 1 ∧ ¬ 1099511627776 < d + ux ∧ 1099511627776 ≤ p.T + (d + ux))) ∨
          (ex = 0 ∧ ey = 0 ∧ ux ≤ 1099511627776 ∧ -1099511627776 ≤ ux ∧ 1 ≤ d + ux ∧ d + ux ≤ 1099511627776 ∧ p.T + (d + ux) < 1099511627776) := by omega
      rcases hc with hc | hc
      · rw [if_neg (by omega)] at hstep
        have HRn := Lib.hid (rest_stop Hrest.out hstep)
        clear hstep Hrest
        generalize p.T = pT at *
        generalize p.V = pV at *
        rcases hc with h1 | ⟨h1, h2⟩ | ⟨h1, h2, h3⟩ | ⟨h1, h2, h3, h4⟩ | ⟨h1, h2, h3, h4, h5⟩ | ⟨h1, h2, h3, h4, h5, h6⟩ | ⟨h1, h2, h3, h4, h5, h6, h7⟩
        · obtain ⟨k1, k2⟩ := err_yes h1
          clear h1
          go_wp2_with fail
          refine HC1.out.mono ?_
          rintro e w3 ⟨rfl, hr3, hb3⟩
          have Hr3 := Lib.hid hr3
          have Hb3 := Lib.hid hb3
          clear hr3 hb3
          go_wp2_with fail
          refine (HC2.out _ Hr3.out).mono ?_
          rintro e w4 ⟨rfl, hr4, hb4⟩
          have hw4 := (hb4.block g Hgc.out).trans (Hb3.out.block g Hgc.out)
          have f0' := (World.cell?_of_block (a := ⟨g, o + m * 2, none⟩) hw4).trans f0
          have f1' := (World.cell?_of_block (a := ⟨g, o + m * 2 + 1, none⟩) hw4).trans f1
          have hcl : c < w4.heap.size := (Array.getElem?_eq_some_iff.1 hr4).1
          have Hb4 := Lib.hid (((Hbel.out.trans (Hb3.out.below hBc)).trans (hb4.below hBc)).alloc (Nat.le_trans hBc (Nat.le_of_lt hcl)) (.cells #[.int .i64 pT, .int .i64 pV] 60))
          clear hr4 hb4 hw4 hcl
          go_wp2_with fail
          refine (UX.out _).mono ?_
          rintro e wz ⟨rfl, rfl⟩
          go_wp2_with fail
          go_ret2
          exact .inl ⟨HRn.out, rfl, Hb4.out⟩
        · obtain ⟨k1, k2⟩ := err_no h1
          obtain ⟨k3, k4⟩ := err_yes h2
          clear h1 h2
          go_wp2_with fail
          refine HC1.out.mono ?_
          rintro e w3 ⟨rfl, hr3, hb3⟩
          have Hr3 := Lib.hid hr3
          have Hb3 := Lib.hid hb3
          clear hr3 hb3
          go_wp2_with fail
          refine (HC2.out _ Hr3.out).mono ?_
          rintro e w4 ⟨rfl, hr4, hb4⟩
          have hw4 := (hb4.block g Hgc.out).trans (Hb3.out.block g Hgc.out)
          have f0' := (World.cell?_of_block (a := ⟨g, o + m * 2, none⟩) hw4).trans f0
          have f1' := (World.cell?_of_block (a := ⟨g, o + m * 2 + 1, none⟩) hw4).trans f1
          have hcl : c < w4.heap.size := (Array.getElem?_eq_some_iff.1 hr4).1
          have Hb4 := Lib.hid (((Hbel.out.trans (Hb3.out.below hBc)).trans (hb4.below hBc)).alloc (Nat.le_trans hBc (Nat.le_of_lt hcl)) (.cells #[.int .i64 pT, .int .i64 pV] 60))
          clear hr4 hb4 hw4 hcl
          go_wp2_with fail
          refine (UX.out _).mono ?_
          rintro e wz ⟨rfl, rfl⟩
          go_wp2_with fail
          go_ret2
          exact .inl ⟨HRn.out, rfl, Hb4.out⟩
        · obtain ⟨k1, k2⟩ := err_no h1
          obtain ⟨k3, k4⟩ := err_no h2
          have k5 : decide (1099511627776 < ux) = true := decide_eq_true h3
          clear h1 h2
          go_wp2_with fail
          refine HC1.out.mono ?_
          rintro e w3 ⟨rfl, hr3, hb3⟩
          have Hr3 := Lib.hid hr3
          have Hb3 := Lib.hid hb3
          clear hr3 hb3
          go_wp2_with fail
          refine (HC2.out _ Hr3.out).mono ?_
          rintro e w4 ⟨rfl, hr4, hb4⟩
          have hw4 := (hb4.block g Hgc.out).trans (Hb3.out.block g Hgc.out)
          have f0' := (World.cell?_of_block (a := ⟨g, o + m * 2, none⟩) hw4).trans f0
          have f1' := (World.cell?_of_block (a := ⟨g, o + m * 2 + 1, none⟩) hw4).trans f1
          have hcl : c < w4.heap.size := (Array.getElem?_eq_some_iff.1 hr4).1
          have Hb4 := Lib.hid (((Hbel.out.trans (Hb3.out.below hBc)).trans (hb4.below hBc)).alloc (Nat.le_trans hBc (Nat.le_of_lt hcl)) (.cells #[.int .i64 pT, .int .i64 pV] 60))
          clear hr4 hb4 hw4 hcl
          go_wp2_with fail
          refine (UX.out _).mono ?_
          rintro e wz ⟨rfl, rfl⟩
          go_wp2_with fail
          go_ret2
          exact .inl ⟨HRn.out, rfl, Hb4.out⟩
        · obtain ⟨k1, k2⟩ := err_no h1
          obtain ⟨k3, k4⟩ := err_no h2
          have k5 : decide (1099511627776 < ux) = false := decide_eq_false h3
          have k6 : decide (ux < -1099511627776) = true := decide_eq_true h4
          clear h1 h2 h3
          go_wp2_with fail
          refine HC1.out.mono ?_
          rintro e w3 ⟨rfl, hr3, hb3⟩
          have Hr3 := Lib.hid hr3
          have Hb3 := Lib.hid hb3
          clear hr3 hb3
          go_wp2_with fail
          refine (HC2.out _ Hr3.out).mono ?_
          rintro e w4 ⟨rfl, hr4, hb4⟩
          have hw4 := (hb4.block g Hgc.out).trans (Hb3.out.block g Hgc.out)
          have f0' := (World.cell?_of_block (a := ⟨g, o + m * 2, none⟩) hw4).trans f0
          have f1' := (World.cell?_of_block (a := ⟨g, o + m * 2 + 1, none⟩) hw4).trans f1
          have hcl : c < w4.heap.size := (Array.getElem?_eq_some_iff.1 hr4).1
          have Hb4 := Lib.hid (((Hbel.out.trans (Hb3.out.below hBc)).trans (hb4.below hBc)).alloc (Nat.le_trans hBc (Nat.le_of_lt hcl)) (.cells #[.int .i64 pT, .int .i64 pV] 60))
          clear hr4 hb4 hw4 hcl
          go_wp2_with fail
          refine (UX.out _).mono ?_
          rintro e wz ⟨rfl, rfl⟩
          go_wp2_with fail
          go_ret2
          exact .inl ⟨HRn.out, rfl, Hb4.out⟩
        · obtain ⟨k1, k2⟩ := err_no h1
          obtain ⟨k3, k4⟩ := err_no h2
          have k5 : decide (1099511627776 < ux) = false := decide_eq_false h3
          have k6 : decide (ux < -1099511627776) = false := decide_eq_false h4
          have k7 : decide (d + ux < 1) = true := decide_eq_true h5
          have j3 : ux ≤ 1099511627776 := by omega
          have j4 : -1099511627776 ≤ ux := by omega
          clear h1 h2 h3 h4
          go_wp2_with fail
          refine HC1.out.mono ?_
          rintro e w3 ⟨rfl, hr3, hb3⟩
          have Hr3 := Lib.hid hr3
          have Hb3 := Lib.hid hb3
          clear hr3 hb3
          go_wp2_with fail
          refine (HC2.out _ Hr3.out).mono ?_
          rintro e w4 ⟨rfl, hr4, hb4⟩
          have hw4 := (hb4.block g Hgc.out).trans (Hb3.out.block g Hgc.out)
          have f0' := (World.cell?_of_block (a := ⟨g, o + m * 2, none⟩) hw4).trans f0
          have f1' := (World.cell?_of_block (a := ⟨g, o + m * 2 + 1, none⟩) hw4).trans f1
          have hcl : c < w4.heap.size := (Array.getElem?_eq_some_iff.1 hr4).1
          have Hb4 := Lib.hid (((Hbel.out.trans (Hb3.out.below hBc)).trans (hb4.below hBc)).alloc (Nat.le_trans hBc (Nat.le_of_lt hcl)) (.cells #[.int .i64 pT, .int .i64 pV] 60))
          clear hr4 hb4 hw4 hcl
          go_wp2_with fail
          refine (UX.out _).mono ?_
          rintro e wz ⟨rfl, rfl⟩
          go_wp2_with fail
          go_ret2
          exact .inl ⟨HRn.out, rfl, Hb4.out⟩
        · obtain ⟨k1, k2⟩ := err_no h1
          obtain ⟨k3, k4⟩ := err_no h2
          have k5 : decide (1099511627776 < ux) = false := decide_eq_false h3
          have k6 : decide (ux < -1099511627776) = false := decide_eq_false h4
          have k7 : decide (d + ux < 1) = false := decide_eq_false h5
          have k8 : decide (1099511627776 < d + ux) = true := decide_eq_true h6
          have j3 : ux ≤ 1099511627776 := by omega
          have j4 : -1099511627776 ≤ ux := by omega
          clear h1 h2 h3 h4 h5
          go_wp2_with fail
          refine HC1.out.mono ?_
          rintro e w3 ⟨rfl, hr3, hb3⟩
          have Hr3 := Lib.hid hr3
          have Hb3 := Lib.hid hb3
          clear hr3 hb3
          go_wp2_with fail
          refine (HC2.out _ Hr3.out).mono ?_
          rintro e w4 ⟨rfl, hr4, hb4⟩
          have hw4 := (hb4.block g Hgc.out).trans (Hb3.out.block g Hgc.out)
          have f0' := (World.cell?_of_block (a := ⟨g, o + m * 2, none⟩) hw4).trans f0
          have f1' := (World.cell?_of_block (a := ⟨g, o + m * 2 + 1, none⟩) hw4).trans f1
          have hcl : c < w4.heap.size := (Array.getElem?_eq_some_iff.1 hr4).1
          have Hb4 := Lib.hid (((Hbel.out.trans (Hb3.out.below hBc)).trans (hb4.below hBc)).alloc (Nat.le_trans hBc (Nat.le_of_lt hcl)) (.cells #[.int .i64 pT, .int .i64 pV] 60))
          clear hr4 hb4 hw4 hcl
          go_wp2_with fail
          refine (UX.out _).mono ?_
          rintro e wz ⟨rfl, rfl⟩
          go_wp2_with fail
          go_ret2
          exact .inl ⟨HRn.out, rfl, Hb4.out⟩
        · obtain ⟨k1, k2⟩ := err_no h1
          obtain ⟨k3, k4⟩ := err_no h2
          have k5 : decide (1099511627776 < ux) = false := decide_eq_false h3
          have k6 : decide (ux < -1099511627776) = false := decide_eq_false h4
          have j3 : ux ≤ 1099511627776 := by omega
          have j4 : -1099511627776 ≤ ux := by omega
          have j5 : 1 ≤ d + ux := by omega
          have j6 : d + ux ≤ 1099511627776 := by omega
          clear h3 h4 h5 h6
          obtain ⟨d', hd'⟩ : ∃ d', d + ux = d' := ⟨_, rfl⟩
          rw [hd'] at h7 j5 j6
          have k7 : decide (d' < 1) = false := decide_eq_false (by omega)
          have k8 : decide (1099511627776 < d') = false := decide_eq_false (by omega)
          have k9 : decide (1099511627776 ≤ pT + d') = true := decide_eq_true h7
          have k9' : decide (pT + d' ≥ 1099511627776) = true := decide_eq_true h7
          clear h1 h2
          go_wp2_with fail
          refine HC1.out.mono ?_
          rintro e w3 ⟨rfl, hr3, hb3⟩
          have Hr3 := Lib.hid hr3
          have Hb3 := Lib.hid hb3
          clear hr3 hb3
          go_wp2_with fail
          refine (HC2.out _ Hr3.out).mono ?_
          rintro e w4 ⟨rfl, hr4, hb4⟩
          have hw4 := (hb4.block g Hgc.out).trans (Hb3.out.block g Hgc.out)
          have f0' := (World.cell?_of_block (a := ⟨g, o + m * 2, none⟩) hw4).trans f0
          have f1' := (World.cell?_of_block (a := ⟨g, o + m * 2 + 1, none⟩) hw4).trans f1
          have hcl : c < w4.heap.size := (Array.getElem?_eq_some_iff.1 hr4).1
          have Hb4 := Lib.hid (((Hbel.out.trans (Hb3.out.below hBc)).trans (hb4.below hBc)).alloc (Nat.le_trans hBc (Nat.le_of_lt hcl)) (.cells #[.int .i64 pT, .int .i64 pV] 60))
          clear hr4 hb4 hw4 hcl
          go_wp2_with fail
          refine (UX.out _).mono ?_
          rintro e wz ⟨rfl, rfl⟩
          go_wp2_with fail
          go_ret2
          exact .inl ⟨HRn.out, rfl, Hb4.out⟩
      · rw [if_pos hc] at hstep
        obtain ⟨h1, h2, h3, h4, h5, h6, h7⟩ := hc
        obtain ⟨k1, k2⟩ := err_no h1
        obtain ⟨k3, k4⟩ := err_no h2
        clear h1 h2
        have HRn := Lib.hid (rest_next Hrest.out hstep)
        have hV' := wrapV_in (p.V + uy)
        obtain ⟨d', hd'⟩ : ∃ d', d + ux = d' := ⟨_, rfl⟩
        rw [hd'] at h5 h6 h7 HRn
        obtain ⟨t', ht'⟩ : ∃ t', p.T + d' = t' := ⟨_, rfl⟩
        rw [ht'] at h7 HRn
        have hw1 : IntKind.i64.wrap (p.V + uy) = wrapV (p.V + uy) := rfl
        obtain ⟨v', hv'⟩ : ∃ v', wrapV (p.V + uy) = v' := ⟨_, rfl⟩
        rw [hv'] at HRn hV' hw1
        have hwt : IntKind.i64.wrap t' = t' := by rw [IntKind.wrap_i64]; omega
        have hwt2 : IntKind.i64.wrap (p.T + d') = t' := by rw [ht', hwt]
        have ht0 : 0 ≤ t' := by omega
        have Hzs := Lib.hid (cells_snoc (ys ++ [p]) ⟨t', v'⟩)
        have hzl : ((ys ++ [p]).flatMap sampleCells).length = (m + 1) * 2 := by rw [flatMap_length sampleCells_length, List.length_append, Hys.out]; rfl
        clear hstep Hrest hv'
        generalize hzs : (ys ++ [p]).flatMap sampleCells = zs at Hlie Hzs hzl
        clear hzs
        have k5 : decide (1099511627776 < ux) = false := decide_eq_false (by omega)
        have k6 : decide (ux < -1099511627776) = false := decide_eq_false (by omega)
        have k7 : decide (d' < 1) = false := decide_eq_false (by omega)
        have k8 : decide (1099511627776 < d') = false := decide_eq_false (by omega)
        have k9 : decide (1099511627776 ≤ t') = false := decide_eq_false (by omega)
        have k9' : decide (t' ≥ 1099511627776) = false := decide_eq_false (by omega)
        generalize hpTe : p.T = pT at *
        generalize hpVe : p.V = pV at *
        clear hpTe hpVe
        go_wp2_with fail
        refine HC1.out.mono ?_
        rintro e w3 ⟨rfl, hr3, hb3⟩
        have Hr3 := Lib.hid hr3
        have Hb3 := Lib.hid hb3
        clear hr3 hb3
        go_wp2_with fail
        refine (HC2.out _ Hr3.out).mono ?_
        rintro e w4 ⟨rfl, hr4, hb4⟩
        have hw4 := (hb4.block g Hgc.out).trans (Hb3.out.block g Hgc.out)
        have f0' := (World.cell?_of_block (a := ⟨g, o + m * 2, none⟩) hw4).trans f0
        have f1' := (World.cell?_of_block (a := ⟨g, o + m * 2 + 1, none⟩) hw4).trans f1
        have hb5 := (Hbel.out.trans (Hb3.out.below hBc)).trans (hb4.below hBc)
        have hl4 := but_lie (but_lie Hlie.out Hb3.out (.inr rfl)) hb4 (.inr rfl)
        have hcl : c < w4.heap.size := (Array.getElem?_eq_some_iff.1 hr4).1
        obtain ⟨w5, hw5⟩ : ∃ w5, w4.alloc (.cells #[.int .i64 pT, .int .i64 pV] 60) = w5 := ⟨_, rfl⟩
        obtain ⟨c0, c1⟩ := box_two hw5
        have hr5 : RdrOf 122 c qe (j + tx + ty) w5 := by rw [← hw5]; exact (heap_alloc_old w4 _ hcl).trans hr4
        have hl5 : Lie (fun k => k < B ∨ k = c ∨ k = w4.heap.size) 60 2 (.slice (some ⟨g, o, none⟩) (m + 1) cap) (m + 1) zs w5 := by
          rw [← hw5]
          refine (hl4.alloc _).shift fun k hk h => ?_
          rcases h with h | h | h
          · exact hl4.2 k hk (.inl h)
          · exact hl4.2 k hk (.inr h)
          · exact Nat.lt_irrefl _ (h ▸ (hl4.1.lt k hk).2)
        have hB5 : Below B w w5 := by rw [← hw5]; exact hb5.alloc (Nat.le_trans hBc (Nat.le_of_lt hcl)) _
        have ho5 : Old (fun k => k < B ∨ k = c ∨ k = w4.heap.size) w5 := by
          intro k hk
          have : w5.heap.size = w4.heap.size + 1 := by rw [← hw5]; simp
          rcases hk with h | h | h <;> omega
        have Hr5 := Lib.hid hr5
        have Hl5 := Lib.hid hl5
        have HB5 := Lib.hid hB5
        have Ho5 := Lib.hid ho5
        clear hr4 hb4 hw4 hb5 hl4 hcl hr5 hl5 hB5 ho5
        go_wp2_with fail
        generalize w4.heap.size = pb at *
        refine (UX.out _).mono ?_
        rintro e wz ⟨rfl, rfl⟩
        clear hw5
        go_wp2_with fail
        have HL3a := Lib.hid (Hl5.out.drew.alloc (.cells #[.int .i64 t', .int .i64 v'] 60))
        have HO3a : Hid (Old (fun k => k < B ∨ k = c ∨ k = pb) (w5.drew.alloc (.cells #[.int .i64 t', .int .i64 v'] 60))) := Lib.hid (Ho5.out.mono (by simp))
        have HRb := Lib.hid (rd_built2 w5.drew (.int .i64 t') (.int .i64 v') 60)
        refine wp_region_held_drew (S := fun w' => w'.cell? ⟨pb, 0, none⟩ = some (.int .i64 pT) ∧ w'.cell? ⟨pb, 1, none⟩ = some (.int .i64 pV)) (by kernel_rfl) ?_ (fun hHeld => ?_)
        · go_keep
        refine wpAnyH_take (i := 0) (oi := _) (v := ?_) (by simp only [List.getElem?_toArray, List.getElem?_cons_succ, List.getElem?_cons_zero]; rfl) (by kernel_rfl) (by kernel_rfl) (by kernel_rfl) (by exact fun _ _ _ h => h) (Or.inl ⟨by rfl, ?_⟩) (by assumption) ?_
        rotate_left
        · (intro w hSw; (try dsimp only at hSw); go_simp) <;> with_reducible rfl
        try simp only [Act.put, List.setIfInBounds_toArray, List.set_cons_zero, List.set_cons_succ]
        refine wpAnyH_take (i := 1) (oi := _) (v := ?_) (by simp only [List.getElem?_toArray, List.getElem?_cons_succ, List.getElem?_cons_zero]; rfl) (by kernel_rfl) (by kernel_rfl) (by kernel_rfl) (by exact fun _ _ _ h => h) (Or.inl ⟨by rfl, ?_⟩) (by assumption) ?_
        rotate_left
        · (intro w hSw; (try dsimp only at hSw); go_simp) <;> with_reducible rfl
        try simp only [Act.put, List.setIfInBounds_toArray, List.set_cons_zero, List.set_cons_succ]
        refine wpAnyH_take (i := 2) (oi := _) (v := ?_) (by simp only [List.getElem?_toArray, List.getElem?_cons_succ, List.getElem?_cons_zero]; rfl) (by kernel_rfl) (by kernel_rfl) (by kernel_rfl) (by exact fun _ _ _ h => h) (Or.inl ⟨by rfl, ?_⟩) (by assumption) ?_
        rotate_left
        · (intro w hSw; (try dsimp only at hSw); go_simp) <;> with_reducible rfl
        try simp only [Act.put, List.setIfInBounds_toArray, List.set_cons_zero, List.set_cons_succ]
        refine wpAnyH_take (i := 3) (oi := _) (v := ?_) (by simp only [List.getElem?_toArray, List.getElem?_cons_succ, List.getElem?_cons_zero]; rfl) (by kernel_rfl) (by kernel_rfl) (by kernel_rfl) (by exact fun _ _ _ h => h) (Or.inl ⟨by rfl, ?_⟩) (by assumption) ?_
        rotate_left
        · (intro w hSw; (try dsimp only at hSw); go_simp) <;> with_reducible rfl
        try simp only [Act.put, List.setIfInBounds_toArray, List.set_cons_zero, List.set_cons_succ]
        refine wpAnyH_take (i := 4) (oi := _) (v := ?_) (by simp only [List.getElem?_toArray, List.getElem?_cons_succ, List.getElem?_cons_zero]; rfl) (by kernel_rfl) (by kernel_rfl) (by kernel_rfl) (by exact fun _ _ _ h => h) (Or.inl ⟨by rfl, ?_⟩) (by assumption) ?_
        rotate_left
        · (intro w hSw; (try dsimp only at hSw); go_simp) <;> with_reducible rfl
        try simp only [Act.put, List.setIfInBounds_toArray, List.set_cons_zero, List.set_cons_succ]
        refine wpAnyH_take (i := 5) (oi := _) (v := ?_) (by simp only [List.getElem?_toArray, List.getElem?_cons_succ, List.getElem?_cons_zero]; rfl) (by kernel_rfl) (by kernel_rfl) (by kernel_rfl) (by exact fun _ _ _ h => h) (Or.inl ⟨by rfl, ?_⟩) (by assumption) ?_
        rotate_left
        · (intro w hSw; (try dsimp only at hSw); go_simp) <;> with_reducible rfl
        try simp only [Act.put, List.setIfInBounds_toArray, List.set_cons_zero, List.set_cons_succ]
        refine wpAnyH_take (i := 6) (oi := _) (v := ?_) (by simp only [List.getElem?_toArray, List.getElem?_cons_succ, List.getElem?_cons_zero]; rfl) (by kernel_rfl) (by kernel_rfl) (by kernel_rfl) (by exact fun _ _ _ h => h) (Or.inl ⟨by rfl, ?_⟩) (by assumption) ?_
        rotate_left
        · (intro w hSw; (try dsimp only at hSw); go_simp) <;> with_reducible rfl
        try simp only [Act.put, List.setIfInBounds_toArray, List.set_cons_zero, List.set_cons_succ]
        refine wpAnyH_take (i := 7) (oi := _) (v := ?_) (by simp only [List.getElem?_toArray, List.getElem?_cons_succ, List.getElem?_cons_zero]; rfl) (by kernel_rfl) (by kernel_rfl) (by kernel_rfl) (by exact fun _ _ _ h => h) (Or.inl ⟨by rfl, ?_⟩) (by assumption) ?_
        rotate_left
        · (intro w hSw; (try dsimp only at hSw); go_simp) <;> with_reducible rfl
        try simp only [Act.put, List.setIfInBounds_toArray, List.set_cons_zero, List.set_cons_succ]
        refine wpAnyH_ready (rs := [8]) (by kernel_rfl) (by simp) ?_
        refine AllReadyH.cons (o := _) (by simp only [List.getElem?_toArray, List.getElem?_cons_succ, List.getElem?_cons_zero]; rfl) (fun K hK => ?_) AllReadyH.nil
        go_simp
        refine (UY.out _).mono ?_
        rintro e wz ⟨rfl, rfl⟩
        go_wp2_with fail
        refine hK.out _ _ ?_ (fun hHeld => ?_)
        · exact hHeld
        clear hK K
        try simp only [Act.put, List.setIfInBounds_toArray, List.set_cons_zero, List.set_cons_succ]
        refine wpAnyH_take (i := 9) (oi := _) (v := ?_) (by simp only [List.getElem?_toArray, List.getElem?_cons_succ, List.getElem?_cons_zero]; rfl) (by kernel_rfl) (by kernel_rfl) (by kernel_rfl) (by exact fun _ _ _ h => h) (Or.inl ⟨by rfl, ?_⟩) (by assumption) ?_
        rotate_left
        · (intro w hSw; (try dsimp only at hSw); go_simp) <;> with_reducible rfl
        try simp only [Act.put, List.setIfInBounds_toArray, List.set_cons_zero, List.set_cons_succ]
        refine wpAnyH_take (i := 10) (oi := _) (v := ?_) (by simp only [List.getElem?_toArray, List.getElem?_cons_succ, List.getElem?_cons_zero]; rfl) (by kernel_rfl) (by kernel_rfl) (by kernel_rfl) (by exact fun _ _ _ h => h) (Or.inl ⟨by rfl, ?_⟩) (by assumption) ?_
        rotate_left
        · (intro w hSw; (try dsimp only at hSw); go_simp) <;> with_reducible rfl
        try simp only [Act.put, List.setIfInBounds_toArray, List.set_cons_zero, List.set_cons_succ]
        refine wpAnyH_ready (rs := [11]) (by kernel_rfl) (by simp) ?_
        refine AllReadyH.cons (o := _) (by simp only [List.getElem?_toArray, List.getElem?_cons_succ, List.getElem?_cons_zero]; rfl) (fun K hK => ?_) AllReadyH.nil
        go_simp
        refine hK.out _ _ ?_ (fun hHeld => ?_)
        · exact ⟨Lib.cell?_alloc_some _ hHeld.1, Lib.cell?_alloc_some _ hHeld.2⟩
        clear hK K
        try simp only [Act.put, List.setIfInBounds_toArray, List.set_cons_zero, List.set_cons_succ]
        refine wpAnyH_ready (rs := [12]) (by kernel_rfl) (by simp) ?_
        refine AllReadyH.cons (o := _) (by simp only [List.getElem?_toArray, List.getElem?_cons_succ, List.getElem?_cons_zero]; rfl) (fun K hK => ?_) AllReadyH.nil
        refine step_append_rd_row rfl (.tmp 84) (.tmp 95) 26 rfl 60 (.agg #[.int .i64 0, .int .i64 0]) 2 16 Try.underlying26 sampleInf rfl (by decide) (fun k => k < B ∨ k = c ∨ k = pb) (m + 1) zs (.slice (some ⟨g, o, none⟩) (m + 1) cap) _ HL3a.out rfl HO3a.out _ 1 _ [.int .i64 t', .int .i64 v'] rfl HRb.out (by intro u hu; simp at hu; rcases hu with rfl | rfl <;> rfl) (by unfold maxLen; omega) (by omega) ?_
        intro sv' w6 hl6 hst hgr6 hat6
        obtain ⟨A', cap', rfl⟩ := hl6.form
        refine hK.out _ _ ?_ (fun hHeld => ?_)
        · exact ⟨(World.cell?_of_block (a := ⟨pb, 0, none⟩) (hst.block pb (.inr (.inr rfl)))).trans hHeld.1, (World.cell?_of_block (a := ⟨pb, 1, none⟩) (hst.block pb (.inr (.inr rfl)))).trans hHeld.2⟩
        clear hK K
        try simp only [Act.put, List.setIfInBounds_toArray, List.set_cons_zero, List.set_cons_succ]
        refine wpAnyH_take (i := 13) (oi := _) (v := ?_) (by simp only [List.getElem?_toArray, List.getElem?_cons_succ, List.getElem?_cons_zero]; rfl) (by kernel_rfl) (by kernel_rfl) (by kernel_rfl) (by exact fun _ _ _ h => h) (Or.inl ⟨by rfl, ?_⟩) (by assumption) ?_
        rotate_left
        · (intro w hSw; (try dsimp only at hSw); go_simp) <;> with_reducible rfl
        try simp only [Act.put, List.setIfInBounds_toArray, List.set_cons_zero, List.set_cons_succ]
        refine wpAnyH_done (by kernel_rfl) ?_ _
        have hr6 : RdrOf 122 c qe (j + tx + ty) w6 := (hst.block c (.inr (.inl rfl))).trans ((heap_alloc_old w5.drew _ (Array.getElem?_eq_some_iff.1 Hr5.out).1).trans Hr5.out)
        have hb6 : Below B w w6 := (HB5.out.drew.alloc (Nat.le_trans hBc (Nat.le_of_lt (Array.getElem?_eq_some_iff.1 Hr5.out).1)) _).trans (hst.below fun k hk => .inl hk)
        have Hr6 := Lib.hid hr6
        have Hb6 := Lib.hid hb6
        have Hl6 := Lib.hid (Lie.shift hl6 (fun g' hg' h => hl6.2 g' hg' (h.elim .inl (fun h => .inr (.inl h)))) : Lie (fun k => k < B ∨ k = c) 60 2 (.slice A' (m + 1 + 1) cap') (m + 1 + 1) _ w6)
        clear hr6 hb6 hl6 hst hgr6 hat6
        go_wp2_with fail
        go_roundw
        case rel =>
          exact ⟨ys ++ [p], ⟨t', v'⟩, j + tx + ty, m + 1, d', A', cap', rfl, rfl, by rw [List.length_append, Hys.out]; rfl, by omega, ht0, h7, hV', by omega, h6, by omega, by rw [Hzs.out]; exact Hl6.out, Hr6.out, Hb6.out, by
            have : n - (m + 1 + 1) = m' := by have := Hm'.out; omega
            rw [this]; exact HRn.out⟩
        case measure => simp [lenOf]; omega
    · obtain rfl : n = m + 1 := by omega
      have hrest' : R = some (ys ++ [p], j) := rest_done (by rw [Nat.sub_self] at hrest; exact hrest)
      have E := Lib.hid (end_any c qe j wr hrdr (by omega) hj)
      have Hlie := Lib.hid hlie
      have Hbel := Lib.hid hbel
      have HRd := Lib.hid hrest'
      clear hrest hrest' hlie hrdr hbel hlt ha hb hys
      go_wp2_with fail
      refine E.out.mono ?_
      rintro e w3 ⟨rfl, hst⟩
      have Hst := Lib.hid hst
      clear hst
      go_wp2_with fail
      go_ret2
      refine .inr ⟨(ys ++ [p], j), _, HRd.out, rfl, ?_, Hbel.out.trans (Hst.out.below.mono (Nat.le_trans hB Hbel.out.size))⟩
      exact (Lie.later Hlie.out fun g _ => by rw [Hst.out.2.2.2]).shift fun g hg h => Hlie.out.2 g hg (.inl h)
end Go.Proofs.Ytmafdbdmmfpeeaa
