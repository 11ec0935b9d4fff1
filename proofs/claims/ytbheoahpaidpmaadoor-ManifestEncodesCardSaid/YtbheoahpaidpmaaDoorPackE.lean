/-
  What the walks of this claim stand on: ManAt, ManDel, ManIns, one behind the other.
-/
import Derived.Test.YtbheoahpaidpmaaDoorManLib
import Derived.Test.YtbheoahpaidpmaaDoorManFile
import Derived.Lib.AppendZerosOnto
import Derived.Lib.Overlaps
import Derived.Laws.IdiomCopy
import Derived.Laws.Externs
import Derived.Deep.RegionLaw
/-! ManAt -/
namespace Go.Proofs.YtbheoahpaidpmaaDoor
open Go Go.RowKit

set_option linter.unusedSimpArgs false in
theorem compare_any (x y : Int) (w : World) : Calls Tryd.prog 54 #[.int .i64 x, .int .i64 y] w fun e w' => e = .returned (.int .i64 (if x < y then -1 else if y < x then 1 else 0)) ∧ w = w' := by
  have e1 : ((x : Int) != x) = false := by simp
  have e2 : ((y : Int) != y) = false := by simp
  by_cases h : x < y
  · rw [if_pos h]
    have k1 : decide (x < y) = true := decide_eq_true h
    clear h
    go_enter Tryd.func54, Tryd.ntmps54
    go_wp2
    go_ret
    exact ⟨rfl, rfl⟩
  · rw [if_neg h]
    have k1 : decide (x < y) = false := decide_eq_false h
    clear h
    by_cases h : y < x
    · rw [if_pos h]
      have k2 : decide (y < x) = true := decide_eq_true h
      clear h
      go_enter Tryd.func54, Tryd.ntmps54
      go_wp2
      go_ret
      exact ⟨rfl, rfl⟩
    · rw [if_neg h]
      have k2 : decide (y < x) = false := decide_eq_false h
      clear h
      go_enter Tryd.func54, Tryd.ntmps54
      go_wp2
      go_ret
      exact ⟨rfl, rfl⟩
def cmpI (x y : Int) : Int := if x < y then -1 else if y < x then 1 else 0
theorem cmpI_lt (x y : Int) : cmpI x y < 0 ↔ x < y := by unfold cmpI; (repeat' split) <;> omega
theorem cmpI_eq (x y : Int) : cmpI x y = 0 ↔ x = y := by unfold cmpI; (repeat' split) <;> omega

set_option linter.unusedSimpArgs false in
set_option maxRecDepth 100000 in
theorem cmpday_any (d : Int) (r : PartV) (w : World) : Calls Tryd.prog 53 #[partVal r, .int .i64 d] w fun e w' => e = .returned (.int .i64 (cmpI r.Day d)) ∧ Below w.heap.size w w' := by
  unfold partVal
  obtain ⟨T, I, V⟩ := r
  simp only
  have HC := Lib.hid (fun w => compare_any T d w)
  have HC2 := Lib.hid (show (if T < d then (-1 : Int) else if d < T then 1 else 0) = cmpI T d from rfl)
  go_enter Tryd.func53, Tryd.ntmps53
  go_wp2_with fail
  refine (HC.out _).mono ?_
  rintro e w1 ⟨rfl, rfl⟩
  rw [HC2.out]
  obtain ⟨k, hk⟩ : ∃ k, cmpI T d = k := ⟨_, rfl⟩
  have Hk := Lib.hid hk
  rw [hk]
  clear hk
  go_wp2_with fail
  go_ret
  exact ⟨by rw [Hk.out]; rfl, (Below.refl _ w).alloc (Nat.le_refl _) _⟩
def thereB (d : Int) (l : List PartV) : Bool := if h : cntP d l < l.length then l[cntP d l].Day == d else false

set_option linter.unusedSimpArgs false in
set_option maxRecDepth 100000 in
set_option maxHeartbeats 1000000 in
theorem at_any (d : Int) (A : Option Addr) (c n : Nat) (xs : List PartV) (w : World) (hr : Rd w 3 A n (xs.flatMap partCells)) (hn : xs.length = n) (hl : n ≤ 1000000) (ha : asc xs) :
    Calls Tryd.prog 31 #[.slice A n c, .int .i64 d] w fun e w' => e = .returned (.tuple #[.int .i64 (cntP d xs), .bool (thereB d xs)]) ∧ Below w.heap.size w w' := by
  have HR := Lib.hid hr
  have HN := Lib.hid hn
  have HA := Lib.hid (fun i (h : i < xs.length) => cntP_at (d := d) ha i h)
  have hcn : cntP d xs ≤ n := by rw [← hn]; exact cntP_le d xs
  obtain ⟨m, hm⟩ : ∃ m, cntP d xs = m := ⟨_, rfl⟩
  rw [hm] at HA hcn ⊢
  have Hm := Lib.hid hm
  clear hr hn ha hm
  go_enter Tryd.func31, Tryd.ntmps31
  go_wp2_with (go_in)
  go_loopw [9, 10] (fun iv jv wr => ∃ i j : Nat, iv = .int .i64 i ∧ jv = .int .i64 j ∧ i ≤ m ∧ m ≤ j ∧ j ≤ n ∧ Below w.heap.size w wr) (fun iv jv _ => (intOf jv).toNat - (intOf iv).toNat)
  case atStart => exact ⟨0, n, rfl, rfl, by omega, hcn, by omega, Below.refl _ _⟩
  case round =>
    obtain ⟨i, j, rfl, rfl, hi, hmj, hj, hbel⟩ := hrel
    have Hbel := Lib.hid hbel
    clear hbel
    by_cases hlt : i < j
    · have hk1 : (i : Int) < j := by omega
      have m1 : IntKind.i64.wrap ((i : Int) + (j : Int)) = (i : Int) + (j : Int) := by rw [IntKind.wrap_i64]; omega
      have m2 : IntKind.u64.wrap ((i : Int) + (j : Int)) = (i : Int) + (j : Int) := by rw [IntKind.wrap_u64]; omega
      obtain ⟨h, hh⟩ : ∃ h, (i + j) / 2 = h := ⟨_, rfl⟩
      have m3 : ((i : Int) + (j : Int)) / 2 = (h : Int) := by omega
      have hih : i ≤ h := by omega
      have hhj : h < j := by omega
      have hhn : (h : Int) < n := by omega
      have hlt' : h < xs.length := by have := HN.out; omega
      obtain ⟨gb, off, rfl, hgb, s0, s1, s2⟩ := part_at (HR.out.below Hbel.out) hlt'
      have HC := Lib.hid (cmpday_any d xs[h] wr)
      have hiff := HA.out h hlt'
      obtain ⟨r, hr⟩ : ∃ r, xs[h] = r := ⟨_, rfl⟩
      rw [hr] at s0 s1 s2 HC hiff
      clear hr hlt' hh
      obtain ⟨T, I, V⟩ := r
      unfold partVal at HC
      simp only at s0 s1 s2 HC hiff
      have hm3 : IntKind.i64.wrap ((h : Int) + 1) = (h : Int) + 1 := by rw [IntKind.wrap_i64]; omega
      obtain ⟨k, hk⟩ : ∃ k, cmpI T d = k := ⟨_, rfl⟩
      have hk0 := cmpI_lt T d
      rw [hk] at HC hk0
      by_cases hlt2 : T < d
      · have k1 : decide (k < 0) = true := decide_eq_true (hk0.2 hlt2)
        have hhm : h < m := hiff.1 hlt2
        clear hk hk0 hlt2 hiff
        go_wp2_with fail
        refine HC.out.mono ?_
        rintro e w1 ⟨rfl, hb1⟩
        have Hb1 := Lib.hid (Hbel.out.trans (hb1.mono Hbel.out.size))
        clear hb1
        go_wp2_with fail
        go_roundw
        case rel => exact ⟨h + 1, j, by go_num, rfl, by omega, by omega, by omega, Hb1.out⟩
        case measure => simp [intOf]; omega
      · have k1 : decide (k < 0) = false := decide_eq_false (mt hk0.1 hlt2)
        have hhm : m ≤ h := Nat.not_lt.1 (mt hiff.2 hlt2)
        clear hk hk0 hlt2 hiff
        go_wp2_with fail
        refine HC.out.mono ?_
        rintro e w1 ⟨rfl, hb1⟩
        have Hb1 := Lib.hid (Hbel.out.trans (hb1.mono Hbel.out.size))
        clear hb1
        go_wp2_with fail
        go_roundw
        case rel => exact ⟨i, h, rfl, rfl, by omega, by omega, by omega, Hb1.out⟩
        case measure => simp [intOf]; omega
    · obtain rfl : i = m := by omega
      obtain rfl : j = i := by omega
      by_cases hin : j < n
      · have hlt' : j < xs.length := by have := HN.out; omega
        have Hth := Lib.hid (show thereB d xs = (xs[j].Day == d) by unfold thereB; rw [dif_pos (by rw [Hm.out]; exact hlt')]; simp only [Hm.out])
        obtain ⟨gb, off, rfl, hgb, s0, s1, s2⟩ := part_at (HR.out.below Hbel.out) hlt'
        have HC := Lib.hid (cmpday_any d xs[j] wr)
        obtain ⟨r, hr⟩ : ∃ r, xs[j] = r := ⟨_, rfl⟩
        rw [hr] at s0 s1 s2 HC Hth
        clear hr hlt'
        obtain ⟨T, I, V⟩ := r
        unfold partVal at HC
        simp only at s0 s1 s2 HC Hth
        have hhn : (j : Int) < n := by omega
        obtain ⟨k, hk⟩ : ∃ k, cmpI T d = k := ⟨_, rfl⟩
        have hk0 := cmpI_eq T d
        rw [hk] at HC hk0
        have hq : (k == 0) = (T == d) := by
          by_cases h : T = d
          · rw [beq_iff_eq.2 h, beq_iff_eq.2 (hk0.2 h)]
          · rw [beq_eq_false_iff_ne.2 h, beq_eq_false_iff_ne.2 (mt hk0.1 h)]
        obtain ⟨q, hqe⟩ : ∃ q, (T == d) = q := ⟨_, rfl⟩
        rw [hqe] at hq Hth
        clear hk hk0 hqe
        go_wp2_with fail
        refine HC.out.mono ?_
        rintro e w1 ⟨rfl, hb1⟩
        have Hb1 := Lib.hid (Hbel.out.trans (hb1.mono Hbel.out.size))
        clear hb1
        go_wp2_with fail
        go_ret2
        exact ⟨by rw [Hth.out]; rfl, Hb1.out⟩
      · have Hth := Lib.hid (show thereB d xs = false by unfold thereB; rw [dif_neg (by rw [Hm.out, HN.out]; exact hin)])
        have hnn : ¬ (j : Int) < n := by omega
        have k1 : decide ((j : Int) < (n : Int)) = false := decide_eq_false hnn
        go_wp2_with fail
        go_ret2
        exact ⟨by rw [Hth.out]; rfl, Hbel.out⟩
end Go.Proofs.YtbheoahpaidpmaaDoor

/-! ManDel -/
namespace Go.Proofs.YtbheoahpaidpmaaDoor
open Go Go.RowKit

def kp (d : Int) (r : PartV) : Bool := r.Day != d
/-- what DeleteFunc answers -/
def DelPost (d : Int) (xs : List PartV) (B : Nat) (w : World) (e : Ending) (w' : World) : Prop :=
  ∃ (A : Option Addr) (c : Nat), e = .returned (.slice A (xs.filter (kp d)).length c) ∧ Rd w' 3 A (xs.filter (kp d)).length ((xs.filter (kp d)).flatMap partCells) ∧ Below B w w' ∧ ∀ a, A = some a → B ≤ a.block
section
variable {p : PartV → Bool} {xs ys : List PartV} {i j : Nat}
theorem del_start (h : i < xs.length) (hf : p xs[i] = false) (ha : ∀ j, (hj : j < i) → p (xs[j]'(by omega)) = true) : (xs.take (i + 1)).filter p = xs.take i := by
  rw [show xs.take (i + 1) = xs.take i ++ [xs[i]] by rw [List.take_append_getElem], List.filter_append]
  have h1 : (xs.take i).filter p = xs.take i := List.filter_eq_self.2 fun r hr => by
    obtain ⟨j, hj, rfl⟩ := List.getElem_of_mem hr
    simp only [List.length_take] at hj
    rw [List.getElem_take]
    exact ha j (by omega)
  simp [h1, hf]
theorem del_keep (h : j < xs.length) (hp : p xs[j] = true) : (xs.take (j + 1)).filter p = (xs.take j).filter p ++ [xs[j]] := by
  rw [show xs.take (j + 1) = xs.take j ++ [xs[j]] by rw [List.take_append_getElem], List.filter_append]
  simp [hp]
theorem del_skip (h : j < xs.length) (hp : p xs[j] = false) : (xs.take (j + 1)).filter p = (xs.take j).filter p := by
  rw [show xs.take (j + 1) = xs.take j ++ [xs[j]] by rw [List.take_append_getElem], List.filter_append]
  simp [hp]
theorem del_get (hl : ys.length = xs.length) (hd : ys.drop j = xs.drop j) (h : j < xs.length) : ys[j]'(by omega) = xs[j] := by
  have h1 : (ys.drop j)[0]? = (xs.drop j)[0]? := by rw [hd]
  rw [List.getElem?_drop, List.getElem?_drop, Nat.add_zero, List.getElem?_eq_getElem h, List.getElem?_eq_getElem (by omega)] at h1
  simpa using h1
theorem del_set {r : PartV} (hi : i < ys.length) (hij : i < j) (ht : ys.take i = (xs.take j).filter p) (hd : ys.drop j = xs.drop j) (hj : j < xs.length) (hr : xs[j] = r) (hp : p r = true) :
    (ys.set i r).take (i + 1) = (xs.take (j + 1)).filter p ∧ (ys.set i r).drop (j + 1) = xs.drop (j + 1) := by
  subst hr
  refine ⟨?_, ?_⟩
  · rw [del_keep hj hp, ← ht]
    rw [List.take_succ_eq_append_getElem (by simpa using hi), List.take_set_of_le (Nat.le_refl _)]
    simp
  · rw [List.drop_set_of_lt (by omega), ← List.drop_drop, hd, List.drop_drop]
end

theorem partZero (w : World) : (zeroValue 40).run Tryd.prog w = .ok (.agg #[.int .i64 0, .int .i64 0, .string ⟨#[]⟩]) w := by kernel_rfl
/-- the first rows of a row stand when what is behind them is written over -/
theorem Lie.cut {R : Nat → Prop} {n i c g : Nat} {w : World} {ys : List PartV} (h : Lie R 40 3 (.slice (some ⟨g, 0, none⟩) n c) n (ys.flatMap partCells) w) (hi : i ≤ ys.length) (vs : List Value) :
    Rd (w.setCells g (i * 3) vs) 3 (some ⟨g, 0, none⟩) i ((ys.take i).flatMap partCells) := by
  have hl : ((ys.take i).flatMap partCells).length = i * 3 := by rw [flatMap_length partCells_length, List.length_take]; congr 1; omega
  refine ⟨hl, fun hp => ?_⟩
  have hn : 0 < n := by
    have h1 := h.1.1
    rw [flatMap_length partCells_length] at h1
    omega
  obtain ⟨b, off, e, hb, hc⟩ := h.rd.2 hn
  obtain ⟨rfl, rfl⟩ : g = b ∧ 0 = off := by simpa using e
  refine ⟨g, 0, rfl, by rw [size_cells]; exact hb, fun t u hu => ?_⟩
  have ht : t < i * 3 := by
    have := (List.getElem?_eq_some_iff.1 hu).1
    omega
  rw [World.cell?_setCells_out _ _ _ _ _ (fun _ _ => .inl (by simp only; omega))]
  refine hc t u ?_
  rw [← List.take_append_drop i ys, List.flatMap_append, List.getElem?_append_left (by omega)]
  exact hu

set_option linter.unusedSimpArgs false in
set_option maxRecDepth 100000 in
set_option maxHeartbeats 2000000 in
theorem delete_at (d : Int) (b B : Nat) (A : Option Addr) (c n : Nat) (xs : List PartV) (w : World) (h0 : w.cell? ⟨b, 1, none⟩ = some (.int .i64 d)) (hb : b < B) (hB : B ≤ w.heap.size)
    (hr : Lie (fun k => k < B) 40 3 (.slice A n c) n (xs.flatMap partCells) w) (hn : xs.length = n) (hl : n ≤ 1000000) :
    Calls Tryd.prog 33 #[.slice A n c, .func (.func 34) #[] #[.pointer (some ⟨b, 0, none⟩)]] w (DelPost d xs B w) := by
  have HR := Lib.hid hr
  have HN := Lib.hid hn
  have H0 := Lib.hid h0
  have HI := Lib.hid (index_a d b A c n xs w h0 hr.rd hn hl)
  clear hr hn h0
  go_enter Tryd.func33, Tryd.ntmps33
  go_wp2_with fail
  refine HI.out.mono ?_
  rintro e w1 ⟨hb1, ⟨hall, rfl⟩ | ⟨i0, hi0, hf0, ha0, rfl⟩⟩
  · have Hb1 := Lib.hid hb1
    have Hall := Lib.hid hall
    clear hb1 hall
    go_wp2_with fail
    go_ret
    have hfil : xs.filter (kp d) = xs := List.filter_eq_self.2 fun r hr => by unfold kp; rw [bne, Hall.out r hr]; rfl
    exact ⟨A, c, by rw [hfil, HN.out]; rfl, by rw [hfil, HN.out]; exact HR.out.rd.below Hb1.out, Hb1.out.mono hB, fun a e => by subst e; exact Nat.not_lt.1 fun hk => HR.out.2 a.block rfl hk⟩
  · obtain ⟨g, rfl, hnc, hcm⟩ := HR.out.own (show 0 < n by rw [← HN.out]; omega)
    have hgB : B ≤ g := by
      have := HR.out.2 g rfl
      omega
    have hin : i0 < n := by rw [← HN.out]; exact hi0
    have k1 : ((i0 : Int) == -1) = false := beq_eq_false_iff_ne.2 (by omega)
    have hst := del_start (p := kp d) hi0 (by unfold kp; rw [bne, hf0]; rfl) (fun j hj => by unfold kp; rw [bne, ha0 j hj]; rfl)
    have Hst := Lib.hid hst
    have Hb1 := Lib.hid (show Below B w w1 from hb1.mono hB)
    have HR1 := Lib.hid (HR.out.below hb1)
    clear hst hf0 ha0 hb1 hi0 HI HR
    go_wp2_with fail
    go_loopw [5, 6] (fun s5 s6 wr => ∃ (i j : Nat) (ys : List PartV), s5 = .int .i64 i ∧ s6 = .int .i64 j ∧ i < j ∧ j ≤ n ∧ ys.length = n ∧ i = ((xs.take j).filter (kp d)).length ∧ ys.take i = (xs.take j).filter (kp d) ∧ ys.drop j = xs.drop j ∧ Lie (fun k => k < B) 40 3 (.slice (some ⟨g, 0, none⟩) n c) n (ys.flatMap partCells) wr ∧ Below B w wr) (fun _ s6 _ => n - (intOf s6).toNat)
    case atStart => exact ⟨i0, i0 + 1, xs, rfl, by go_num, by omega, by omega, HN.out, by rw [Hst.out, List.length_take, HN.out]; omega, Hst.out.symm, rfl, HR1.out, Hb1.out⟩
    case round =>
      obtain ⟨i, j, ys, rfl, rfl, hij, hjn, hyl, hcnt, htk, hdr, hlie, hbel⟩ := hrel
      have Hyl := Lib.hid hyl
      have Hcnt := Lib.hid hcnt
      have Htk := Lib.hid htk
      have Hdr := Lib.hid hdr
      have Hlie := Lib.hid hlie
      have Hbel := Lib.hid hbel
      clear hyl hcnt htk hdr hlie hbel
      by_cases hlt : j < n
      · have hlt' : j < ys.length := by have := Hyl.out; omega
        obtain ⟨gb, off, e, hgb, s0, s1, s2⟩ := part_at Hlie.out.rd hlt'
        obtain ⟨rfl, rfl⟩ : g = gb ∧ 0 = off := by simpa using e
        have hjx : j < xs.length := by have := HN.out; omega
        have hyx := del_get (by rw [Hyl.out, HN.out]) Hdr.out hjx
        obtain ⟨r, hr⟩ : ∃ r, xs[j] = r := ⟨_, rfl⟩
        rw [hyx, hr] at s0 s1 s2
        simp only [Nat.zero_add] at s0 s1 s2
        have Hr := Lib.hid (show ∀ h : j < xs.length, xs[j]'h = r from fun _ => hr)
        clear e hyx hr hlt' hjx
        have hwr : B ≤ wr.heap.size := by omega
        have hk1 : (j : Int) < n := by omega
        have hk2 : (i : Int) < n := by omega
        obtain ⟨T, I, V⟩ := r
        simp only at s0 s1 s2
        have HC := Lib.hid (isday_a d ⟨T, I, V⟩ b (wr.alloc (.cells #[.int .i64 T, .int .i64 I, .string (S V)] 40)) (Lib.cell?_alloc_some _ ((Hbel.out.cell (p := ⟨b, 1, none⟩) hb).trans H0.out)))
        unfold partVal at HC
        simp only at HC
        have hkq : kp d ⟨T, I, V⟩ = !(T == d) := rfl
        cases hbb : kp d ⟨T, I, V⟩ with
        | true =>
          have hq : (T == d) = false := by rw [hbb] at hkq; cases h : (T == d) with | true => rw [h] at hkq; cases hkq | false => rfl
          rw [hq] at HC
          have Hb := Lib.hid hbb
          clear hbb hkq hq
          go_wp2_with fail
          refine HC.out.mono ?_
          rintro e w2 ⟨rfl, hb2⟩
          have b0 := keepc hb2 ((Lib.cell_of_heap (heap_alloc_new wr (.cells #[.int .i64 T, .int .i64 I, .string (S V)] 40)) 0).trans rfl)
          have b1 := keepc hb2 ((Lib.cell_of_heap (heap_alloc_new wr (.cells #[.int .i64 T, .int .i64 I, .string (S V)] 40)) 1).trans rfl)
          have b2 := keepc hb2 ((Lib.cell_of_heap (heap_alloc_new wr (.cells #[.int .i64 T, .int .i64 I, .string (S V)] 40)) 2).trans rfl)
          have Hb2 := Lib.hid (Hbel.out.trans (hb2.allocl.mono hwr))
          have Hl2 := Lib.hid (Hlie.out.below hb2.allocl)
          have hiy : i < ys.length := by have := Hyl.out; omega
          obtain ⟨gb, off, e, hgb2, v0, v1, v2⟩ := part_at Hl2.out.rd hiy
          obtain ⟨rfl, rfl⟩ : g = gb ∧ 0 = off := by simpa using e
          simp only [Nat.zero_add] at v0 v1 v2
          generalize ys[i] = old at v0 v1 v2
          have z0 := Hl2.out.cell (i * 3)
          have z1 := Hl2.out.cell (i * 3 + 1)
          have z2 := Hl2.out.cell (i * 3 + 2)
          clear hb2 e hiy s0 s1 s2 HC
          go_wp2_with fail
          go_roundw
          case rel =>
            have hiy : i < ys.length := by have := Hyl.out; omega
            have hset := parts_set i ys ⟨T, I, V⟩ hiy
            have hjx : j < xs.length := by rw [HN.out]; exact hlt
            obtain ⟨q1, q2⟩ := del_set hiy hij Htk.out Hdr.out hjx (Hr.out hjx) Hb.out
            have hk := del_keep (p := kp d) hjx (by rw [Hr.out]; exact Hb.out)
            exact ⟨i + 1, j + 1, ys.set i ⟨T, I, V⟩, by go_num, by go_num, by omega, by omega, by rw [List.length_set, Hyl.out], by rw [hk, List.length_append, ← Hcnt.out]; rfl, q1, q2, by rw [← hset]; exact ((Hl2.out.store _).store _).store _, ((Hb2.out.setCell (p := ⟨g, i * 3, none⟩) hgB _).setCell (p := ⟨g, i * 3 + 1, none⟩) hgB _).setCell (p := ⟨g, i * 3 + 2, none⟩) hgB _⟩
          case measure => simp [intOf]; omega
        | false =>
          have hq : (T == d) = true := by rw [hbb] at hkq; cases h : (T == d) with | true => rfl | false => rw [h] at hkq; cases hkq
          rw [hq] at HC
          have Hb := Lib.hid hbb
          clear hbb hkq hq
          go_wp2_with fail
          refine HC.out.mono ?_
          rintro e w2 ⟨rfl, hb2⟩
          have Hb2 := Lib.hid (Hbel.out.trans (hb2.allocl.mono hwr))
          have Hl2 := Lib.hid (Hlie.out.below hb2.allocl)
          clear hb2
          go_wp2_with fail
          go_roundw
          case rel => exact ⟨i, j + 1, ys, rfl, by go_num, by omega, by omega, Hyl.out, by rw [del_skip (by rw [HN.out]; exact hlt) (by rw [Hr.out]; exact Hb.out)]; exact Hcnt.out, by rw [del_skip (by rw [HN.out]; exact hlt) (by rw [Hr.out]; exact Hb.out)]; exact Htk.out, by rw [← List.drop_drop, Hdr.out, List.drop_drop], Hl2.out, Hb2.out⟩
          case measure => simp [intOf]; omega
      · obtain rfl : j = n := by omega
        have hin2 : i < j := hij
        obtain ⟨vs, hvl, hcl⟩ := run_clear_rows (P := Tryd.prog) wr 23 40 (.agg #[.int .i64 0, .int .i64 0, .string ⟨#[]⟩]) 3 Tryd.underlying23 partZero rfl (by decide) (by intro u hu; simp [Value.cells] at hu; rcases hu with rfl | rfl | rfl <;> rfl) g (i * 3) (j - i) (c - i)
          (fun t ht => by
            rw [Hlie.out.1.cellAt _ (by omega), List.getElem?_eq_getElem (by rw [flatMap_length partCells_length, Hyl.out]; omega)]
            rfl)
          (fun t ht => Hlie.out.cell _)
        clear hvl
        go_wp2_with fail
        go_ret
        have hall : (xs.take j).filter (kp d) = xs.filter (kp d) := by rw [List.take_of_length_le (by rw [HN.out]; exact Nat.le_refl _)]
        have hlen : (xs.filter (kp d)).length = i := by rw [← hall, ← Hcnt.out]
        have hcut := Hlie.out.cut (i := i) (by rw [Hyl.out]; omega) vs
        rw [Htk.out, hall] at hcut
        exact ⟨_, c, by rw [hlen]; rfl, by rw [hlen]; exact hcut, below_cells hgB _ _ _ Hbel.out, fun a e => by cases e; exact hgB⟩
def p0 : PartV := ⟨0, 0, []⟩
theorem findP_none {l : List PartV} {d : Int} (h : ∀ r ∈ l, (r.Day == d) = false) : findP l d = none := by
  unfold findP
  exact List.find?_eq_none.2 fun r hr => by rw [h r hr]; simp
theorem findP_some : ∀ {l : List PartV} {d : Int} {i : Nat} (hi : i < l.length), (l[i].Day == d) = true → (∀ j, (hj : j < i) → ((l[j]'(by omega)).Day == d) = false) → findP l d = some l[i]
  | [], _, _, hi, _, _ => absurd hi (by simp)
  | x :: l, d, 0, _, h, _ => by
    simp only [List.getElem_cons_zero] at h ⊢
    unfold findP
    simp only [List.find?_cons, h]
  | x :: l, d, i + 1, hi, h, ha => by
    have h0 := ha 0 (by omega)
    simp only [List.getElem_cons_zero] at h0
    unfold findP
    simp only [List.find?_cons, h0]
    exact findP_some (l := l) (by simpa using hi) h fun j hj => by have := ha (j + 1) (by omega); simpa using this

set_option linter.unusedSimpArgs false in
set_option maxRecDepth 100000 in
theorem mfind_any (d : Int) (A : Option Addr) (c n : Nat) (s : St) (w : World) (hr : Rd w 3 A n (s.Parts.flatMap partCells)) (hn : s.Parts.length = n) (hl : n ≤ 1000000) :
    Calls Tryd.prog 15 #[stVal A n c s, .int .i64 d] w fun e w' => e = .returned (.tuple #[partVal ((findP s.Parts d).getD p0), .bool (findP s.Parts d).isSome]) ∧ Below w.heap.size w w' := by
  unfold stVal
  obtain ⟨P, N, Q, O, D, T, X⟩ := s
  simp only at hr hn ⊢
  obtain ⟨B, hB⟩ : ∃ B, w.heap.size = B := ⟨_, rfl⟩
  obtain ⟨w0, hw0, hs0, hb0, hc0, k0⟩ : ∃ w0, ((w.alloc (.cells #[.slice A n c, .int .i64 N, .int .i64 Q, .bool O, .int .i64 D, .int .i64 T, .int .i64 X] 25)).alloc (.cells #[.int .i64 d] 3)).alloc (.cells #[.int .i64 0, .int .i64 0, .string ⟨#[]⟩] 40) = w0 ∧ w0.heap.size = B + 3 ∧ Below B w w0 ∧ w0.cell? ⟨B + 1, 0, none⟩ = some (.int .i64 d)
      ∧ w0.cell? ⟨B, 0, none⟩ = some (.slice A n c) ∧ w0.heap[B + 2]? = some (.cells #[.int .i64 0, .int .i64 0, .string ⟨#[]⟩] 40 (0, 0)) := by
    have n1 := heap_alloc_new w (.cells #[.slice A n c, .int .i64 N, .int .i64 Q, .bool O, .int .i64 D, .int .i64 T, .int .i64 X] 25)
    have n2 := heap_alloc_new (w.alloc (.cells #[.slice A n c, .int .i64 N, .int .i64 Q, .bool O, .int .i64 D, .int .i64 T, .int .i64 X] 25)) (.cells #[.int .i64 d] 3)
    have n3 := heap_alloc_new ((w.alloc (.cells #[.slice A n c, .int .i64 N, .int .i64 Q, .bool O, .int .i64 D, .int .i64 T, .int .i64 X] 25)).alloc (.cells #[.int .i64 d] 3)) (.cells #[.int .i64 0, .int .i64 0, .string ⟨#[]⟩] 40)
    simp only [World.size_alloc, hB, Nat.add_assoc, Nat.reduceAdd] at n1 n2 n3
    refine ⟨_, rfl, by simp [hB], ?_, ?_, ?_, n3⟩
    · subst hB
      exact (((Below.refl _ _).alloc (Nat.le_refl _) _).alloc (by simp) _).alloc (by simp; omega) _
    · rw [Lib.cell_of_heap ((Lib.alloc_old _ _ _ (by simp; omega)).trans n2)]; rfl
    · rw [Lib.cell_of_heap ((Lib.alloc_old _ _ _ (by simp; omega)).trans ((Lib.alloc_old _ _ _ (by simp; omega)).trans n1))]; rfl
  have hrd0 := hr.below (hB ▸ hb0)
  have HC := Lib.hid (index_f d (B + 1) A c n P w0 hc0 hrd0 hn hl)
  have Hrd0 := Lib.hid hrd0
  have Hn := Lib.hid hn
  have HB := Lib.hid hB
  have Hk0 := Lib.hid k0.2
  have k1 := k0.1
  have HB0 := Lib.hid hb0
  clear hr hrd0 hb0 hc0 k0 hn
  go_enter Tryd.func15, Tryd.ntmps15
  go_wp2_with fail
  try simp only [hw0]
  clear hw0 hB
  refine HC.out.mono ?_
  rintro e w1 ⟨hb1, ⟨hall, rfl⟩ | ⟨i, hi, hf, hal, rfl⟩⟩
  · have HF := Lib.hid (findP_none hall)
    have Hb1 := Lib.hid (HB0.out.trans (hb1.mono (by omega)))
    have hk := (hb1.block (B + 2) (by omega)).trans Hk0.out
    have c0 := (Lib.cell_of_heap hk 0).trans rfl
    have c1 := (Lib.cell_of_heap hk 1).trans rfl
    have c2 := (Lib.cell_of_heap hk 2).trans rfl
    have z0 := Lib.frozen_of_heap hk 0
    have z1 := Lib.frozen_of_heap hk 1
    have z2 := Lib.frozen_of_heap hk 2
    clear hall hb1 hk HC
    go_wp2_with fail
    refine bodyPost_ret (v := .tuple #[partVal p0, .bool false]) (by rw [results_cell_tmp rfl]; go_simp; rfl) rfl ⟨by rw [HF.out]; rfl, ?_⟩
    rw [HB.out]
    exact ((Hb1.out.setCell (p := ⟨B + 2, 0, none⟩) (by simp) _).setCell (p := ⟨B + 2, 1, none⟩) (by simp) _).setCell (p := ⟨B + 2, 2, none⟩) (by simp) _
  · have HF := Lib.hid (findP_some hi hf hal)
    have Hb1 := Lib.hid (HB0.out.trans (hb1.mono (by omega)))
    have hk := (hb1.block (B + 2) (by omega)).trans Hk0.out
    have c0 := (Lib.cell_of_heap hk 0).trans rfl
    have c1 := (Lib.cell_of_heap hk 1).trans rfl
    have c2 := (Lib.cell_of_heap hk 2).trans rfl
    have z0 := Lib.frozen_of_heap hk 0
    have z1 := Lib.frozen_of_heap hk 1
    have z2 := Lib.frozen_of_heap hk 2
    have k2 := keepc hb1 k1
    obtain ⟨gb, off, rfl, hgb, s0, s1, s2⟩ := part_at (Hrd0.out.below hb1) hi
    have hin : i < n := by have := Hn.out; omega
    have hin2 : (i : Int) < n := by omega
    have hni : decide ((i : Int) < 0) = false := decide_eq_false (by omega)
    generalize P[i] = p at *
    obtain ⟨T1, I1, V1⟩ := p
    simp only at s0 s1 s2
    clear hb1 hk HC hf hal
    go_wp2_with fail
    refine bodyPost_ret (v := .tuple #[partVal ⟨T1, I1, V1⟩, .bool true]) (by rw [results_cell_tmp rfl]; go_simp; rfl) rfl ⟨by rw [HF.out]; rfl, ?_⟩
    rw [HB.out]
    exact ((Hb1.out.setCell (p := ⟨B + 2, 0, none⟩) (by simp) _).setCell (p := ⟨B + 2, 1, none⟩) (by simp) _).setCell (p := ⟨B + 2, 2, none⟩) (by simp) _
end Go.Proofs.YtbheoahpaidpmaaDoor

/-! ManIns -/
namespace Go.Proofs.YtbheoahpaidpmaaDoor
open Go Go.RowKit

/-! the operation copy, where its run is known: after the kit's worked walk of slices.Insert -/
theorem wp_copy_run (w : World) {P : Program} {o : Oper} {a : Act} {K : Act → World → Prop} {Q : Exit → Act → World → Prop} (d s : Operand) (t t' : TypeId)
    (ho : o.op = .call { callee := .builtin .copy, args := #[d, s], argTypes := #[t, t'] }) (v u : Value) (hd : a.eval d = v) (hs : a.eval s = u) {v' : Value} {w' : World}
    (hr : (Builtin.copy_ #[t, t'] o.type #[v, u]).run P w = .ok v' w') (h : K (a.put o.dst v') w') : o.wp P a w K Q := by
  unfold Oper.wp execOp
  simp only [ho, resolve, invoke, builtin, Sem.run_bind, Sem.run_pure, Result.andThen_ok, List.map_toArray, List.map_cons, List.map_nil, hd, hs, hr]
  exact h
theorem wpList_copy_run (w : World) {P : Program} {ops : Array Oper} {rest : List Oper} {o : Oper} {a : Act} {Q : Exit → Act → World → Prop} (hgd : o.guard = none) (d s : Operand) (t t' : TypeId)
    (ho : o.op = .call { callee := .builtin .copy, args := #[d, s], argTypes := #[t, t'] }) (v u : Value) (hd : a.eval d = v) (hs : a.eval s = u) {v' : Value} {w' : World}
    (hr : (Builtin.copy_ #[t, t'] o.type #[v, u]).run P w = .ok v' w') (h : wpList P ops Q rest (a.put o.dst v') w') : wpList P ops Q (o :: rest) a w :=
  wpList_plain hgd fun _ hK => wp_copy_run w d s t t' ho v u hd hs hr (hK _ _ h)
theorem wpList_append_run (w : World) {P : Program} {ops : Array Oper} {rest : List Oper} {o : Oper} {a : Act} {Q : Exit → Act → World → Prop} (hgd : o.guard = none) (d s : Operand) (t t' : TypeId)
    (ho : o.op = .call { callee := .builtin .append, args := #[d, s], argTypes := #[t, t'] }) (v u : Value) (hd : a.eval d = v) (hs : a.eval s = u) {v' : Value} {w' : World}
    (hr : (Builtin.append_ #[t, t'] o.type #[v, u]).run P w = .ok v' w') (h : wpList P ops Q rest (a.put o.dst v') w') : wpList P ops Q (o :: rest) a w :=
  wpList_plain hgd fun _ hK => by
    unfold Oper.wp execOp
    simp only [ho, resolve, invoke, builtin, Sem.run_bind, Sem.run_pure, Result.andThen_ok, List.map_toArray, List.map_cons, List.map_nil, hd, hs, hr]
    exact hK _ _ h
theorem step_copy_run {P : Program} {ops : Array Oper} {o : Oper} {a : Act} {w : World} {K : Act → World → Prop} {Q : Exit → Act → World → Prop} {E : Prop}
    (hg : o.guard = none) (d x : Operand) (dT sT : TypeId) (hop : o.op = Op.call { callee := Callee.builtin Builtin.copy, args := #[d, x], argTypes := #[dT, sT] })
    (v u : Value) (hd : a.eval d = v) (hx : a.eval x = u) {v' : Value} {w' : World} (hr : (Builtin.copy_ #[dT, sT] o.type #[v, u]).run P w = .ok v' w') (hK : K (a.put o.dst v') w') :
    if Region.wanted o (yielded ops a.tmps) = true then Oper.wp P o a w K Q else E := by
  have hw : Region.wanted o (yielded ops a.tmps) = true := by simp [Region.wanted, hg]
  rw [if_pos hw]
  unfold Oper.wp
  simp [execOp, hop, resolve, invoke, builtin, hd, hx, hr, Result.andThen]
  exact hK
/-- copy, of elements of k cells -/
theorem run_copy_cellsk {P : Program} (w : World) (dT sT ty elem : TypeId) (k b o dLen dCap : Nat) (a : Addr) (sLen sCap m : Nat) (cs : List Value)
    (hu : P.underlying dT = some (.slice elem)) (hs : (P.info? elem).map (·.size) = some k) (hm : Nat.min sLen dLen = m) (hn : cs.length = m * k)
    (hsrc : ∀ j v, cs[j]? = some v → w.cell? (a.add j) = some v) (hc : ∀ j, j < cs.length → (w.cell? ⟨b, o + j, none⟩).isSome = true) (hf : ∀ j, j < cs.length → w.frozen? ⟨b, o + j, none⟩ = false) (h1 : ∀ v ∈ cs, v.oneCell' = true) :
    (Builtin.copy_ #[dT, sT] ty #[.slice (some ⟨b, o, none⟩) dLen dCap, .slice (some a) sLen sCap]).run P w = .ok (goInt m) (w.setCells b o cs) := by
  have hl := run_loadCells_list (P := P) w a cs hsrc
  have hst := run_storeCells_cells (P := P) b o cs 0 w (by simpa using hc) (by simpa using hf) h1
  cases hq : P.info? elem with
  | none => simp [hq] at hs
  | some i =>
    have hi : i.size = k := by simpa [hq] using hs
    simp [Builtin.copy_, run_underlying hu, Builtin.lenOf, Builtin.firstCells, sizeOf, typeInfo, hq, hi, hm, ← hn, hl, hst]

section
variable {R : Nat → Prop} {e : TypeId} {size n c g : Nat} {w : World} {xs : List Value}
/-- one element more, of what stands behind -/
theorem Lie.extend {A : Option Addr} (h : Lie R e size (.slice A n c) n xs w) (hn : 0 < n) (hc : n + 1 ≤ c) : ∃ us, us.length = size ∧ Lie R e size (.slice A (n + 1) c) (n + 1) (xs ++ us) w := by
  rcases h.1.2 with ⟨h1, h2⟩ | ⟨g', cap, cur, hv, hb, hg, hnc, hm, hs, ht⟩
  · omega
  · simp only [Value.slice.injEq] at hv
    obtain ⟨rfl, _, rfl⟩ := hv
    have hl : (n + 1) * size ≤ cur.size := by rw [hs]; exact Nat.mul_le_mul_right _ hc
    have hsplit : cur.toList.take ((n + 1) * size) = xs ++ (cur.toList.drop (n * size)).take size := by
      rw [Nat.add_mul, Nat.one_mul, List.take_add, ht]
    have hlen : ((cur.toList.drop (n * size)).take size).length = size := by
      rw [List.length_take, List.length_drop, Array.length_toList]
      rw [Nat.add_mul, Nat.one_mul] at hl
      omega
    refine ⟨_, hlen, ⟨by rw [List.length_append, hlen, h.1.1, Nat.add_mul, Nat.one_mul], .inr ⟨g', c, cur, rfl, hb, hg, hc, hm, hs, hsplit⟩⟩, h.2⟩
theorem Lie.stores : ∀ (vs : List Value) (o : Nat) (xs : List Value) (w : World), Lie R e size (.slice (some ⟨g, 0, none⟩) n c) n xs w → o + vs.length ≤ xs.length → Lie R e size (.slice (some ⟨g, 0, none⟩) n c) n (xs.take o ++ vs ++ xs.drop (o + vs.length)) (w.setCells g o vs)
  | [], o, xs, w, h, _ => by simpa [World.setCells] using h
  | v :: r, o, xs, w, h, hl => by
    have h1 := Lie.stores r (o + 1) (xs.set o v) (w.setCell ⟨g, o, none⟩ v) (h.store v) (by simp at hl ⊢; omega)
    rw [World.setCells]
    have e1 : (xs.set o v).take (o + 1) = xs.take o ++ [v] := by
      rw [List.take_succ_eq_append_getElem (by simp at hl ⊢; omega), List.take_set_of_le (Nat.le_refl _)]
      simp
    have e2 : (xs.set o v).drop (o + 1 + r.length) = xs.drop (o + (v :: r).length) := by
      rw [List.drop_set_of_lt (by omega)]
      congr 1
      simp
      omega
    rw [e1, e2] at h1
    simpa using h1
theorem Lie.isSome (h : Lie R e size (.slice (some ⟨g, 0, none⟩) n c) n xs w) {j : Nat} (hj : j < n * size) : (w.cell? ⟨g, j, none⟩).isSome = true := by
  have := h.1.cellAt j hj
  rw [this, List.getElem?_eq_getElem (by rw [h.1.1]; exact hj)]
  rfl
theorem Lie.drewl (h : Lie R e size (.slice (some ⟨g, 0, none⟩) n c) n xs w) : Lie R e size (.slice (some ⟨g, 0, none⟩) n c) n xs w.drew := h
end
theorem flat_take (xs : List PartV) (i : Nat) : (xs.flatMap partCells).take (i * 3) = (xs.take i).flatMap partCells := by
  induction xs generalizing i with
  | nil => simp
  | cons x xs ih =>
    cases i with
    | zero => simp
    | succ i =>
      rw [List.take_succ_cons, List.flatMap_cons, List.flatMap_cons, ← ih i, show (i + 1) * 3 = 3 + i * 3 by omega]
      simp only [partCells, List.cons_append, List.nil_append]
      rw [show 3 + i * 3 = i * 3 + 1 + 1 + 1 by omega, List.take_succ_cons, List.take_succ_cons, List.take_succ_cons]
theorem flat_drop (xs : List PartV) (i : Nat) : (xs.flatMap partCells).drop (i * 3) = (xs.drop i).flatMap partCells := by
  induction xs generalizing i with
  | nil => simp
  | cons x xs ih =>
    cases i with
    | zero => simp
    | succ i =>
      rw [List.drop_succ_cons, List.flatMap_cons, ← ih i]
      simp only [partCells, List.cons_append, List.nil_append]
      rw [show (i + 1) * 3 = i * 3 + 1 + 1 + 1 by omega, List.drop_succ_cons, List.drop_succ_cons, List.drop_succ_cons]

theorem ins_list {X us Z : List Value} {i n : Nat} (hX : X.length = n * 3) (hu : us.length = 3) (hZ : Z.length = 3) (hi : i < n) :
    (((X ++ us).take ((i + 1) * 3) ++ X.drop (i * 3) ++ (X ++ us).drop ((i + 1) * 3 + (X.drop (i * 3)).length)).take (i * 3)) ++ Z ++ (((X ++ us).take ((i + 1) * 3) ++ X.drop (i * 3) ++ (X ++ us).drop ((i + 1) * 3 + (X.drop (i * 3)).length)).drop (i * 3 + Z.length)) = X.take (i * 3) ++ Z ++ X.drop (i * 3) := by
  have e1 : (X ++ us).drop ((i + 1) * 3 + (X.drop (i * 3)).length) = [] := List.drop_eq_nil_of_le (by rw [List.length_append, List.length_drop]; omega)
  have e2 : ((X ++ us).take ((i + 1) * 3)).length = (i + 1) * 3 := by rw [List.length_take, List.length_append]; omega
  rw [e1, List.append_nil, hZ]
  congr 1
  · congr 1
    rw [List.take_append_of_le_length (by omega), List.take_take, Nat.min_eq_left (by omega), List.take_append_of_le_length (by omega)]
  · rw [show i * 3 + 3 = ((X ++ us).take ((i + 1) * 3)).length by omega, List.drop_left]
theorem grow_list {X zs Z : List Value} {i n : Nat} (hX : X.length = n * 3) (hz : zs.length = (n + 1 - i) * 3) (hZ : Z.length = 3) (hi : i < n) :
    let L1 := (X.take (i * 3) ++ zs).take (i * 3) ++ Z ++ (X.take (i * 3) ++ zs).drop (i * 3 + Z.length)
    L1.take ((i + 1) * 3) ++ X.drop (i * 3) ++ L1.drop ((i + 1) * 3 + (X.drop (i * 3)).length) = X.take (i * 3) ++ Z ++ X.drop (i * 3) := by
  intro L1
  have e0 : (X.take (i * 3)).length = i * 3 := by rw [List.length_take]; omega
  have e1 : (X.take (i * 3) ++ zs).take (i * 3) = X.take (i * 3) := by
    have := List.take_left (l₁ := X.take (i * 3)) (l₂ := zs)
    rwa [e0] at this
  have hl1 : L1 = (X.take (i * 3) ++ Z) ++ (X.take (i * 3) ++ zs).drop (i * 3 + Z.length) := by
    show (X.take (i * 3) ++ zs).take (i * 3) ++ Z ++ _ = _
    rw [e1]
  have e2 : (X.take (i * 3) ++ Z).length = (i + 1) * 3 := by rw [List.length_append, e0, hZ]; omega
  have e3 : L1.length = (n + 1) * 3 := by
    rw [hl1, List.length_append, e2, List.length_drop, List.length_append, e0, hz, hZ]
    omega
  rw [show L1.drop ((i + 1) * 3 + (X.drop (i * 3)).length) = [] from List.drop_eq_nil_of_le (by rw [e3, List.length_drop]; omega), List.append_nil]
  congr 1
  rw [hl1]
  have := List.take_left (l₁ := X.take (i * 3) ++ Z) (l₂ := (X.take (i * 3) ++ zs).drop (i * 3 + Z.length))
  rwa [e2] at this

set_option linter.unusedSimpArgs false in
set_option maxRecDepth 100000 in
set_option maxHeartbeats 2000000 in
theorem insert_any (B : Nat) (A : Option Addr) (c n i vb : Nat) (xs : List PartV) (w : World) (hB : B ≤ w.heap.size) (hr : Lie (fun k => k < B) 40 3 (.slice A n c) n (xs.flatMap partCells) w) (hn : xs.length = n) (hl : n ≤ 1000000) (hi : i ≤ n)
    (hv : w.heap[vb]? = some (.cells #[.int .i64 0, .int .i64 0, .string ⟨#[]⟩] 40 (0, 0))) (hvb : ∀ g, (Value.slice A n c).ownBlock = some g → vb ≠ g) (hnc : n ≤ c) :
    Calls Tryd.prog 32 #[.slice A n c, .int .i64 i, .slice (some ⟨vb, 0, none⟩) 1 1] w fun e w' =>
      ∃ A' c', e = .returned (.slice A' (n + 1) c') ∧ Lie (fun k => k < B) 40 3 (.slice A' (n + 1) c') (n + 1) ((xs.take i ++ p0 :: xs.drop i).flatMap partCells) w' ∧ Below B w w' := by
  have hvlt : vb < w.heap.size := (Array.getElem?_eq_some_iff.1 hv).1
  have hvc : ∀ j v, ([.int .i64 0, .int .i64 0, .string ⟨#[]⟩] : List Value)[j]? = some v → w.cell? ⟨vb, j, none⟩ = some v := fun j v hj => by
    rw [Lib.cell_of_heap hv]; simpa using hj
  have hrv : Rd w 3 (some ⟨vb, 0, none⟩) 1 [.int .i64 0, .int .i64 0, .string ⟨#[]⟩] := ⟨rfl, fun _ => ⟨vb, 0, rfl, hvlt, fun j u hj => by rw [Nat.zero_add]; exact hvc j u hj⟩⟩
  have hz1 : ((1 : Int) == 0) = false := rfl
  have hold : Old (fun k => k < B) w := fun k hk => Nat.lt_of_lt_of_le hk hB
  by_cases hin : i = n
  · subst hin
    have Hr := Lib.hid hr
    have Hn := Lib.hid hn
    have Hrv := Lib.hid hrv
    have e1 : ((i : Int) == (i : Int)) = true := by simp
    clear hr hn hrv hv hvb
    go_enter Tryd.func32, Tryd.ntmps32
    go_wp2_with (at_builtin; go_must (refine wpList_append_rd_row rfl (.tmp 23) (.tmp 24) 23 (by rfl) 40 (.agg #[.int .i64 0, .int .i64 0, .string ⟨#[]⟩]) 3 32 Tryd.underlying23 partInf rfl (by decide) (fun k => k < B) i _ _ w Hr.out (by rfl) hold (some ⟨vb, 0, none⟩) 1 1 [.int .i64 0, .int .i64 0, .string ⟨#[]⟩] (by rfl) Hrv.out (by intro u hu; simp at hu; rcases hu with rfl | rfl <;> rfl) (by unfold maxLen; omega) (by omega) ?_); intro v6 w6 hown6 hst6 hgr6 hat6; have Ho6 := Lib.hid hown6; have Hb6 := Lib.hid (hst6.below fun k hk => hk); obtain ⟨A6, c6, rfl⟩ := hown6.form; clear hown6 hst6 hgr6 hat6)
    all_goals
      go_ret
      refine ⟨A6, c6, rfl, ?_, Hb6.out⟩
      have h6 := Ho6.out
      rw [List.take_of_length_le (by rw [Hn.out]; exact Nat.le_refl _), List.drop_eq_nil_of_le (by rw [Hn.out]; exact Nat.le_refl _)]
      simpa [partCells, p0, S] using h6
  · have hlt : i < n := by omega
    obtain ⟨g, rfl, -, -⟩ := hr.own (by omega)
    have hgB : B ≤ g := Nat.not_lt.1 fun hk => hr.2 g rfl hk
    have hvg : vb ≠ g := hvb g rfl
    have hXl : (xs.flatMap partCells).length = n * 3 := hr.1.1
    have hcs : ∀ j v, (xs.flatMap partCells)[j]? = some v → w.cell? ⟨g, j, none⟩ = some v := fun j v hj => by
      obtain ⟨b', o', e', -, hc'⟩ := hr.rd.2 (by omega)
      obtain ⟨rfl, rfl⟩ : g = b' ∧ 0 = o' := by simpa using e'
      have := hc' j v hj
      rwa [Nat.zero_add] at this
    have hXi : ((xs.flatMap partCells).drop (i * 3)).length = (n - i) * 3 := by rw [List.length_drop, hXl]; omega
    have hXo : ∀ u ∈ xs.flatMap partCells, u.oneCell' = true := parts_one
    have hsz : (Tryd.prog.info? 40).map (·.size) = some 3 := by
      obtain ⟨i0, hi0, -, h1, -⟩ := info_parts partInf
      rw [hi0]; simp [h1]
    have Hfin := Lib.hid (show (xs.flatMap partCells).take (i * 3) ++ [.int .i64 0, .int .i64 0, .string ⟨#[]⟩] ++ (xs.flatMap partCells).drop (i * 3) = (xs.take i ++ p0 :: xs.drop i).flatMap partCells by
      rw [flat_take, flat_drop, List.flatMap_append, List.flatMap_cons]
      simp [partCells, p0, S])
    obtain ⟨X, hX⟩ : ∃ X, xs.flatMap partCells = X := ⟨_, rfl⟩
    rw [hX] at hr hcs hXi hXo hXl Hfin
    clear hX hn
    have e1 : ((i : Int) == (n : Int)) = false := beq_eq_false_iff_ne.2 (by omega)
    have a1 : IntKind.i64.wrap ((n : Int) + 1) = (n : Int) + 1 := by rw [IntKind.wrap_i64]; omega
    have a2 : IntKind.i64.wrap ((i : Int) + 1) = (i : Int) + 1 := by rw [IntKind.wrap_i64]; omega
    have b1 : ((n : Int) + 1).toNat = n + 1 := by omega
    have b2 : ((i : Int) + 1).toNat = i + 1 := by omega
    have b3 : (0 : Int) ≤ (n : Int) + 1 := by omega
    have b4 : (0 : Int) ≤ (i : Int) + 1 := by omega
    have d4 : ¬ (c = i) := by omega
    by_cases hroom : n + 1 ≤ c
    · have k1 : decide ((c : Int) < (n : Int) + 1) = false := decide_eq_false (by omega)
      obtain ⟨us, hul, hext⟩ := hr.extend (by omega) hroom
      have c1 : (n : Int) + 1 ≤ c := by omega
      have c2 : (i : Int) + 1 ≤ (n : Int) + 1 := by omega
      have c3 : (i : Int) ≤ (n : Int) + 1 := by omega
      have d1 : ¬ (c = i + 1) := by omega
      have d2 : ¬ (c = n + 1) ∨ c = n + 1 := by omega
      obtain ⟨cap, hshape, hcap⟩ : ∃ k, w.shape? g = some (40, k) ∧ k ≠ 0 := by
        rcases hr.1.2 with ⟨h1, _⟩ | ⟨g', cap, cur, hv', hb', hg', hnc', hm', hs', ht'⟩
        · simp at h1
        · simp only [Value.slice.injEq, Option.some.injEq, Addr.mk.injEq] at hv'
          obtain ⟨⟨rfl, _, _⟩, _, rfl⟩ := hv'
          refine ⟨cur.size, by simp [World.shape?, hg'], by omega⟩
      have hov : ∀ o lb cb, (callFunc 55 #[.slice (some ⟨vb, 0, none⟩) 1 1, .slice (some ⟨g, o, none⟩) lb cb]).run Tryd.prog w = .ok (.value (.bool false)) w := fun o lb cb => by
        rw [run_callFunc_extern Tryd.func55 (by kernel_rfl) (by kernel_rfl) (by kernel_rfl) (e := Extern.SlicesOverlaps.overlaps #[23, 23] #[4]) (by kernel_rfl),
          Lib.run_overlaps_apart w 23 4 40 Tryd.underlying23 3 Tryd.sizeOf40 ⟨vb, 0, none⟩ ⟨g, o, none⟩ 1 1 lb cb hvg 40 40 3 cap (by simp [World.shape?, hv]) hshape hcap (Lib.frozen_of_heap hv 0) (Lib.frozen_of_heap hv 3)]
        rfl
      have hm1 : Nat.min (n + 1 - i) (n - i) = n - i := by simp only [Nat.min_def]; split <;> omega
      have hm2 : Nat.min 1 (n + 1 - i) = 1 := by simp only [Nat.min_def]; split <;> omega
      have hcp1 : ∀ ty dc sc, (Builtin.copy_ #[23, 23] ty #[.slice (some ⟨g, (i + 1) * 3, none⟩) (n - i) dc, .slice (some ⟨g, i * 3, none⟩) (n + 1 - i) sc]).run Tryd.prog w.drew = .ok (goInt (n - i : Nat)) (w.drew.setCells g ((i + 1) * 3) (X.drop (i * 3))) := fun ty dc sc =>
        run_copy_cellsk w.drew _ _ ty 40 3 g ((i + 1) * 3) _ dc ⟨g, i * 3, none⟩ _ sc (n - i) (X.drop (i * 3)) Tryd.underlying23 hsz hm1 hXi
          (fun j v hj => by rw [Addr.add_lit]; exact hcs (i * 3 + j) v (by rwa [List.getElem?_drop] at hj))
          (fun j hj => hext.isSome (by omega)) (fun j hj => hext.cell _) (fun v hv' => hXo v (List.mem_of_mem_drop hv'))
      obtain ⟨W1, hW1⟩ : ∃ W1, W1 = w.drew.setCells g ((i + 1) * 3) (X.drop (i * 3)) := ⟨_, rfl⟩
      have hl1 := Lie.stores (X.drop (i * 3)) ((i + 1) * 3) (X ++ us) w.drew hext.drewl (by rw [List.length_append]; omega)
      rw [← hW1] at hl1 hcp1
      have hv1 : ∀ j v, ([.int .i64 0, .int .i64 0, .string ⟨#[]⟩] : List Value)[j]? = some v → W1.cell? ⟨vb, j, none⟩ = some v := fun j v hj => by
        rw [hW1, World.cell?_setCells_out g _ _ _ _ (fun h _ => absurd h hvg)]
        exact hvc j v hj
      have hcp2 : ∀ ty dc, (Builtin.copy_ #[23, 23] ty #[.slice (some ⟨g, i * 3, none⟩) (n + 1 - i) dc, .slice (some ⟨vb, 0, none⟩) 1 1]).run Tryd.prog W1 = .ok (goInt (1 : Nat)) (W1.setCells g (i * 3) [.int .i64 0, .int .i64 0, .string ⟨#[]⟩]) := fun ty dc =>
        run_copy_cellsk W1 _ _ ty 40 3 g (i * 3) _ dc ⟨vb, 0, none⟩ 1 1 1 [.int .i64 0, .int .i64 0, .string ⟨#[]⟩] Tryd.underlying23 hsz hm2 rfl
          (fun j v hj => by rw [Addr.add_lit, Nat.zero_add]; exact hv1 j v hj) (fun j hj => hl1.isSome (by simp at hj; omega)) (fun j hj => hl1.cell _) (by intro u hu; simp at hu; rcases hu with rfl | rfl <;> rfl)
      have hl2 := Lie.stores [.int .i64 0, .int .i64 0, .string ⟨#[]⟩] (i * 3) _ W1 hl1 (by simp only [List.length_append, List.length_take, List.length_drop, List.length_cons, List.length_nil]; omega)
      have hb2 : Below B w (W1.setCells g (i * 3) [.int .i64 0, .int .i64 0, .string ⟨#[]⟩]) := by
        rw [hW1]
        exact below_cells hgB _ _ _ (below_cells hgB _ _ _ (Below.refl B w).drew)
      have Hl2 := Lib.hid hl2
      have Hb2 := Lib.hid hb2
      have Hhul := Lib.hid hul
      have HXl := Lib.hid hXl
      clear hl1 hl2 hb2 hW1 hv1 hext hr hvc hv hcs hshape hrv
      go_enter Tryd.func32, Tryd.ntmps32
      go_wp2_with (simp only [hov])
      go_region_law (refine step_copy_run rfl _ _ 23 23 rfl _ _ (by simp [Act.eval, Act.put]) (by simp [Act.eval, Act.put]) (hcp1 _ _ _) ?_)
      go_wp2_with (at_builtin; refine wpList_copy_run _ rfl _ _ 23 23 rfl _ _ rfl rfl (hcp2 _ _) ?_)
      go_ret
      have h2 := Hl2.out
      rw [ins_list HXl.out Hhul.out rfl hlt, Hfin.out] at h2
      exact ⟨_, c, rfl, h2, Hb2.out⟩
    · have k1 : decide ((c : Int) < (n : Int) + 1) = true := decide_eq_true (by omega)
      have hcn : c < n + 1 := by omega
      obtain ⟨i0, hi0, hz0, hzs, hzb⟩ := info_parts partInf
      have hglt : g < w.heap.size := (hr.1.lt g rfl).2
      have hkk : (n : Int) + 1 - (i : Int) = ((n + 1 - i : Nat) : Int) := by omega
      have hik : i + (n + 1 - i) = n + 1 := by omega
      have a3 : IntKind.i64.wrap ((n : Int) + 1 - (i : Int)) = (n : Int) + 1 - (i : Int) := by rw [IntKind.wrap_i64]; omega
      have hold0 : (Builtin.firstCells i0.size i (.slice (some ⟨g, 0, none⟩) i c)).run Tryd.prog w.drew = .ok (X.take (i * 3)).toArray w.drew := by
        rw [hzs]
        exact run_firstCells_some w.drew 3 i ⟨g, 0, none⟩ i c (X.take (i * 3)) (by rw [List.length_take]; omega) (fun j v hj => by
          rw [Addr.add_lit, Nat.zero_add]
          rw [List.getElem?_take] at hj
          split at hj
          · exact hcs j v hj
          · cases hj)
      obtain ⟨G, hG⟩ : ∃ G, G = grownCap w (n + 1) c 40 := ⟨_, rfl⟩
      have hGn : n + 1 ≤ G := by rw [hG]; exact grownCap_ge _ _ _ _
      have hGm : G ≤ maxLen := by rw [hG]; exact grownCap_le_maxLen _ _ _ _ (by unfold maxLen; omega)
      obtain ⟨zs, hzs'⟩ : ∃ zs, zs = Builtin.zeroCells (Value.agg #[.int .i64 0, .int .i64 0, .string ⟨#[]⟩]).cells (n + 1 - i) := ⟨_, rfl⟩
      obtain ⟨zr, hzr'⟩ : ∃ zr, zr = Builtin.zeroCells (Value.agg #[.int .i64 0, .int .i64 0, .string ⟨#[]⟩]).cells (G - (n + 1)) := ⟨_, rfl⟩
      have hzl : zs.size = (n + 1 - i) * 3 := by rw [hzs']; simp [Builtin.zeroCells, Value.cells]
      have hzl2 : zr.size = (G - (n + 1)) * 3 := by rw [hzr']; simp [Builtin.zeroCells, Value.cells]
      obtain ⟨W1, hW1⟩ : ∃ W1, W1 = w.drew.alloc (.cells ((X.take (i * 3)).toArray ++ zs ++ zr) 40) := ⟨_, rfl⟩
      have hrz : ∀ ty, (Builtin.append_ #[23, 3] ty #[.slice (some ⟨g, 0, none⟩) i c, .int .i64 ((n + 1 - i : Nat) : Int)]).run Tryd.prog w = .ok (.slice (some ⟨w.heap.size, 0, none⟩) (n + 1) G) W1 := fun ty => by
        have h := Lib.run_append_grow_zeros w 23 3 ty 40 i0 _ .i64 .i64 Tryd.underlying23 Tryd.underlying3 hi0 hz0 (some ⟨g, 0, none⟩) i c (X.take (i * 3)) hold0 (n + 1 - i) (by omega) (by omega) (by omega) (by omega) (by rw [hzb]; omega) (by rw [hzb, hik]; exact growslice_fits (by omega) (by omega))
        rw [hik, ← hG, ← hzs', ← hzr', ← hW1] at h
        exact h
      have hn1 : W1.heap[w.heap.size]? = some (.cells ((X.take (i * 3)).toArray ++ zs ++ zr) 40 (0, 0)) := by rw [hW1]; exact heap_alloc_new w.drew _
      have hti : (X.take (i * 3)).length = i * 3 := by rw [List.length_take]; omega
      have hl1 : Lie (fun k => k < B) 40 3 (.slice (some ⟨w.heap.size, 0, none⟩) (n + 1) G) (n + 1) (X.take (i * 3) ++ zs.toList) W1 := by
        refine ⟨⟨by rw [List.length_append, hti, Array.length_toList, hzl]; omega, .inr ⟨w.heap.size, G, _, rfl, Nat.zero_le _, hn1, hGn, hGm, by simp only [Array.size_append, List.size_toArray, hti, hzl, hzl2]; omega, ?_⟩⟩, fun k hk hp => ?_⟩
        · have e1 : ((X.take (i * 3)).toArray ++ zs ++ zr).toList = (X.take (i * 3) ++ zs.toList) ++ zr.toList := by simp
          rw [e1]
          have e2 : (X.take (i * 3) ++ zs.toList).length = (n + 1) * 3 := by rw [List.length_append, hti, Array.length_toList, hzl]; omega
          have := List.take_left (l₁ := X.take (i * 3) ++ zs.toList) (l₂ := zr.toList)
          rwa [e2] at this
        · simp only [Value.ownBlock, Option.some.injEq] at hk
          subst hk
          omega
      have hv1 : ∀ j v, ([.int .i64 0, .int .i64 0, .string ⟨#[]⟩] : List Value)[j]? = some v → W1.cell? ⟨vb, j, none⟩ = some v := fun j v hj => by
        rw [hW1]; exact Lib.cell?_alloc_some _ (hvc j v hj)
      have hm2 : Nat.min 1 (n + 1 - i) = 1 := by simp only [Nat.min_def]; split <;> omega
      have hm1 : Nat.min (n - i) (n - i) = n - i := Nat.min_self _
      have hcp1 : ∀ ty dc, (Builtin.copy_ #[23, 23] ty #[.slice (some ⟨w.heap.size, i * 3, none⟩) (n + 1 - i) dc, .slice (some ⟨vb, 0, none⟩) 1 1]).run Tryd.prog W1 = .ok (goInt (1 : Nat)) (W1.setCells w.heap.size (i * 3) [.int .i64 0, .int .i64 0, .string ⟨#[]⟩]) := fun ty dc =>
        run_copy_cellsk W1 _ _ ty 40 3 w.heap.size (i * 3) _ dc ⟨vb, 0, none⟩ 1 1 1 [.int .i64 0, .int .i64 0, .string ⟨#[]⟩] Tryd.underlying23 hsz hm2 rfl
          (fun j v hj => by rw [Addr.add_lit, Nat.zero_add]; exact hv1 j v hj) (fun j hj => hl1.isSome (by simp at hj; omega)) (fun j hj => hl1.cell _) (by intro u hu; simp at hu; rcases hu with rfl | rfl <;> rfl)
      obtain ⟨W2, hW2⟩ : ∃ W2, W2 = W1.setCells w.heap.size (i * 3) [.int .i64 0, .int .i64 0, .string ⟨#[]⟩] := ⟨_, rfl⟩
      have h9 : zs.toList.length = (n + 1 - i) * 3 := by rw [Array.length_toList]; exact hzl
      have hl2 := Lie.stores [.int .i64 0, .int .i64 0, .string ⟨#[]⟩] (i * 3) _ W1 hl1 (by rw [List.length_append, hti, h9]; simp only [List.length_cons, List.length_nil]; omega)
      rw [← hW2] at hl2 hcp1
      have hcs2 : ∀ j v, X[j]? = some v → W2.cell? ⟨g, j, none⟩ = some v := fun j v hj => by
        rw [hW2, World.cell?_setCells_out w.heap.size _ _ _ _ (fun h _ => absurd h (by simp only; omega)), hW1]
        exact Lib.cell?_alloc_some _ (hcs j v hj)
      have hcp2 : ∀ ty dc sc, (Builtin.copy_ #[23, 23] ty #[.slice (some ⟨w.heap.size, (i + 1) * 3, none⟩) (n - i) dc, .slice (some ⟨g, i * 3, none⟩) (n - i) sc]).run Tryd.prog W2.drew = .ok (goInt (n - i : Nat)) (W2.drew.setCells w.heap.size ((i + 1) * 3) (X.drop (i * 3))) := fun ty dc sc =>
        run_copy_cellsk W2.drew _ _ ty 40 3 w.heap.size ((i + 1) * 3) _ dc ⟨g, i * 3, none⟩ _ sc (n - i) (X.drop (i * 3)) Tryd.underlying23 hsz hm1 hXi
          (fun j v hj => by rw [Addr.add_lit]; exact hcs2 (i * 3 + j) v (by rwa [List.getElem?_drop] at hj))
          (fun j hj => hl2.isSome (by omega)) (fun j hj => hl2.cell _) (fun v hv' => hXo v (List.mem_of_mem_drop hv'))
      have hl3 := Lie.stores (X.drop (i * 3)) ((i + 1) * 3) _ W2.drew hl2.drewl (by simp only [List.length_append, List.length_take, List.length_drop, Array.length_toList, List.length_cons, List.length_nil]; omega)
      have hb3 : Below B w (W2.drew.setCells w.heap.size ((i + 1) * 3) (X.drop (i * 3))) := by
        rw [hW2, hW1]
        exact below_cells hB _ _ _ (below_cells hB _ _ _ ((Below.refl B w).drew.alloc hB _)).drew
      have Hl3 := Lib.hid hl3
      have Hb3 := Lib.hid hb3
      have HXl := Lib.hid hXl
      have Hzl := Lib.hid (show zs.toList.length = (n + 1 - i) * 3 by rw [Array.length_toList, hzl])
      have c1 : (i : Int) ≤ c := by omega
      have c2 : (i : Int) + 1 ≤ (n : Int) + 1 := by omega
      have c3 : (i : Int) ≤ (n : Int) + 1 := by omega
      have d1 : ¬ (G = i + 1) := by omega
      have d5 : ¬ (G = i) := by omega
      clear hl1 hl2 hl3 hb3 hW1 hW2 hv1 hr hvc hv hcs hcs2 hrv hn1 hzs' hzr' hzl hzl2 hG hold0 hi0 hz0 hzs hzb
      go_enter Tryd.func32, Tryd.ntmps32
      go_wp2_with (first | (at_builtin; refine wpList_copy_run _ rfl _ _ 23 23 rfl _ _ rfl rfl (hcp1 _ _) ?_) | (at_builtin; go_must (refine wpList_append_run _ rfl _ _ 23 3 rfl _ _ rfl rfl (hrz _) ?_)))
      go_region_law (refine step_copy_run rfl _ _ 23 23 rfl (.slice (some ⟨w.heap.size, (i + 1) * 3, none⟩) (n - i) (G - (i + 1))) (.slice (some ⟨g, i * 3, none⟩) (n - i) (c - i)) (by simp [Act.eval, Act.put]) (by simp [Act.eval, Act.put]) (hcp2 _ _ _) ?_)
      go_wp2_with fail
      go_ret
      have h3 := Hl3.out
      rw [grow_list HXl.out Hzl.out rfl hlt, Hfin.out] at h3
      exact ⟨_, G, rfl, h3, Hb3.out⟩
end Go.Proofs.YtbheoahpaidpmaaDoor
