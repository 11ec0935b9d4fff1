/-
  manifest: DeleteFunc over parts; Find.
-/
import Derived.Test.YtbheoahpaidpmaaDoorManFile
namespace Go.Proofs.YtbheoahpaidpmaaDoor
open Go Go.RowKit

def kp (d : Int) (r : PartV) : Bool := r.Day != d
/-- what DeleteFunc answers -/
def DelPost (d : Int) (xs : List PartV) (B : Nat) (w : World) (e : Ending) (w' : World) : Prop :=
  ∃ (A : Option Addr) (c : Nat), e = .returned (.slice A (xs.filter (kp d)).length c) ∧ Rd w' 3 A (xs.filter (kp d)).length ((xs.filter (kp d)).flatMap partCells) ∧ Below B w w' ∧ ∀ a, A = some a → B ≤ a.block
section
variable {p : PartV → Bool} {xs ys : List PartV} {i j : Nat}
theorem del_start (h : i < xs.length) (hf : p xs[i] = false) (ha : ∀ j, (hj : j < i) → p (xs[j]'(by omega)) = true) : (xs.take (i + 1)).filter p = xs.take i := by
  rw [show xs.take (i + 1) = xs.take i ++ [xs[i]] by rw [List.take_append_getElem], List.filter_append]
  have h1 : (xs.take i).filter p = xs.take i := List.filter_eq_self.2 fun r hr => by
    obtain ⟨j, hj, rfl⟩ := List.getElem_of_mem hr
    simp only [List.length_take] at hj
    rw [List.getElem_take]
    exact ha j (by omega)
  simp [h1, hf]
theorem del_keep (h : j < xs.length) (hp : p xs[j] = true) : (xs.take (j + 1)).filter p = (xs.take j).filter p ++ [xs[j]] := by
  rw [show xs.take (j + 1) = xs.take j ++ [xs[j]] by rw [List.take_append_getElem], List.filter_append]
  simp [hp]
theorem del_skip (h : j < xs.length) (hp : p xs[j] = false) : (xs.take (j + 1)).filter p = (xs.take j).filter p := by
  rw [show xs.take (j + 1) = xs.take j ++ [xs[j]] by rw [List.take_append_getElem], List.filter_append]
  simp [hp]
theorem del_get (hl : ys.length = xs.length) (hd : ys.drop j = xs.drop j) (h : j < xs.length) : ys[j]'(by omega) = xs[j] := by
  have h1 : (ys.drop j)[0]? = (xs.drop j)[0]? := by rw [hd]
  rw [List.getElem?_drop, List.getElem?_drop, Nat.add_zero, List.getElem?_eq_getElem h, List.getElem?_eq_getElem (by omega)] at h1
  simpa using h1
theorem del_set {r : PartV} (hi : i < ys.length) (hij : i < j) (ht : ys.take i = (xs.take j).filter p) (hd : ys.drop j = xs.drop j) (hj : j < xs.length) (hr : xs[j] = r) (hp : p r = true) :
    (ys.set i r).take (i + 1) = (xs.take (j + 1)).filter p ∧ (ys.set i r).drop (j + 1) = xs.drop (j + 1) := by
  subst hr
  refine ⟨?_, ?_⟩
  · rw [del_keep hj hp, ← ht]
    rw [List.take_succ_eq_append_getElem (by simpa using hi), List.take_set_of_le (Nat.le_refl _)]
    simp
  · rw [List.drop_set_of_lt (by omega), ← List.drop_drop, hd, List.drop_drop]
end

theorem partZero (w : World) : (zeroValue 40).run Tryd.prog w = .ok (.agg #[.int .i64 0, .int .i64 0, .string ⟨#[]⟩]) w := by kernel_rfl
/-- the first rows of a row stand when what is behind them is written over -/
theorem Lie.cut {R : Nat → Prop} {n i c g : Nat} {w : World} {ys : List PartV} (h : Lie R 40 3 (.slice (some ⟨g, 0, none⟩) n c) n (ys.flatMap partCells) w) (hi : i ≤ ys.length) (vs : List Value) :
    Rd (w.setCells g (i * 3) vs) 3 (some ⟨g, 0, none⟩) i ((ys.take i).flatMap partCells) := by
  have hl : ((ys.take i).flatMap partCells).length = i * 3 := by rw [flatMap_length partCells_length, List.length_take]; congr 1; omega
  refine ⟨hl, fun hp => ?_⟩
  have hn : 0 < n := by
    have h1 := h.1.1
    rw [flatMap_length partCells_length] at h1
    omega
  obtain ⟨b, off, e, hb, hc⟩ := h.rd.2 hn
  obtain ⟨rfl, rfl⟩ : g = b ∧ 0 = off := by simpa using e
  refine ⟨g, 0, rfl, by rw [size_cells]; exact hb, fun t u hu => ?_⟩
  have ht : t < i * 3 := by
    have := (List.getElem?_eq_some_iff.1 hu).1
    omega
  rw [World.cell?_setCells_out _ _ _ _ _ (fun _ _ => .inl (by simp only; omega))]
  refine hc t u ?_
  rw [← List.take_append_drop i ys, List.flatMap_append, List.getElem?_append_left (by omega)]
  exact hu

set_option linter.unusedSimpArgs false in
set_option maxRecDepth 100000 in
set_option maxHeartbeats 2000000 in
theorem delete_at (d : Int) (b B : Nat) (A : Option Addr) (c n : Nat) (xs : List PartV) (w : World) (h0 : w.cell? ⟨b, 1, none⟩ = some (.int .i64 d)) (hb : b < B) (hB : B ≤ w.heap.size)
    (hr : Lie (fun k => k < B) 40 3 (.slice A n c) n (xs.flatMap partCells) w) (hn : xs.length = n) (hl : n ≤ 1000000) :
    Calls Tryd.prog 33 #[.slice A n c, .func (.func 34) #[] #[.pointer (some ⟨b, 0, none⟩)]] w (DelPost d xs B w) := by
  have HR := Lib.hid hr
  have HN := Lib.hid hn
  have H0 := Lib.hid h0
  have HI := Lib.hid (index_a d b A c n xs w h0 hr.rd hn hl)
  clear hr hn h0
  go_enter Tryd.func33, Tryd.ntmps33
  go_wp2_with fail
  refine HI.out.mono ?_
  rintro e w1 ⟨hb1, ⟨hall, rfl⟩ | ⟨i0, hi0, hf0, ha0, rfl⟩⟩
  · have Hb1 := Lib.hid hb1
    have Hall := Lib.hid hall
    clear hb1 hall
    go_wp2_with fail
    go_ret
    have hfil : xs.filter (kp d) = xs := List.filter_eq_self.2 fun r hr => by unfold kp; rw [bne, Hall.out r hr]; rfl
    exact ⟨A, c, by rw [hfil, HN.out]; rfl, by rw [hfil, HN.out]; exact HR.out.rd.below Hb1.out, Hb1.out.mono hB, fun a e => by subst e; exact Nat.not_lt.1 fun hk => HR.out.2 a.block rfl hk⟩
  · obtain ⟨g, rfl, hnc, hcm⟩ := HR.out.own (show 0 < n by rw [← HN.out]; omega)
    have hgB : B ≤ g := by
      have := HR.out.2 g rfl
      omega
    have hin : i0 < n := by rw [← HN.out]; exact hi0
    have k1 : ((i0 : Int) == -1) = false := beq_eq_false_iff_ne.2 (by omega)
    have hst := del_start (p := kp d) hi0 (by unfold kp; rw [bne, hf0]; rfl) (fun j hj => by unfold kp; rw [bne, ha0 j hj]; rfl)
    have Hst := Lib.hid hst
    have Hb1 := Lib.hid (show Below B w w1 from hb1.mono hB)
    have HR1 := Lib.hid (HR.out.below hb1)
    clear hst hf0 ha0 hb1 hi0 HI HR
    go_wp2_with fail
    go_loopw [5, 6] (fun s5 s6 wr => ∃ (i j : Nat) (ys : List PartV), s5 = .int .i64 i ∧ s6 = .int .i64 j ∧ i < j ∧ j ≤ n ∧ ys.length = n ∧ i = ((xs.take j).filter (kp d)).length ∧ ys.take i = (xs.take j).filter (kp d) ∧ ys.drop j = xs.drop j ∧ Lie (fun k => k < B) 40 3 (.slice (some ⟨g, 0, none⟩) n c) n (ys.flatMap partCells) wr ∧ Below B w wr) (fun _ s6 _ => n - (intOf s6).toNat)
    case atStart => exact ⟨i0, i0 + 1, xs, rfl, by go_num, by omega, by omega, HN.out, by rw [Hst.out, List.length_take, HN.out]; omega, Hst.out.symm, rfl, HR1.out, Hb1.out⟩
    case round =>
      obtain ⟨i, j, ys, rfl, rfl, hij, hjn, hyl, hcnt, htk, hdr, hlie, hbel⟩ := hrel
      have Hyl := Lib.hid hyl
      have Hcnt := Lib.hid hcnt
      have Htk := Lib.hid htk
      have Hdr := Lib.hid hdr
      have Hlie := Lib.hid hlie
      have Hbel := Lib.hid hbel
      clear hyl hcnt htk hdr hlie hbel
      by_cases hlt : j < n
      · have hlt' : j < ys.length := by have := Hyl.out; omega
        obtain ⟨gb, off, e, hgb, s0, s1, s2⟩ := part_at Hlie.out.rd hlt'
        obtain ⟨rfl, rfl⟩ : g = gb ∧ 0 = off := by simpa using e
        have hjx : j < xs.length := by have := HN.out; omega
        have hyx := del_get (by rw [Hyl.out, HN.out]) Hdr.out hjx
        obtain ⟨r, hr⟩ : ∃ r, xs[j] = r := ⟨_, rfl⟩
        rw [hyx, hr] at s0 s1 s2
        simp only [Nat.zero_add] at s0 s1 s2
        have Hr := Lib.hid (show ∀ h : j < xs.length, xs[j]'h = r from fun _ => hr)
        clear e hyx hr hlt' hjx
        have hwr : B ≤ wr.heap.size := by omega
        have hk1 : (j : Int) < n := by omega
        have hk2 : (i : Int) < n := by omega
        obtain ⟨T, I, V⟩ := r
        simp only at s0 s1 s2
        have HC := Lib.hid (isday_a d ⟨T, I, V⟩ b (wr.alloc (.cells #[.int .i64 T, .int .i64 I, .string (S V)] 40)) (Lib.cell?_alloc_some _ ((Hbel.out.cell (p := ⟨b, 1, none⟩) hb).trans H0.out)))
        unfold partVal at HC
        simp only at HC
        have hkq : kp d ⟨T, I, V⟩ = !(T == d) := rfl
        cases hbb : kp d ⟨T, I, V⟩ with
        | true =>
          have hq : (T == d) = false := by rw [hbb] at hkq; cases h : (T == d) with | true => rw [h] at hkq; cases hkq | false => rfl
          rw [hq] at HC
          have Hb := Lib.hid hbb
          clear hbb hkq hq
          go_wp2_with fail
          refine HC.out.mono ?_
          rintro e w2 ⟨rfl, hb2⟩
          have b0 := keepc hb2 ((Lib.cell_of_heap (heap_alloc_new wr (.cells #[.int .i64 T, .int .i64 I, .string (S V)] 40)) 0).trans rfl)
          have b1 := keepc hb2 ((Lib.cell_of_heap (heap_alloc_new wr (.cells #[.int .i64 T, .int .i64 I, .string (S V)] 40)) 1).trans rfl)
          have b2 := keepc hb2 ((Lib.cell_of_heap (heap_alloc_new wr (.cells #[.int .i64 T, .int .i64 I, .string (S V)] 40)) 2).trans rfl)
          have Hb2 := Lib.hid (Hbel.out.trans (hb2.allocl.mono hwr))
          have Hl2 := Lib.hid (Hlie.out.below hb2.allocl)
          have hiy : i < ys.length := by have := Hyl.out; omega
          obtain ⟨gb, off, e, hgb2, v0, v1, v2⟩ := part_at Hl2.out.rd hiy
          obtain ⟨rfl, rfl⟩ : g = gb ∧ 0 = off := by simpa using e
          simp only [Nat.zero_add] at v0 v1 v2
          generalize ys[i] = old at v0 v1 v2
          have z0 := Hl2.out.cell (i * 3)
          have z1 := Hl2.out.cell (i * 3 + 1)
          have z2 := Hl2.out.cell (i * 3 + 2)
          clear hb2 e hiy s0 s1 s2 HC
          go_wp2_with fail
          go_roundw
          case rel =>
            have hiy : i < ys.length := by have := Hyl.out; omega
            have hset := parts_set i ys ⟨T, I, V⟩ hiy
            have hjx : j < xs.length := by rw [HN.out]; exact hlt
            obtain ⟨q1, q2⟩ := del_set hiy hij Htk.out Hdr.out hjx (Hr.out hjx) Hb.out
            have hk := del_keep (p := kp d) hjx (by rw [Hr.out]; exact Hb.out)
            exact ⟨i + 1, j + 1, ys.set i ⟨T, I, V⟩, by go_num, by go_num, by omega, by omega, by rw [List.length_set, Hyl.out], by rw [hk, List.length_append, ← Hcnt.out]; rfl, q1, q2, by rw [← hset]; exact ((Hl2.out.store _).store _).store _, ((Hb2.out.setCell (p := ⟨g, i * 3, none⟩) hgB _).setCell (p := ⟨g, i * 3 + 1, none⟩) hgB _).setCell (p := ⟨g, i * 3 + 2, none⟩) hgB _⟩
          case measure => simp [intOf]; omega
        | false =>
          have hq : (T == d) = true := by rw [hbb] at hkq; cases h : (T == d) with | true => rfl | false => rw [h] at hkq; cases hkq
          rw [hq] at HC
          have Hb := Lib.hid hbb
          clear hbb hkq hq
          go_wp2_with fail
          refine HC.out.mono ?_
          rintro e w2 ⟨rfl, hb2⟩
          have Hb2 := Lib.hid (Hbel.out.trans (hb2.allocl.mono hwr))
          have Hl2 := Lib.hid (Hlie.out.below hb2.allocl)
          clear hb2
          go_wp2_with fail
          go_roundw
          case rel => exact ⟨i, j + 1, ys, rfl, by go_num, by omega, by omega, Hyl.out, by rw [del_skip (by rw [HN.out]; exact hlt) (by rw [Hr.out]; exact Hb.out)]; exact Hcnt.out, by rw [del_skip (by rw [HN.out]; exact hlt) (by rw [Hr.out]; exact Hb.out)]; exact Htk.out, by rw [← List.drop_drop, Hdr.out, List.drop_drop], Hl2.out, Hb2.out⟩
          case measure => simp [intOf]; omega
      · obtain rfl : j = n := by omega
        have hin2 : i < j := hij
        obtain ⟨vs, hvl, hcl⟩ := run_clear_rows (P := Tryd.prog) wr 23 40 (.agg #[.int .i64 0, .int .i64 0, .string ⟨#[]⟩]) 3 Tryd.underlying23 partZero rfl (by decide) (by intro u hu; simp [Value.cells] at hu; rcases hu with rfl | rfl | rfl <;> rfl) g (i * 3) (j - i) (c - i)
          (fun t ht => by
            rw [Hlie.out.1.cellAt _ (by omega), List.getElem?_eq_getElem (by rw [flatMap_length partCells_length, Hyl.out]; omega)]
            rfl)
          (fun t ht => Hlie.out.cell _)
        clear hvl
        go_wp2_with fail
        go_ret
        have hall : (xs.take j).filter (kp d) = xs.filter (kp d) := by rw [List.take_of_length_le (by rw [HN.out]; exact Nat.le_refl _)]
        have hlen : (xs.filter (kp d)).length = i := by rw [← hall, ← Hcnt.out]
        have hcut := Hlie.out.cut (i := i) (by rw [Hyl.out]; omega) vs
        rw [Htk.out, hall] at hcut
        exact ⟨_, c, by rw [hlen]; rfl, by rw [hlen]; exact hcut, below_cells hgB _ _ _ Hbel.out, fun a e => by cases e; exact hgB⟩
def p0 : PartV := ⟨0, 0, []⟩
theorem findP_none {l : List PartV} {d : Int} (h : ∀ r ∈ l, (r.Day == d) = false) : findP l d = none := by
  unfold findP
  exact List.find?_eq_none.2 fun r hr => by rw [h r hr]; simp
theorem findP_some : ∀ {l : List PartV} {d : Int} {i : Nat} (hi : i < l.length), (l[i].Day == d) = true → (∀ j, (hj : j < i) → ((l[j]'(by omega)).Day == d) = false) → findP l d = some l[i]
  | [], _, _, hi, _, _ => absurd hi (by simp)
  | x :: l, d, 0, _, h, _ => by
    simp only [List.getElem_cons_zero] at h ⊢
    unfold findP
    simp only [List.find?_cons, h]
  | x :: l, d, i + 1, hi, h, ha => by
    have h0 := ha 0 (by omega)
    simp only [List.getElem_cons_zero] at h0
    unfold findP
    simp only [List.find?_cons, h0]
    exact findP_some (l := l) (by simpa using hi) h fun j hj => by have := ha (j + 1) (by omega); simpa using this

set_option linter.unusedSimpArgs false in
set_option maxRecDepth 100000 in
theorem mfind_any (d : Int) (A : Option Addr) (c n : Nat) (s : St) (w : World) (hr : Rd w 3 A n (s.Parts.flatMap partCells)) (hn : s.Parts.length = n) (hl : n ≤ 1000000) :
    Calls Tryd.prog 15 #[stVal A n c s, .int .i64 d] w fun e w' => e = .returned (.tuple #[partVal ((findP s.Parts d).getD p0), .bool (findP s.Parts d).isSome]) ∧ Below w.heap.size w w' := by
  unfold stVal
  obtain ⟨P, N, Q, O, D, T, X⟩ := s
  simp only at hr hn ⊢
  obtain ⟨B, hB⟩ : ∃ B, w.heap.size = B := ⟨_, rfl⟩
  obtain ⟨w0, hw0, hs0, hb0, hc0, k0⟩ : ∃ w0, ((w.alloc (.cells #[.slice A n c, .int .i64 N, .int .i64 Q, .bool O, .int .i64 D, .int .i64 T, .int .i64 X] 25)).alloc (.cells #[.int .i64 d] 3)).alloc (.cells #[.int .i64 0, .int .i64 0, .string ⟨#[]⟩] 40) = w0 ∧ w0.heap.size = B + 3 ∧ Below B w w0 ∧ w0.cell? ⟨B + 1, 0, none⟩ = some (.int .i64 d)
      ∧ w0.cell? ⟨B, 0, none⟩ = some (.slice A n c) ∧ w0.heap[B + 2]? = some (.cells #[.int .i64 0, .int .i64 0, .string ⟨#[]⟩] 40 (0, 0)) := by
    have n1 := heap_alloc_new w (.cells #[.slice A n c, .int .i64 N, .int .i64 Q, .bool O, .int .i64 D, .int .i64 T, .int .i64 X] 25)
    have n2 := heap_alloc_new (w.alloc (.cells #[.slice A n c, .int .i64 N, .int .i64 Q, .bool O, .int .i64 D, .int .i64 T, .int .i64 X] 25)) (.cells #[.int .i64 d] 3)
    have n3 := heap_alloc_new ((w.alloc (.cells #[.slice A n c, .int .i64 N, .int .i64 Q, .bool O, .int .i64 D, .int .i64 T, .int .i64 X] 25)).alloc (.cells #[.int .i64 d] 3)) (.cells #[.int .i64 0, .int .i64 0, .string ⟨#[]⟩] 40)
    simp only [World.size_alloc, hB, Nat.add_assoc, Nat.reduceAdd] at n1 n2 n3
    refine ⟨_, rfl, by simp [hB], ?_, ?_, ?_, n3⟩
    · subst hB
      exact (((Below.refl _ _).alloc (Nat.le_refl _) _).alloc (by simp) _).alloc (by simp; omega) _
    · rw [Lib.cell_of_heap ((Lib.alloc_old _ _ _ (by simp; omega)).trans n2)]; rfl
    · rw [Lib.cell_of_heap ((Lib.alloc_old _ _ _ (by simp; omega)).trans ((Lib.alloc_old _ _ _ (by simp; omega)).trans n1))]; rfl
  have hrd0 := hr.below (hB ▸ hb0)
  have HC := Lib.hid (index_f d (B + 1) A c n P w0 hc0 hrd0 hn hl)
  have Hrd0 := Lib.hid hrd0
  have Hn := Lib.hid hn
  have HB := Lib.hid hB
  have Hk0 := Lib.hid k0.2
  have k1 := k0.1
  have HB0 := Lib.hid hb0
  clear hr hrd0 hb0 hc0 k0 hn
  go_enter Tryd.func15, Tryd.ntmps15
  go_wp2_with fail
  try simp only [hw0]
  clear hw0 hB
  refine HC.out.mono ?_
  rintro e w1 ⟨hb1, ⟨hall, rfl⟩ | ⟨i, hi, hf, hal, rfl⟩⟩
  · have HF := Lib.hid (findP_none hall)
    have Hb1 := Lib.hid (HB0.out.trans (hb1.mono (by omega)))
    have hk := (hb1.block (B + 2) (by omega)).trans Hk0.out
    have c0 := (Lib.cell_of_heap hk 0).trans rfl
    have c1 := (Lib.cell_of_heap hk 1).trans rfl
    have c2 := (Lib.cell_of_heap hk 2).trans rfl
    have z0 := Lib.frozen_of_heap hk 0
    have z1 := Lib.frozen_of_heap hk 1
    have z2 := Lib.frozen_of_heap hk 2
    clear hall hb1 hk HC
    go_wp2_with fail
    refine bodyPost_ret (v := .tuple #[partVal p0, .bool false]) (by rw [results_cell_tmp rfl]; go_simp; rfl) rfl ⟨by rw [HF.out]; rfl, ?_⟩
    rw [HB.out]
    exact ((Hb1.out.setCell (p := ⟨B + 2, 0, none⟩) (by simp) _).setCell (p := ⟨B + 2, 1, none⟩) (by simp) _).setCell (p := ⟨B + 2, 2, none⟩) (by simp) _
  · have HF := Lib.hid (findP_some hi hf hal)
    have Hb1 := Lib.hid (HB0.out.trans (hb1.mono (by omega)))
    have hk := (hb1.block (B + 2) (by omega)).trans Hk0.out
    have c0 := (Lib.cell_of_heap hk 0).trans rfl
    have c1 := (Lib.cell_of_heap hk 1).trans rfl
    have c2 := (Lib.cell_of_heap hk 2).trans rfl
    have z0 := Lib.frozen_of_heap hk 0
    have z1 := Lib.frozen_of_heap hk 1
    have z2 := Lib.frozen_of_heap hk 2
    have k2 := keepc hb1 k1
    obtain ⟨gb, off, rfl, hgb, s0, s1, s2⟩ := part_at (Hrd0.out.below hb1) hi
    have hin : i < n := by have := Hn.out; omega
    have hin2 : (i : Int) < n := by omega
    have hni : decide ((i : Int) < 0) = false := decide_eq_false (by omega)
    generalize P[i] = p at *
    obtain ⟨T1, I1, V1⟩ := p
    simp only at s0 s1 s2
    clear hb1 hk HC hf hal
    go_wp2_with fail
    refine bodyPost_ret (v := .tuple #[partVal ⟨T1, I1, V1⟩, .bool true]) (by rw [results_cell_tmp rfl]; go_simp; rfl) rfl ⟨by rw [HF.out]; rfl, ?_⟩
    rw [HB.out]
    exact ((Hb1.out.setCell (p := ⟨B + 2, 0, none⟩) (by simp) _).setCell (p := ⟨B + 2, 1, none⟩) (by simp) _).setCell (p := ⟨B + 2, 2, none⟩) (by simp) _
end Go.Proofs.YtbheoahpaidpmaaDoor
