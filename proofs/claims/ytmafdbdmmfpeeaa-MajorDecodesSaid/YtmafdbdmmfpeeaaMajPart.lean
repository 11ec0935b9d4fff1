/-
  major.read, major.parts and its iterator.
-/
import Derived.Test.YtmafdbdmmfpeeaaMajTab
import Derived.Test.YtmafdbdmmfpeeaaPackF
import Derived.RangeFuncFrom
import Derived.Shelf.Abstract
import Derived.Shelf.RegionOpen
import Derived.OwnWalkIn
import Derived.TacticsInMore
import Derived.LoopNIn
import Derived.LoopIn
import Derived.Lib.SliceRun
import Derived.Lib.Builder
namespace Go.Proofs.Ytmafdbdmmfpeeaa
open Go Go.RowKit Go.Shelf
attribute [local go_sem] Oper.semAt_some

/-- what read answers -/
def PartPost (c : List UInt8) (w : World) (e : Ending) (w' : World) : Prop :=
  (partR c = none ∧ e = .returned (.tuple #[.slice none 0 0, .int .i64 11]) ∧ Below w.heap.size w w') ∨
    ∃ L A k, partR c = some L ∧ e = .returned (.tuple #[.slice A L.length k, .int .i64 0]) ∧ Rd w' 2 A L.length (L.flatMap sampleCells) ∧ L.length ≤ k ∧ k ≤ maxLen ∧ Below w.heap.size w w' ∧ Fresh w.heap.size A
set_option linter.unusedSimpArgs false in
set_option maxRecDepth 100000 in
set_option maxHeartbeats 1000000 in
theorem mread_any (c : List UInt8) (w : World) (hc : c.length ≤ 1000000) : Calls Try.prog 23 #[.string (S c)] w (PartPost c w) := by
  have C := ddec_onef (S c) w (by rw [S_size]; exact hc)
  rw [S_toList] at C
  have hor := (decL_ok c).2.2.2.2
  have hp : partR c = if decE c = 0 ∧ decL c ≠ [] then some (decL c) else none := rfl
  obtain ⟨L, hL⟩ : ∃ L, decL c = L := ⟨_, rfl⟩
  obtain ⟨e, he⟩ : ∃ e, decE c = e := ⟨_, rfl⟩
  rw [hL, he] at C hp
  rw [he] at hor
  have HC := Lib.hid C
  have HP := Lib.hid hp
  clear C hp hL he
  rcases hor with rfl | rfl
  · by_cases h0 : L.length = 0
    · have HN := Lib.hid (show partR c = none by rw [HP.out, if_neg (fun h => h.2 (List.eq_nil_of_length_eq_zero h0))])
      have k1 : ((L.length : Int) == 0) = true := beq_iff_eq.2 (by omega)
      have k2 : (L.length == 0) = true := beq_iff_eq.2 h0
      clear h0
      go_enter Try.func23, Try.ntmps23
      go_wp2_with fail
      refine HC.out.mono ?_
      rintro e w1 ⟨A, k, rfl, -, -, -, hb, -⟩
      go_wp2_with fail
      go_ret2
      exact .inl ⟨HN.out, rfl, hb⟩
    · have HN := Lib.hid (show partR c = some L by rw [HP.out, if_pos ⟨rfl, fun h => h0 (by rw [h]; rfl)⟩])
      have k1 : ((L.length : Int) == 0) = false := beq_eq_false_iff_ne.2 (by omega)
      have k2 : (L.length == 0) = false := beq_eq_false_iff_ne.2 h0
      clear h0
      go_enter Try.func23, Try.ntmps23
      go_wp2_with fail
      refine HC.out.mono ?_
      rintro e w1 ⟨A, k, rfl, hr, h1, h2, hb, hf⟩
      have Hr := Lib.hid hr
      have Hh := Lib.hid (And.intro h1 h2)
      have Hf := Lib.hid hf
      clear hr h1 h2 hf
      go_wp2_with fail
      go_ret2
      exact .inr ⟨L, A, k, HN.out, rfl, Hr.out, Hh.out.1, Hh.out.2, hb, Hf.out⟩
  · have HN := Lib.hid (show partR c = none by rw [HP.out, if_neg (fun h => by have := h.1; simp at this)])
    go_enter Try.func23, Try.ntmps23
    go_wp2_with fail
    refine HC.out.mono ?_
    rintro e w1 ⟨A, k, rfl, -, -, -, hb, -⟩
    go_wp2_with fail
    go_ret2
    exact .inl ⟨HN.out, rfl, hb⟩

theorem parts_any (s : ByteArray) (A : Option Addr) (n c : Nat) (w : World) :
    Calls Try.prog 22 #[.string s, .slice A n c] w fun e w' => e = .returned (.func (.func 34) #[] #[.pointer (some ⟨w.heap.size + 1, 0, none⟩), .pointer (some ⟨w.heap.size, 0, none⟩)]) ∧
      w' = (w.alloc (.cells #[.string s] 9)).alloc (.cells #[.slice A n c] 47) := by
  have hmf : ∀ (fn : Fn) (first cap : Array Value) (w : World), (Instr.makeFunc fn first cap).run Try.prog w = .ok (.func fn first cap) w := fun _ _ _ _ => rfl
  go_enter Try.func22, Try.ntmps22
  go_wp2_with fail
  go_ret
  exact ⟨rfl, rfl⟩

/-- part i -/
def ptAt (ps : List (Nat × List UInt8)) (i : Nat) : Nat × List UInt8 := ps.getD (min i (ps.length - 1)) (0, [])
theorem ptAt_get {ps : List (Nat × List UInt8)} {i : Nat} (h : i < ps.length) : ptAt ps i = ps[i] := by
  unfold ptAt
  rw [Nat.min_eq_left (by omega), List.getD_eq_getElem?_getD, List.getElem?_eq_getElem h]; rfl
theorem cutE_length : ∀ (es : List (Nat × Nat)) (t : List UInt8), (cutE es t).length = es.length
  | [], _ => rfl
  | e :: es, t => by simp [cutE, cutE_length es]
theorem mkE_cut : ∀ (es : List (Nat × Nat)) (off : Nat) (l : List UInt8) (i : Nat) (h : i < (mkE off es).length) (h' : i < (cutE es (l.drop off)).length),
    (cutE es (l.drop off))[i] = ((mkE off es)[i].1, (l.drop (mkE off es)[i].2.1).take ((mkE off es)[i].2.2 - (mkE off es)[i].2.1))
  | [], _, _, _, h, _ => absurd h (by simp [mkE])
  | e :: es, off, l, 0, _, _ => by simp only [mkE, cutE, List.getElem_cons_zero]; rw [Nat.add_sub_cancel_left]
  | e :: es, off, l, i + 1, h, h' => by
    simp only [mkE, cutE, List.getElem_cons_succ, List.drop_drop] at h h' ⊢
    exact mkE_cut es (off + e.2) l i (by simpa using h) (by simpa using h')
theorem range_prefix {a n : Nat} (h : a ≤ n) : List.range a <+: List.range n := ⟨(List.range (n - a)).map (a + ·), by rw [← List.range_add, Nat.add_sub_cancel' h]⟩
/-- what a round keeps: what R names -/
def KpR (R : Nat → Prop) (W W' : World) : Prop := W.heap.size ≤ W'.heap.size ∧ ∀ k, R k → W'.heap[k]? = W.heap[k]?
theorem KpR.trans {R : Nat → Prop} {A B C : World} (h : KpR R A B) (k : KpR R B C) : KpR R A C := ⟨Nat.le_trans h.1 k.1, fun i hi => (k.2 i hi).trans (h.2 i hi)⟩

set_option linter.unusedSimpArgs false in
set_option maxRecDepth 100000 in
set_option maxHeartbeats 1000000 in
theorem parts_stops (m : Nat) (R : Nat → Prop) (A : Option Addr) (Bl Bs n c a : Nat) (s : ByteArray) (es : List (Nat × Nat)) (w : World) (hRs : R Bs) (hl : Bl < w.heap.size) (hs : Bs < w.heap.size) (hbl : w.cell? ⟨Bl, 0, none⟩ = some (.slice A n c)) (hbs : w.cell? ⟨Bs, 0, none⟩ = some (.string s))
    (hrd : Rd w 3 A n ((mkE a es).flatMap entCells)) (hRo : ∀ k, R k → k < w.heap.size) (hA : ∀ b off, A = some ⟨b, off, none⟩ → R b) (hn : es.length = n) (hsum : a + sumE es = s.size) (h2 : n ≤ 200) (ps : List (Nat × List UInt8)) (hps : ps = cutE es (s.data.toList.drop a)) :
    SeqStopsK Fence.wide m Try.prog 34 #[.pointer (some ⟨Bl, 0, none⟩), .pointer (some ⟨Bs, 0, none⟩)] (fun i : Nat => #[.int .i64 ((ptAt ps i).1 : Int), .string (S (ptAt ps i).2)]) (KpR R)
      (fun xs => xs = List.range n) (fun pre => pre <+: List.range n) n w := fun L J Jx W hW hJ hJx hY h0 => by
  refine callsIn_of_wp Try.func34 rfl trivial ?_ rfl
  simp only [Try.ntmps34, List.size_toArray, List.length_cons, List.length_nil, Nat.reduceAdd, Nat.reduceSub, Array.replicate_succ, Array.replicate_zero, List.push_toArray, List.append_toArray, List.nil_append, List.cons_append]
  have hrdW := hrd.below hW
  have hlW : W.cell? ⟨Bl, 0, none⟩ = some (.slice A n c) := (hW.cell (p := ⟨Bl, 0, none⟩) hl).trans hbl
  have hsW : W.cell? ⟨Bs, 0, none⟩ = some (.string s) := (hW.cell (p := ⟨Bs, 0, none⟩) hs).trans hbs
  have HJ := Lib.hid hJ
  have HJx := Lib.hid hJx
  have HY := Lib.hid hY
  have HA := Lib.hid hA
  have Hps := Lib.hid hps
  have Hrd := Lib.hid hrdW
  have hszW := hW.size
  have HRo := Lib.hid (fun (wr : World) (h : W.heap.size ≤ wr.heap.size) k hk => Nat.lt_of_lt_of_le (hRo k hk) (Nat.le_trans hszW h))
  clear hJ hJx hY hA hps hrd hrdW hbl hbs
  gi_wp2
  gi_loopw [8] (fun ix wr => ∃ j : Nat, ix = .int .i64 j ∧ j ≤ n ∧ J (List.range j) wr ∧ KpR R W wr) (fun ix _ => n - (intOf ix).toNat)
  case atStart => exact ⟨0, rfl, by omega, h0, Nat.le_refl _, fun _ _ => rfl⟩
  case round =>
    obtain ⟨j, rfl, hj, hJj, hK⟩ := hrel
    have HJj := Lib.hid hJj
    have HK := Lib.hid hK
    have hsr := (World.cell?_of_block (a := ⟨Bs, 0, none⟩) (hK.2 Bs hRs)).trans hsW
    clear hJj hK
    by_cases hlt : j < n
    · have hjm : j < (mkE a es).length := by rw [mkE_length, hn]; exact hlt
      obtain ⟨b, off, rfl, hbw, hf⟩ := Hrd.out.elem entCells_length (by decide) hjm
      have hbk := HK.out.2 b (HA.out b off rfl)
      have f0 := (World.cell?_of_block (a := ⟨b, off + (j * 3 + 0), none⟩) hbk).trans (hf 0 _ rfl)
      have f1 := (World.cell?_of_block (a := ⟨b, off + (j * 3 + 1), none⟩) hbk).trans (hf 1 _ rfl)
      have f2 := (World.cell?_of_block (a := ⟨b, off + (j * 3 + 2), none⟩) hbk).trans (hf 2 _ rfl)
      have hpj : j < ps.length := by rw [Hps.out, cutE_length, hn]; exact hlt
      have hpt : ptAt ps j = ((mkE a es)[j].1, (s.data.toList.drop (mkE a es)[j].2.1).take ((mkE a es)[j].2.2 - (mkE a es)[j].2.1)) := by
        rw [ptAt_get hpj]
        have := mkE_cut es a s.data.toList j hjm (by rw [cutE_length, hn]; exact hlt)
        rw [← this]
        congr 1
      have hle := mkE_le es a _ (List.getElem_mem hjm)
      generalize (mkE a es)[j] = x at *
      obtain ⟨p, f, t⟩ := x
      simp only at f0 f1 f2 hpt hle
      have g0 : wr.cell? ⟨b, off + j * 3, none⟩ = some (.int .i64 (p : Int)) := f0
      have g1 : wr.cell? ⟨b, off + j * 3 + 1, none⟩ = some (.int .i64 (f : Int)) := by rw [Nat.add_assoc]; exact f1
      have g2 : wr.cell? ⟨b, off + j * 3 + 2, none⟩ = some (.int .i64 (t : Int)) := by rw [Nat.add_assoc]; exact f2
      have hS : S (ptAt ps j).2 = s.extract f t := by
        rw [hpt]
        rw [← S_data (s.extract f t), Lib.extract_data]
      have hp1 : (ptAt ps j).1 = p := by rw [hpt]
      have HS := Lib.hid hS
      have Hp1 := Lib.hid hp1
      have hft : f ≤ t := by omega
      have hts : t ≤ s.size := by omega
      have hj1 : (j : Int) < n := by omega
      clear hf f0 f1 f2 hbk hpt hS hp1 hle hjm hpj
      obtain ⟨W1, hW1, q0, q1, q2, qs, hJ1, hK1⟩ : ∃ W1, wr.alloc (.cells #[.int .i64 p, .int .i64 f, .int .i64 t] 51) = W1 ∧ W1.cell? ⟨wr.heap.size, 0, none⟩ = some (.int .i64 p) ∧ W1.cell? ⟨wr.heap.size, 1, none⟩ = some (.int .i64 f) ∧ W1.cell? ⟨wr.heap.size, 2, none⟩ = some (.int .i64 t)
          ∧ W1.cell? ⟨Bs, 0, none⟩ = some (.string s) ∧ Hid (J (List.range j) W1) ∧ Hid (KpR R W W1) :=
        ⟨_, rfl, by simp, by simp, by simp, Lib.cell?_alloc_some _ hsr, Lib.hid (HJ.out _ _ _ none HJj.out (World.grownBy_alloc wr _ none) (fun r e => by cases e)),
          Lib.hid (HK.out.trans ⟨by simp, fun k hk => Lib.alloc_old wr _ k (HRo.out wr HK.out.1 k hk)⟩)⟩
      gi_wp2
      generalize wr.heap.size = B1 at *
      clear hW1 g0 g1 g2 hsr
      have hmix : (Try.prog).follows .mixedOrders = true := by kernel_rfl
      have hJ2 : Hid (J (List.range j) W1.drew) := Lib.hid (HJ.out _ _ _ none hJ1.out ⟨rfl, rfl, rfl, Nat.le_refl _, fun _ _ _ => rfl⟩ (fun r e => by cases e))
      have hK2 : Hid (KpR R W W1.drew) := Lib.hid (hK1.out.trans ⟨Nat.le_refl _, fun _ _ => rfl⟩)
      have HYj := Lib.hid (HY.out (List.range j) j W1.drew hJ2.out (by rw [List.length_range]; exact hlt))
      rw [HS.out, Hp1.out] at HYj
      refine region_still_tail_in free_wide 9 hmix (noDefer_of (by kernel_rfl)) (by kernel_rfl) ?_
      simp only [List.take_succ_cons, List.take_zero, List.drop_succ_cons, List.drop_zero]
      iterate 9 still_step
      refine wpStill_nil ?_
      obtain ⟨fn, tmps, assign, body, hy, hR⟩ := HYj.out
      rw [← List.range_succ] at hR
      gi_wp2
      refine ⟨fun e => (by cases e), hR.mono ?_⟩
      rintro e W3 (⟨rfl, hJ3, hk3⟩ | ⟨rfl, hJx3⟩)
      · have HJ3 := Lib.hid hJ3
        have Hk3 := Lib.hid hk3
        clear hJ3 hk3 hR hy
        gi_wp2
        refine ⟨⟨j + 1, rfl, by omega, HJ3.out, (hK2.out.trans Hk3.out)⟩, ?_⟩
        simp [intOf]
        omega
      · have HJx3 := Lib.hid hJx3
        clear hJx3 hR hy
        gi_wp2
        refine bodyPost_ret (results_none rfl _ _ _) rfl ?_
        exact ⟨⟨_, rfl⟩, .inr ⟨_, range_prefix (by omega), HJx3.out⟩⟩
    · obtain rfl : j = n := by omega
      gi_wp2
      go_end0
      exact ⟨⟨_, rfl⟩, .inl ⟨_, rfl, HJj.out⟩⟩
end Go.Proofs.Ytmafdbdmmfpeeaa
