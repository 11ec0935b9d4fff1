/-
  The document's Decode of a state. Written by gen-RDecode.py.
-/
import Derived.Test.YtbheoahpaidpmaaDoorRDecP
import Derived.Test.YtbheoahpaidpmaaDoorREncode
import Derived.Test.YtbheoahpaidpmaaDoorMDecode
namespace Go.Proofs.YtbheoahpaidpmaaDoor
open Go Go.RowKit

/-- a round's world of the first loop: numbers are read -/
def RRel (B : Nat) (x : ByteArray) (w : World) (ov pv : Value) (wr : World) : Prop := ∃ (ns : List Nat) (n p : Nat) (A : Option Addr) (c : Nat),
  ov = .slice A n c ∧ pv = .int .i64 (p : Nat) ∧ ns.length = n ∧ Tr x.data.toList ns p true ∧ Lie (fun k => k < B + 1) 3 1 (.slice A n c) n (nums ns) wr ∧ wr.heap[B]? = some (.cells z7 31 (0, 0)) ∧ Below B w wr
/-- a world behind it: a state is made of them -/
structure RW (B X : Nat) (w0 : World) (A : Option Addr) (ns : List Nat) (A5 : Option Addr) (i c5 : Nat) (ts : List Tri3) (s : St) (w : World) : Prop where
  rd : Rd w 1 A ns.length (nums ns)
  lie : Lie (fun k => k < X + 1) 43 3 (.slice A5 i c5) i ((ts.map triP).flatMap partCells) w
  kx : w.heap[X]? = some (.cells (stC A5 i c5 s) 31 (0, 0))
  kr : w.heap[B]? = some (.cells z7 31 (0, 0))
  bel : Below B w0 w
theorem rd_setCell {w : World} {A : Option Addr} {n size : Nat} {xs : List Value} {b j : Nat} {v : Value} (h : Rd w size A n xs) (hb : ∀ g off, A = some ⟨g, off, none⟩ → g ≠ b) : Rd (w.setCell ⟨b, j, none⟩ v) size A n xs :=
  ⟨h.1, fun hn => by
    obtain ⟨g, off, e, hlt, hc⟩ := h.2 hn
    refine ⟨g, off, e, by simpa [World.setCell] using hlt, fun k u hu => ?_⟩
    rw [← hc k u hu]
    unfold World.cell?
    rw [Below.heap_setCell _ _ _ _ (hb g off e)]⟩
theorem RW.set {B X : Nat} {w0 : World} {A : Option Addr} {ns : List Nat} {A5 : Option Addr} {i c5 : Nat} {ts : List Tri3} {s : St} {w : World} (h : RW B X w0 A ns A5 i c5 ts s w) (hX : B < X) (hA : ∀ g off, A = some ⟨g, off, none⟩ → g < X)
    (j : Nat) (v : Value) (s' : St) (hs : (stC A5 i c5 s).setIfInBounds j v = stC A5 i c5 s') : RW B X w0 A ns A5 i c5 ts s' (w.setCell ⟨X, j, none⟩ v) := by
  refine ⟨rd_setCell h.rd fun g off e => by have := hA g off e; omega, own_set h.lie (show X < X + 1 by omega) _ _, ?_, ?_, h.bel.setCell (p := ⟨X, j, none⟩) (by simp only; omega) _⟩
  · rw [Lib.heap_setCell_same h.kx v, hs]
  · exact (Below.heap_setCell _ _ _ _ (by simp only; omega)).trans h.kr
theorem RW.later {B X : Nat} {w0 : World} {A : Option Addr} {ns : List Nat} {A5 : Option Addr} {i c5 : Nat} {ts : List Tri3} {s : St} {w w' : World} (h : RW B X w0 A ns A5 i c5 ts s w) (hX : B < X) (hb : Below w.heap.size w w') : RW B X w0 A ns A5 i c5 ts s w' := by
  have hs : X < w.heap.size := (Array.getElem?_eq_some_iff.1 h.kx).1
  exact ⟨h.rd.below hb, h.lie.below hb, (hb.block _ hs).trans h.kx, (hb.block _ (by omega)).trans h.kr, h.bel.trans (hb.mono (by omega))⟩
theorem RW.out7 {B X : Nat} {w0 : World} {A : Option Addr} {ns : List Nat} {A5 : Option Addr} {i c5 : Nat} {ts : List Tri3} {s : St} {w : World} (h : RW B X w0 A ns A5 i c5 ts s w) (hX : B < X) (v0 v1 v2 v3 v4 v5 v6 : Value) :
    Rd (((((((w.setCell ⟨B, 0, none⟩ v0).setCell ⟨B, 1, none⟩ v1).setCell ⟨B, 2, none⟩ v2).setCell ⟨B, 3, none⟩ v3).setCell ⟨B, 4, none⟩ v4).setCell ⟨B, 5, none⟩ v5).setCell ⟨B, 6, none⟩ v6) 3 A5 i ((ts.map triP).flatMap partCells) ∧
    Below B w0 (((((((w.setCell ⟨B, 0, none⟩ v0).setCell ⟨B, 1, none⟩ v1).setCell ⟨B, 2, none⟩ v2).setCell ⟨B, 3, none⟩ v3).setCell ⟨B, 4, none⟩ v4).setCell ⟨B, 5, none⟩ v5).setCell ⟨B, 6, none⟩ v6) := by
  have hb : B < X + 1 := by omega
  exact ⟨(own_set (own_set (own_set (own_set (own_set (own_set (own_set h.lie hb 0 v0) hb 1 v1) hb 2 v2) hb 3 v3) hb 4 v4) hb 5 v5) hb 6 v6).rd,
    (((((((h.bel.setCell (p := ⟨B, _, none⟩) (by simp) _).setCell (p := ⟨B, _, none⟩) (by simp) _).setCell (p := ⟨B, _, none⟩) (by simp) _).setCell (p := ⟨B, _, none⟩) (by simp) _).setCell (p := ⟨B, _, none⟩) (by simp) _).setCell (p := ⟨B, _, none⟩) (by simp) _).setCell (p := ⟨B, _, none⟩) (by simp) _)⟩

theorem eqSx {a : List UInt8} {s : ByteArray} (h : a = s.data.toList) : ((S a).toList == s.toList) = true := by
  rw [Lib.toList_data, Lib.toList_data, S_toList, h]; simp
theorem neSx {a : List UInt8} {s : ByteArray} (h : a ≠ s.data.toList) : ((S a).toList == s.toList) = false := by
  rw [Lib.toList_data, Lib.toList_data, S_toList, beq_eq_false_iff_ne]; exact h
theorem htr_small {ns : List Nat} (h : ∀ n ∈ ns, n ≤ 1099511627776) {m j : Nat} (hm : ns[j]? = some m) : m ≤ 1099511627776 := h m (List.mem_of_getElem? hm)
theorem own_cap {R : Nat → Prop} {e : TypeId} {size n c : Nat} {A : Option Addr} {xs : List Value} {w : World} (h : Lie R e size (.slice A n c) n xs w) : n ≤ c := by
  rcases h.1.2 with ⟨h1, rfl⟩ | ⟨g, cap, cur, h1, hb, hg, hn, -⟩
  · simp at h1; omega
  · simp at h1; omega

set_option linter.unusedSimpArgs false in
set_option maxRecDepth 100000 in
set_option maxHeartbeats 4000000 in
theorem rdecode_any (x : ByteArray) (w : World) (hx : x.size ≤ 100000) :
    Calls Tryd.prog 23 #[.string x] w (DecPost x.data.toList w.heap.size w) := by
  obtain ⟨B, hB⟩ : ∃ B, w.heap.size = B := ⟨_, rfl⟩
  have hmix : Tryd.prog.follows .mixedOrders = true := by kernel_rfl
  obtain ⟨w0, hw0, hb0, k0, hl0⟩ : ∃ w0, (w.alloc (.cells z7 31)).alloc (.cells #[] 3) = w0 ∧ Below B w w0 ∧ w0.heap[B]? = some (.cells z7 31 (0, 0)) ∧ Lie (fun k => k < B + 1) 3 1 (.slice (some ⟨B + 1, 0, none⟩) 0 0) 0 [] w0 := by
    have n1 := heap_alloc_new w (.cells z7 31)
    rw [hB] at n1
    refine ⟨_, rfl, ?_, (Lib.alloc_old _ _ _ (by simp; omega)).trans n1, ?_⟩
    · subst hB; exact below_two w _ _
    · have := Lie.made (fun k => k < B + 1) (w.alloc (.cells z7 31)) 3 1 (fun k hk => by simp; omega)
      simpa [hB] using this
  have HX := Lib.hid hx
  have HBs := Lib.hid hB
  have HW0 := Lib.hid hw0
  have HR0 := Lib.hid (show RRel B x w (.slice (some ⟨B + 1, 0, none⟩) 0 0) (.int .i64 (0 : Nat)) w0 from ⟨[], 0, 0, _, _, rfl, rfl, rfl, Tr.nil, hl0, k0, hb0⟩)
  clear hx hw0 hb0 k0 hl0
  go_enter Tryd.func23, Tryd.ntmps23
  unfold z7 at HW0
  go_wp2_with fail
  try simp only [hB]
  try simp only [HW0.out]
  go_loopw [4, 5] (fun ov pv wr => RRel B x w ov pv wr) (fun _ pv _ => x.size - (intOf pv).toNat)
  case atStart => exact HR0.out
  case round =>
    obtain ⟨ns, n, p, A, c, rfl, rfl, hn, htr, hlie, hkr, hbel⟩ := hrel
    have hpl := htr.place
    rw [← Lib.size_eq] at hpl
    have hnl := htr.len
    rw [← Lib.size_eq, hn] at hnl
    have hn8 : n ≤ 100000 := by have := HX.out; omega
    by_cases hp : p < x.size
    · have t0 : (p : Int) < x.size := by omega
      obtain ⟨m, hm⟩ : ∃ m, (getAt x.data.toList p).1 = m := ⟨_, rfl⟩
      obtain ⟨nx, hnx⟩ : ∃ m, (getAt x.data.toList p).2.1 = m := ⟨_, rfl⟩
      obtain ⟨er, her⟩ : ∃ m, (getAt x.data.toList p).2.2 = m := ⟨_, rfl⟩
      have hnn := getAt_next x.data.toList p
      have HU := rgetUint_any x p wr (by have := HX.out; omega)
      rw [hm, hnx, her] at HU
      rw [hnx] at hnn
      obtain ⟨y, rfl⟩ : ∃ y : Nat, nx = y := ⟨nx.toNat, by omega⟩
      have HU := Lib.hid HU
      have HTr := Lib.hid htr
      have HLi := Lib.hid hlie
      have HBe := Lib.hid hbel
      have HKr := Lib.hid hkr
      have HLn := Lib.hid hn
      have HPl := Lib.hid hp
      have Hs := Lib.hid (show B < wr.heap.size from (Array.getElem?_eq_some_iff.1 hkr).1)
      by_cases hg : er = 0 ∧ m ≤ 1099511627776
      · have hgt : gt x.data.toList p true = (m, y, true) := by
          rw [gt_good (by rw [her]; exact hg.1) (by rw [hm]; exact hg.2), hm, hnx]
          rfl
        have hmore := htr.more
        rw [hgt] at hmore
        have HMore := Lib.hid hmore
        have hyp : p < y := by
          have s1 := (htr.sound rfl).2
          have s2 := (hmore.sound rfl).2
          have := uint_pos m
          simp only [List.flatMap_append, List.length_append, List.flatMap_cons, List.flatMap_nil, List.append_nil] at s2
          omega
        have HYP := Lib.hid hyp
        have t1 := (err_no hg.1).2
        have t2 : decide ((1099511627776 : Int) < (m : Int)) = false := decide_eq_false (by omega)
        have t3 : IntKind.i64.wrap (m : Int) = (m : Int) := IntWalk.i64_in _ (by omega)
        clear hg hgt hmore hyp htr hlie hbel hkr hn hp hnn hm hnx her hpl hnl
        go_wp2_with fail
        refine HU.out.mono ?_
        rintro e1 w1 ⟨rfl, hb1⟩
        have hs1 := hb1.size
        have HL1 := Lib.hid (HLi.out.below hb1)
        have HK1 := Lib.hid ((hb1.block B Hs.out).trans HKr.out)
        have HB1 := Lib.hid (HBe.out.trans (hb1.mono (by have := Hs.out; omega)))
        have hold : Old (fun k => k < B + 1) w1 := fun k hk => by have := Hs.out; omega
        clear hb1
        go_wp2_with (at_builtin; go_must (refine wpList_append_elem_row rfl (.tmp 33) (.tmp 36) 83 (by rfl) 3 (.int .i64 0) 1 8 Tryd.underlying83 intInf rfl (by decide) (fun k => k < B + 1) n _ _ w1 #[.int .i64 (m : Nat)] rfl (by intro u hu; simp at hu; subst hu; rfl) HL1.out (by rfl) hold (by rfl) (by unfold maxLen; omega) (by omega) ?_; intro v9 w9 hown9 hst9 hgr9 hat9; obtain ⟨A9, c9, rfl⟩ := hown9.form; clear hgr9 hat9))
        go_roundw
        case rel => exact ⟨ns ++ [m], n + 1, y, A9, c9, rfl, rfl, by simp [HLn.out], HMore.out, by simpa [nums] using hown9, (hst9.block B (by omega)).trans HK1.out, HB1.out.trans (hst9.below fun k hk => by omega)⟩
        case measure =>
          have h1 := HYP.out
          have h2 := HPl.out
          simp [intOf]
          omega
      · have HNO := Lib.hid (no_read htr (by rw [← Lib.size_eq]; exact hp) (by rw [hm, her]; exact hg))
        by_cases he : er = 0
        · have t1 := (err_no he).2
          have t2 : decide ((1099511627776 : Int) < (m : Int)) = true := decide_eq_true (by omega)
          clear hg he htr hlie hbel hkr hn hp hnn hm hnx her hpl hnl
          go_wp2_with fail
          refine HU.out.mono ?_
          rintro e1 w1 ⟨rfl, hb1⟩
          have hk1 := (hb1.block B Hs.out).trans HKr.out
          have HB1 := Lib.hid (HBe.out.trans (hb1.mono (by have := Hs.out; omega)))
          clear hb1
          obtain ⟨r0, r1, r2, r3, r4, r5, r6, rf⟩ := seven hk1
          have z0 := rf 0
          have z1 := rf 1
          have z2 := rf 2
          have z3 := rf 3
          have z4 := rf 4
          have z5 := rf 5
          have z6 := rf 6
          clear rf
          go_wp2_with fail
          refine bodyPost_ret (v := .tuple #[stVal none 0 0 st0, .int .i64 11]) (by rw [results_cell_tmp rfl]; go_simp; rfl) rfl ⟨.inr ⟨fun y hy hyl hye => ?_, rfl⟩, by first | exact (((((((HB1.out.setCell (p := ⟨B, _, none⟩) (by simp) _).setCell (p := ⟨B, _, none⟩) (by simp) _).setCell (p := ⟨B, _, none⟩) (by simp) _).setCell (p := ⟨B, _, none⟩) (by simp) _).setCell (p := ⟨B, _, none⟩) (by simp) _).setCell (p := ⟨B, _, none⟩) (by simp) _).setCell (p := ⟨B, _, none⟩) (by simp) _) | (rw [HBs.out]; exact (((((((HB1.out.setCell (p := ⟨B, _, none⟩) (by simp) _).setCell (p := ⟨B, _, none⟩) (by simp) _).setCell (p := ⟨B, _, none⟩) (by simp) _).setCell (p := ⟨B, _, none⟩) (by simp) _).setCell (p := ⟨B, _, none⟩) (by simp) _).setCell (p := ⟨B, _, none⟩) (by simp) _).setCell (p := ⟨B, _, none⟩) (by simp) _))⟩
          exact HNO.out y hy hyl hye
        · have t1 := (err_yes he).2
          clear hg he htr hlie hbel hkr hn hp hnn hm hnx her hpl hnl
          go_wp2_with fail
          refine HU.out.mono ?_
          rintro e1 w1 ⟨rfl, hb1⟩
          have hk1 := (hb1.block B Hs.out).trans HKr.out
          have HB1 := Lib.hid (HBe.out.trans (hb1.mono (by have := Hs.out; omega)))
          clear hb1
          obtain ⟨r0, r1, r2, r3, r4, r5, r6, rf⟩ := seven hk1
          have z0 := rf 0
          have z1 := rf 1
          have z2 := rf 2
          have z3 := rf 3
          have z4 := rf 4
          have z5 := rf 5
          have z6 := rf 6
          clear rf
          go_wp2_with fail
          refine bodyPost_ret (v := .tuple #[stVal none 0 0 st0, .int .i64 11]) (by rw [results_cell_tmp rfl]; go_simp; rfl) rfl ⟨.inr ⟨fun y hy hyl hye => ?_, rfl⟩, by first | exact (((((((HB1.out.setCell (p := ⟨B, _, none⟩) (by simp) _).setCell (p := ⟨B, _, none⟩) (by simp) _).setCell (p := ⟨B, _, none⟩) (by simp) _).setCell (p := ⟨B, _, none⟩) (by simp) _).setCell (p := ⟨B, _, none⟩) (by simp) _).setCell (p := ⟨B, _, none⟩) (by simp) _).setCell (p := ⟨B, _, none⟩) (by simp) _) | (rw [HBs.out]; exact (((((((HB1.out.setCell (p := ⟨B, _, none⟩) (by simp) _).setCell (p := ⟨B, _, none⟩) (by simp) _).setCell (p := ⟨B, _, none⟩) (by simp) _).setCell (p := ⟨B, _, none⟩) (by simp) _).setCell (p := ⟨B, _, none⟩) (by simp) _).setCell (p := ⟨B, _, none⟩) (by simp) _).setCell (p := ⟨B, _, none⟩) (by simp) _))⟩
          exact HNO.out y hy hyl hye
    · obtain rfl : p = x.size := by omega
      have HAll := Lib.hid (all_read htr (Lib.size_eq x))
      have HSm := Lib.hid htr.small
      have HLen := Lib.hid hn
      clear htr hpl hp
      by_cases h4 : n < 4
      · have t4 : decide ((n : Int) < 4) = true := decide_eq_true (by omega)
        have HNO := Lib.hid (fun (y : St) (hy : OkSt y) (hyl : y.Parts.length ≤ 1000000) (hye : encB y = x.data.toList) => show False by
          obtain ⟨f1, -⟩ := few_read (only_read HSm.out HAll.out hy hyl hye)
          have := HLen.out
          omega)
        have HB1 := Lib.hid hbel
        obtain ⟨r0, r1, r2, r3, r4, r5, r6, rf⟩ := seven hkr
        have z0 := rf 0
        have z1 := rf 1
        have z2 := rf 2
        have z3 := rf 3
        have z4 := rf 4
        have z5 := rf 5
        have z6 := rf 6
        clear rf
        clear hbel hlie hn hkr h4
        go_wp2_with fail
        refine bodyPost_ret (v := .tuple #[stVal none 0 0 st0, .int .i64 11]) (by rw [results_cell_tmp rfl]; go_simp; rfl) rfl ⟨.inr ⟨fun y hy hyl hye => ?_, rfl⟩, by first | exact (((((((HB1.out.setCell (p := ⟨B, _, none⟩) (by simp) _).setCell (p := ⟨B, _, none⟩) (by simp) _).setCell (p := ⟨B, _, none⟩) (by simp) _).setCell (p := ⟨B, _, none⟩) (by simp) _).setCell (p := ⟨B, _, none⟩) (by simp) _).setCell (p := ⟨B, _, none⟩) (by simp) _).setCell (p := ⟨B, _, none⟩) (by simp) _) | (rw [HBs.out]; exact (((((((HB1.out.setCell (p := ⟨B, _, none⟩) (by simp) _).setCell (p := ⟨B, _, none⟩) (by simp) _).setCell (p := ⟨B, _, none⟩) (by simp) _).setCell (p := ⟨B, _, none⟩) (by simp) _).setCell (p := ⟨B, _, none⟩) (by simp) _).setCell (p := ⟨B, _, none⟩) (by simp) _).setCell (p := ⟨B, _, none⟩) (by simp) _))⟩
        exact HNO.out y hy hyl hye
      · have t4 : decide ((n : Int) < 4) = false := decide_eq_false (by omega)
        have hn0 : 0 < n := by omega
        have hn0' : (0 : Int) < n := by omega
        obtain ⟨m, hm0⟩ : ∃ m, ns[0]? = some m := ⟨_, List.getElem?_eq_getElem (by omega)⟩
        have hmm := htr_small HSm.out hm0
        have HN0 := Lib.hid hm0
        have HLc := Lib.hid (show n ≤ c from own_cap hlie)
        by_cases h5 : m ≤ n ∧ 4 + 3 * m ≤ n
        · have t5 : decide ((n : Int) < (m : Int)) = false := decide_eq_false (by omega)
          obtain ⟨k0, hk0⟩ : ∃ k, 3 * m = k := ⟨_, rfl⟩
          obtain ⟨k4, hk4⟩ : ∃ k, 4 + k0 = k := ⟨_, rfl⟩
          have v0 : IntKind.i64.wrap (3 * (m : Int)) = (k0 : Int) := by rw [IntWalk.i64_in _ (by omega)]; omega
          have v4 : IntKind.i64.wrap (4 + (k0 : Int)) = (k4 : Int) := by rw [IntWalk.i64_in _ (by omega)]; omega
          have t6 : decide ((n : Int) < (k4 : Int)) = false := decide_eq_false (by omega)
          have t6' : decide (n < k4) = false := decide_eq_false (by omega)
          have t5' : decide (n < m) = false := decide_eq_false (by omega)
          have h5a := h5.1
          have h5b := h5.2
          clear hk0 hk4 hm0 h5
          obtain ⟨X, hX⟩ : ∃ X, wr.heap.size = X := ⟨_, rfl⟩
          have HXs := Lib.hid hX
          have HXB := Lib.hid (show B < X by have := (Array.getElem?_eq_some_iff.1 hkr).1; omega)
          obtain ⟨gb, off, rfl, hgb, hcl⟩ := (hlie.rd).2 (by omega)
          have Hgb := Lib.hid (show gb < X by omega)
          have HCL := Lib.hid hcl
          have c0 : wr.cell? ⟨gb, off, none⟩ = some (.int .i64 (m : Nat)) := hcl 0 _ (nums_at HN0.out)
          have HR0 : RW B X w (some ⟨gb, off, none⟩) ns none 0 0 [] (sN 0 0 false 0 0 0) (wr.alloc (.cells z7 31)) := by
            have hb := Below.one wr (.cells z7 31)
            refine ⟨by rw [HLen.out]; exact hlie.rd.below hb, Lie.nil _ _ _ _, ?_, (hb.block _ (by rw [HXs.out]; exact HXB.out)).trans hkr, hbel.trans (hb.mono (by have := HXB.out; omega))⟩
            have := heap_alloc_new wr (.cells z7 31)
            rw [hX] at this
            exact this
          have HRR0 := Lib.hid HR0
          have HBel := Lib.hid hbel
          clear hlie hbel hgb hcl HR0 hkr
          go_wp2_with fail
          try simp only [HXs.out]
          clear v0 v4 t6 t6'
          go_loopw [10] (fun iv wr => ∃ (i : Nat) (A5 : Option Addr) (c5 : Nat) (ts : List Tri3), iv = .int .i64 (i : Nat) ∧ i ≤ m ∧ ts.length = i ∧ ts.flatMap triN = (ns.drop 1).take (3 * i) ∧ RW B X w (some ⟨gb, off, none⟩) ns A5 i c5 ts (sN 0 0 false 0 0 0) wr) (fun iv _ => m - (intOf iv).toNat)
          case atStart => exact ⟨0, none, 0, [], rfl, by omega, rfl, by simp, HRR0.out⟩
          case round =>
            clear c0
            obtain ⟨i, A5, c5, ts, rfl, him, hts, htn, hR⟩ := hrel
            obtain ⟨gb', off', e, hgs, hcl⟩ := hR.rd.2 (by have := HLen.out; omega)
            cases e
            have c0 : wr.cell? ⟨gb, off, none⟩ = some (.int .i64 (m : Nat)) := hcl 0 _ (nums_at HN0.out)
            have HCL := Lib.hid hcl
            have HTN := Lib.hid htn
            have HR := Lib.hid hR
            have Hs := Lib.hid (show X < wr.heap.size from (Array.getElem?_eq_some_iff.1 hR.kx).1)
            clear hcl htn hR hgs
            by_cases hlt : i < m
            · have hk1 : (i : Int) < m := by omega
              obtain ⟨k0, hk0⟩ : ∃ k, 3 * i = k := ⟨_, rfl⟩
              obtain ⟨k1, hk1'⟩ : ∃ k, 1 + k0 = k := ⟨_, rfl⟩
              obtain ⟨k2, hk2⟩ : ∃ k, 2 + k0 = k := ⟨_, rfl⟩
              obtain ⟨k3, hk3⟩ : ∃ k, 3 + k0 = k := ⟨_, rfl⟩
              have l1 : k1 < n := by omega
              have l2 : k2 < n := by omega
              have l3 : k3 < n := by omega
              have w0 : IntKind.i64.wrap (3 * (i : Int)) = (k0 : Int) := by rw [IntWalk.i64_in _ (by omega)]; omega
              have w1 : IntKind.i64.wrap (1 + (k0 : Int)) = (k1 : Int) := by rw [IntWalk.i64_in _ (by omega)]; omega
              have w2 : IntKind.i64.wrap (2 + (k0 : Int)) = (k2 : Int) := by rw [IntWalk.i64_in _ (by omega)]; omega
              have w3 : IntKind.i64.wrap (3 + (k0 : Int)) = (k3 : Int) := by rw [IntWalk.i64_in _ (by omega)]; omega
              obtain ⟨a, ha⟩ : ∃ a, ns[k1]? = some a := ⟨_, List.getElem?_eq_getElem (by have := HLen.out; omega)⟩
              obtain ⟨b, hb⟩ : ∃ a, ns[k2]? = some a := ⟨_, List.getElem?_eq_getElem (by have := HLen.out; omega)⟩
              obtain ⟨d, hd⟩ : ∃ a, ns[k3]? = some a := ⟨_, List.getElem?_eq_getElem (by have := HLen.out; omega)⟩
              have hdm : d ≤ 1099511627776 := HSm.out d (List.mem_of_getElem? hd)
              have hdm' := Lib.hid hdm
              have hc1 := HCL.out _ _ (nums_at ha)
              have hc2 := HCL.out _ _ (nums_at hb)
              have hc3 := HCL.out _ _ (nums_at hd)
              have HTM := Lib.hid (tri_more (a := a) (b := b) (c := d) HTN.out (by rw [hk0, hk1']; exact ha) (by rw [hk0, hk2]; exact hb) (by rw [hk0, hk3]; exact hd))
              have HTS := Lib.hid hts
              clear ha hb hd hdm hk0 hk1' hk2 hk3 hts
              go_wp2_with fail
              refine head_plain (n := 24) (S := fun w' => w'.cell? ⟨X, 0, none⟩ = some (.slice A5 i c5) ∧ w'.cell? ⟨gb, off + k1, none⟩ = some (.int .i64 (a : Nat)) ∧ w'.cell? ⟨gb, off + k2, none⟩ = some (.int .i64 (b : Nat)) ∧ w'.cell? ⟨gb, off + k3, none⟩ = some (.int .i64 (d : Nat))) hmix 24 rfl ⟨(Lib.cell_of_heap HR.out.kx 0).trans rfl, hc1, hc2, hc3⟩ (fun hHeld => ?_)
              try simp only [Act.put, List.setIfInBounds_toArray, List.set_cons_zero, List.set_cons_succ]
              refine head_take (i := 0) (oi := _) (v := ?_) (by simp only [List.getElem?_toArray, List.getElem?_cons_succ, List.getElem?_cons_zero]; rfl) (by decide) (by kernel_rfl) (by kernel_rfl) (by kernel_rfl) (by kernel_rfl) (by exact fun _ _ _ h => h) (Or.inl ⟨by rfl, ?_⟩) (by assumption) ?_
              rotate_left
              · (intro w hSw; obtain ⟨q0, q1, q2, q3⟩ := hSw; go_simp) <;> with_reducible rfl
              try simp only [Act.put, List.setIfInBounds_toArray, List.set_cons_zero, List.set_cons_succ]
              refine head_take (i := 1) (oi := _) (v := ?_) (by simp only [List.getElem?_toArray, List.getElem?_cons_succ, List.getElem?_cons_zero]; rfl) (by decide) (by kernel_rfl) (by kernel_rfl) (by kernel_rfl) (by kernel_rfl) (by exact fun _ _ _ h => h) (Or.inl ⟨by rfl, ?_⟩) (by assumption) ?_
              rotate_left
              · (intro w hSw; obtain ⟨q0, q1, q2, q3⟩ := hSw; go_simp) <;> with_reducible rfl
              try simp only [Act.put, List.setIfInBounds_toArray, List.set_cons_zero, List.set_cons_succ]
              refine head_take (i := 2) (oi := _) (v := ?_) (by simp only [List.getElem?_toArray, List.getElem?_cons_succ, List.getElem?_cons_zero]; rfl) (by decide) (by kernel_rfl) (by kernel_rfl) (by kernel_rfl) (by kernel_rfl) (by exact fun _ _ _ h => h) (Or.inl ⟨by rfl, ?_⟩) (by assumption) ?_
              rotate_left
              · (intro w hSw; obtain ⟨q0, q1, q2, q3⟩ := hSw; go_simp) <;> with_reducible rfl
              try simp only [Act.put, List.setIfInBounds_toArray, List.set_cons_zero, List.set_cons_succ]
              refine head_take (i := 3) (oi := _) (v := ?_) (by simp only [List.getElem?_toArray, List.getElem?_cons_succ, List.getElem?_cons_zero]; rfl) (by decide) (by kernel_rfl) (by kernel_rfl) (by kernel_rfl) (by kernel_rfl) (by exact fun _ _ _ h => h) (Or.inl ⟨by rfl, ?_⟩) (by assumption) ?_
              rotate_left
              · (intro w hSw; obtain ⟨q0, q1, q2, q3⟩ := hSw; go_simp) <;> with_reducible rfl
              try simp only [Act.put, List.setIfInBounds_toArray, List.set_cons_zero, List.set_cons_succ]
              refine head_take (i := 4) (oi := _) (v := ?_) (by simp only [List.getElem?_toArray, List.getElem?_cons_succ, List.getElem?_cons_zero]; rfl) (by decide) (by kernel_rfl) (by kernel_rfl) (by kernel_rfl) (by kernel_rfl) (by exact fun _ _ _ h => h) (Or.inl ⟨by rfl, ?_⟩) (by assumption) ?_
              rotate_left
              · (intro w hSw; obtain ⟨q0, q1, q2, q3⟩ := hSw; go_simp) <;> with_reducible rfl
              try simp only [Act.put, List.setIfInBounds_toArray, List.set_cons_zero, List.set_cons_succ]
              refine head_take (i := 5) (oi := _) (v := ?_) (by simp only [List.getElem?_toArray, List.getElem?_cons_succ, List.getElem?_cons_zero]; rfl) (by decide) (by kernel_rfl) (by kernel_rfl) (by kernel_rfl) (by kernel_rfl) (by exact fun _ _ _ h => h) (Or.inl ⟨by rfl, ?_⟩) (by assumption) ?_
              rotate_left
              · (intro w hSw; obtain ⟨q0, q1, q2, q3⟩ := hSw; go_simp) <;> with_reducible rfl
              try simp only [Act.put, List.setIfInBounds_toArray, List.set_cons_zero, List.set_cons_succ]
              refine head_take (i := 6) (oi := _) (v := ?_) (by simp only [List.getElem?_toArray, List.getElem?_cons_succ, List.getElem?_cons_zero]; rfl) (by decide) (by kernel_rfl) (by kernel_rfl) (by kernel_rfl) (by kernel_rfl) (by exact fun _ _ _ h => h) (Or.inl ⟨by rfl, ?_⟩) (by assumption) ?_
              rotate_left
              · (intro w hSw; obtain ⟨q0, q1, q2, q3⟩ := hSw; go_simp) <;> with_reducible rfl
              try simp only [Act.put, List.setIfInBounds_toArray, List.set_cons_zero, List.set_cons_succ]
              refine head_take (i := 7) (oi := _) (v := ?_) (by simp only [List.getElem?_toArray, List.getElem?_cons_succ, List.getElem?_cons_zero]; rfl) (by decide) (by kernel_rfl) (by kernel_rfl) (by kernel_rfl) (by kernel_rfl) (by exact fun _ _ _ h => h) (Or.inl ⟨by rfl, ?_⟩) (by assumption) ?_
              rotate_left
              · (intro w hSw; obtain ⟨q0, q1, q2, q3⟩ := hSw; go_simp) <;> with_reducible rfl
              try simp only [Act.put, List.setIfInBounds_toArray, List.set_cons_zero, List.set_cons_succ]
              refine head_take (i := 8) (oi := _) (v := ?_) (by simp only [List.getElem?_toArray, List.getElem?_cons_succ, List.getElem?_cons_zero]; rfl) (by decide) (by kernel_rfl) (by kernel_rfl) (by kernel_rfl) (by kernel_rfl) (by exact fun _ _ _ h => h) (Or.inl ⟨by rfl, ?_⟩) (by assumption) ?_
              rotate_left
              · (intro w hSw; obtain ⟨q0, q1, q2, q3⟩ := hSw; go_simp) <;> with_reducible rfl
              try simp only [Act.put, List.setIfInBounds_toArray, List.set_cons_zero, List.set_cons_succ]
              refine head_take (i := 9) (oi := _) (v := ?_) (by simp only [List.getElem?_toArray, List.getElem?_cons_succ, List.getElem?_cons_zero]; rfl) (by decide) (by kernel_rfl) (by kernel_rfl) (by kernel_rfl) (by kernel_rfl) (by exact fun _ _ _ h => h) (Or.inl ⟨by rfl, ?_⟩) (by assumption) ?_
              rotate_left
              · (intro w hSw; obtain ⟨q0, q1, q2, q3⟩ := hSw; go_simp) <;> with_reducible rfl
              try simp only [Act.put, List.setIfInBounds_toArray, List.set_cons_zero, List.set_cons_succ]
              refine head_take (i := 10) (oi := _) (v := ?_) (by simp only [List.getElem?_toArray, List.getElem?_cons_succ, List.getElem?_cons_zero]; rfl) (by decide) (by kernel_rfl) (by kernel_rfl) (by kernel_rfl) (by kernel_rfl) (by exact fun _ _ _ h => h) (Or.inl ⟨by rfl, ?_⟩) (by assumption) ?_
              rotate_left
              · (intro w hSw; obtain ⟨q0, q1, q2, q3⟩ := hSw; go_simp) <;> with_reducible rfl
              try simp only [Act.put, List.setIfInBounds_toArray, List.set_cons_zero, List.set_cons_succ]
              refine head_take (i := 11) (oi := _) (v := ?_) (by simp only [List.getElem?_toArray, List.getElem?_cons_succ, List.getElem?_cons_zero]; rfl) (by decide) (by kernel_rfl) (by kernel_rfl) (by kernel_rfl) (by kernel_rfl) (by exact fun _ _ _ h => h) (Or.inl ⟨by rfl, ?_⟩) (by assumption) ?_
              rotate_left
              · (intro w hSw; obtain ⟨q0, q1, q2, q3⟩ := hSw; go_simp) <;> with_reducible rfl
              try simp only [Act.put, List.setIfInBounds_toArray, List.set_cons_zero, List.set_cons_succ]
              refine head_take (i := 12) (oi := _) (v := ?_) (by simp only [List.getElem?_toArray, List.getElem?_cons_succ, List.getElem?_cons_zero]; rfl) (by decide) (by kernel_rfl) (by kernel_rfl) (by kernel_rfl) (by kernel_rfl) (by exact fun _ _ _ h => h) (Or.inl ⟨by rfl, ?_⟩) (by assumption) ?_
              rotate_left
              · (intro w hSw; obtain ⟨q0, q1, q2, q3⟩ := hSw; go_simp) <;> with_reducible rfl
              try simp only [Act.put, List.setIfInBounds_toArray, List.set_cons_zero, List.set_cons_succ]
              refine head_take (i := 13) (oi := _) (v := ?_) (by simp only [List.getElem?_toArray, List.getElem?_cons_succ, List.getElem?_cons_zero]; rfl) (by decide) (by kernel_rfl) (by kernel_rfl) (by kernel_rfl) (by kernel_rfl) (by exact fun _ _ _ h => h) (Or.inl ⟨by rfl, ?_⟩) (by assumption) ?_
              rotate_left
              · (intro w hSw; obtain ⟨q0, q1, q2, q3⟩ := hSw; go_simp) <;> with_reducible rfl
              try simp only [Act.put, List.setIfInBounds_toArray, List.set_cons_zero, List.set_cons_succ]
              refine head_take (i := 14) (oi := _) (v := ?_) (by simp only [List.getElem?_toArray, List.getElem?_cons_succ, List.getElem?_cons_zero]; rfl) (by decide) (by kernel_rfl) (by kernel_rfl) (by kernel_rfl) (by kernel_rfl) (by exact fun _ _ _ h => h) (Or.inl ⟨by rfl, ?_⟩) (by assumption) ?_
              rotate_left
              · (intro w hSw; obtain ⟨q0, q1, q2, q3⟩ := hSw; go_simp) <;> with_reducible rfl
              try simp only [Act.put, List.setIfInBounds_toArray, List.set_cons_zero, List.set_cons_succ]
              refine head_take (i := 15) (oi := _) (v := ?_) (by simp only [List.getElem?_toArray, List.getElem?_cons_succ, List.getElem?_cons_zero]; rfl) (by decide) (by kernel_rfl) (by kernel_rfl) (by kernel_rfl) (by kernel_rfl) (by exact fun _ _ _ h => h) (Or.inl ⟨by rfl, ?_⟩) (by assumption) ?_
              rotate_left
              · (intro w hSw; obtain ⟨q0, q1, q2, q3⟩ := hSw; go_simp) <;> with_reducible rfl
              try simp only [Act.put, List.setIfInBounds_toArray, List.set_cons_zero, List.set_cons_succ]
              refine head_take (i := 16) (oi := _) (v := ?_) (by simp only [List.getElem?_toArray, List.getElem?_cons_succ, List.getElem?_cons_zero]; rfl) (by decide) (by kernel_rfl) (by kernel_rfl) (by kernel_rfl) (by kernel_rfl) (by exact fun _ _ _ h => h) (Or.inl ⟨by rfl, ?_⟩) (by assumption) ?_
              rotate_left
              · (intro w hSw; obtain ⟨q0, q1, q2, q3⟩ := hSw; go_simp) <;> with_reducible rfl
              try simp only [Act.put, List.setIfInBounds_toArray, List.set_cons_zero, List.set_cons_succ]
              refine head_take (i := 17) (oi := _) (v := ?_) (by simp only [List.getElem?_toArray, List.getElem?_cons_succ, List.getElem?_cons_zero]; rfl) (by decide) (by kernel_rfl) (by kernel_rfl) (by kernel_rfl) (by kernel_rfl) (by exact fun _ _ _ h => h) (Or.inl ⟨by rfl, ?_⟩) (by assumption) ?_
              rotate_left
              · (intro w hSw; obtain ⟨q0, q1, q2, q3⟩ := hSw; go_simp) <;> with_reducible rfl
              try simp only [Act.put, List.setIfInBounds_toArray, List.set_cons_zero, List.set_cons_succ]
              refine head_take (i := 18) (oi := _) (v := ?_) (by simp only [List.getElem?_toArray, List.getElem?_cons_succ, List.getElem?_cons_zero]; rfl) (by decide) (by kernel_rfl) (by kernel_rfl) (by kernel_rfl) (by kernel_rfl) (by exact fun _ _ _ h => h) (Or.inl ⟨by rfl, ?_⟩) (by assumption) ?_
              rotate_left
              · (intro w hSw; obtain ⟨q0, q1, q2, q3⟩ := hSw; go_simp) <;> with_reducible rfl
              try simp only [Act.put, List.setIfInBounds_toArray, List.set_cons_zero, List.set_cons_succ]
              refine head_take (i := 19) (oi := _) (v := ?_) (by simp only [List.getElem?_toArray, List.getElem?_cons_succ, List.getElem?_cons_zero]; rfl) (by decide) (by kernel_rfl) (by kernel_rfl) (by kernel_rfl) (by kernel_rfl) (by exact fun _ _ _ h => h) (Or.inl ⟨by rfl, ?_⟩) (by assumption) ?_
              rotate_left
              · (intro w hSw; obtain ⟨q0, q1, q2, q3⟩ := hSw; go_simp) <;> with_reducible rfl
              try simp only [Act.put, List.setIfInBounds_toArray, List.set_cons_zero, List.set_cons_succ]
              refine head_ready (rs := [20]) (by kernel_rfl) (by simp) ?_
              refine HeadAll.cons (o := _) (by simp only [List.getElem?_toArray, List.getElem?_cons_succ, List.getElem?_cons_zero]; rfl) (by decide) (fun K hK => ?_) HeadAll.nil
              go_simp
              refine (rfile_any d (by have := hdm'.out; omega) wr.drew).mono ?_
              rintro e4 w4 ⟨rfl, rfl⟩
              go_wp2_with fail
              refine hK.out _ _ hHeld (fun hHeld => ?_)
              clear hK K
              try simp only [Act.put, List.setIfInBounds_toArray, List.set_cons_zero, List.set_cons_succ]
              refine head_take (i := 21) (oi := _) (v := ?_) (by simp only [List.getElem?_toArray, List.getElem?_cons_succ, List.getElem?_cons_zero]; rfl) (by decide) (by kernel_rfl) (by kernel_rfl) (by kernel_rfl) (by kernel_rfl) (by exact fun _ _ _ h => h) (Or.inl ⟨by rfl, ?_⟩) (by assumption) ?_
              rotate_left
              · (intro w hSw; obtain ⟨q0, q1, q2, q3⟩ := hSw; go_simp) <;> with_reducible rfl
              try simp only [Act.put, List.setIfInBounds_toArray, List.set_cons_zero, List.set_cons_succ]
              refine head_ready (rs := [22]) (by kernel_rfl) (by simp) ?_
              refine HeadAll.cons (o := _) (by simp only [List.getElem?_toArray, List.getElem?_cons_succ, List.getElem?_cons_zero]; rfl) (by decide) (fun K hK => ?_) HeadAll.nil
              go_simp
              have hb5 := Below.one wr.drew (.cells #[.int .i64 (a : Nat), .int .i64 (b : Nat), .string (S (fileB (d : Nat)))] 43)
              have kx5 : (wr.drew.alloc (.cells #[.int .i64 (a : Nat), .int .i64 (b : Nat), .string (S (fileB (d : Nat)))] 43)).heap[X]? = _ := (hb5.block X Hs.out).trans HR.out.kx
              have kr5 : (wr.drew.alloc (.cells #[.int .i64 (a : Nat), .int .i64 (b : Nat), .string (S (fileB (d : Nat)))] 43)).heap[B]? = _ := (hb5.block B (by have := Hs.out; have := HXB.out; simp; omega)).trans HR.out.kr
              have HL5 : Lie (fun k => k < X + 1) 43 3 (.slice A5 i c5) i ((ts.map triP).flatMap partCells) (wr.drew.alloc (.cells #[.int .i64 (a : Nat), .int .i64 (b : Nat), .string (S (fileB (d : Nat)))] 43)) := (show Lie (fun k => k < X + 1) 43 3 (.slice A5 i c5) i ((ts.map triP).flatMap partCells) wr.drew from HR.out.lie).below hb5
              have hH5 := And.intro ((Lib.cell_of_heap kx5 0).trans (show _ = some (Value.slice A5 i c5) from rfl)) (And.intro (keepc hb5 hHeld.2.1) (And.intro (keepc hb5 hHeld.2.2.1) (keepc hb5 hHeld.2.2.2)))
              refine hK.out _ _ hH5 (fun hHeld => ?_)
              clear hK K
              try simp only [Act.put, List.setIfInBounds_toArray, List.set_cons_zero, List.set_cons_succ]
              refine head_ready (rs := [23]) (by kernel_rfl) (by simp) ?_
              refine HeadAll.cons (o := _) (by simp only [List.getElem?_toArray, List.getElem?_cons_succ, List.getElem?_cons_zero]; rfl) (by decide) (fun K hK => ?_) HeadAll.nil
              refine step_append_rd_row rfl (.tmp 70) (.tmp 91) 29 rfl 43 (.agg #[.int .i64 0, .int .i64 0, .string ⟨#[]⟩]) 3 32 Tryd.underlying29 rpartInf rfl (by decide) (fun k => k < X + 1) i _ (.slice A5 i c5) _ HL5 rfl (fun k hk => by have : k < X + 1 := hk; have := Hs.out; simp; omega) _ 1 _ [.int .i64 (a : Nat), .int .i64 (b : Nat), .string (S (fileB (d : Nat)))] rfl (rd_part wr.drew _ _ _ _) (by intro u hu; simp at hu; rcases hu with rfl | rfl | rfl <;> rfl) (by unfold maxLen; omega) (by omega) ?_
              intro v8 w8 hown8 hst8 hgr8 hat8
              obtain ⟨A8, c8, rfl⟩ := hown8.form
              have Hl8 := Lib.hid hown8
              have k8 := (hst8.block X (by omega)).trans kx5
              have hkeep : ∀ (j : Nat) (u : Value), wr.cell? ⟨gb, j, none⟩ = some u → w8.cell? ⟨gb, j, none⟩ = some u := fun j u h => by
                have h1 := keepc hb5.drewl h
                rw [← h1]
                unfold World.cell?
                rw [hst8.block gb (by have := Hgb.out; show gb < X + 1; omega)]
                rfl
              have hH8 := And.intro ((Lib.cell_of_heap k8 0).trans (show _ = some (Value.slice A5 i c5) from rfl)) (And.intro (hkeep _ _ hc1) (And.intro (hkeep _ _ hc2) (hkeep _ _ hc3)))
              clear hgr8 hat8 hown8
              refine hK.out _ _ hH8 (fun hHeld => ?_)
              clear hK K
              try simp only [Act.put, List.setIfInBounds_toArray, List.set_cons_zero, List.set_cons_succ]
              refine head_done (by kernel_rfl) ?_
              have f8 := Lib.frozen_of_heap k8 0
              go_wp2_with fail
              go_roundw
              case rel =>
                refine ⟨i + 1, A8, c8, ts ++ [(a, b, d)], by go_num, by omega, by simp [HTS.out], HTM.out, ?_⟩
                refine ⟨rd_setCell ?_ ?_, ?_, ?_, ?_, ?_⟩
                · refine ⟨HR.out.rd.1, fun _ => ⟨gb, off, rfl, ?_, fun j u hu => hkeep _ _ (HCL.out j u hu)⟩⟩
                  have h1 := hst8.size
                  have h2 := Hgb.out
                  have h3 := Hs.out
                  simp at h1
                  omega
                · intro g o' e
                  cases e
                  have := Hgb.out
                  omega
                · have := own_set (b := X) Hl8.out (show X < X + 1 by omega) 0 (.slice A8 (i + 1) c8)
                  simpa [List.flatMap_append, triP, partCells] using this
                · rw [Lib.heap_setCell_same k8]; rfl
                · exact (Below.heap_setCell _ _ _ _ (by have := HXB.out; simp only; omega)).trans ((hst8.block B (by have := HXB.out; omega)).trans kr5)
                · have hbb : Below B w (wr.drew.alloc (.cells #[.int .i64 (a : Nat), .int .i64 (b : Nat), .string (S (fileB (d : Nat)))] 43)) := HR.out.bel.trans (hb5.drewl.mono (by have := HXB.out; have := Hs.out; omega))
                  exact (hbb.trans (hst8.below fun k hk => by have := HXB.out; omega)).setCell (p := ⟨X, 0, none⟩) (by have := HXB.out; simp only; omega) _
              case measure => simp [intOf]; omega
            · obtain rfl : m = i := by omega
              clear him
              obtain ⟨nx, pa, R, hns, hRl, hnx, hpa, hRat⟩ := rest_of HN0.out HTN.out (by have := HLen.out; omega)
              have Hts := Lib.hid hts
              have Hm8 := Lib.hid (show m ≤ 33334 by omega)
              have HNS := Lib.hid hns
              have HFL := Lib.hid (show ∀ q ∈ ts.map triP, q.File.length ≤ 1000000 from fun q hq => by
                obtain ⟨z, hz, rfl⟩ := List.mem_map.1 hq
                have h1 := HSm.out z.2.2 (by rw [HNS.out]; exact List.mem_cons_of_mem _ (List.mem_append_left _ (List.mem_flatMap.2 ⟨z, hz, by simp [triN]⟩)))
                have h2 := (fileB_len (m := z.2.2) (by omega)).2
                simp only [triP]
                omega)
              obtain ⟨k0, hk0⟩ : ∃ k, 3 * m = k := ⟨_, rfl⟩
              obtain ⟨k1, hk1⟩ : ∃ k, 1 + k0 = k := ⟨_, rfl⟩
              rw [hk0] at hnx hpa hRl
              rw [hk1] at hnx
              rw [show 2 + k0 = k1 + 1 by omega] at hpa
              have hRat' : ∀ k, R[k]? = ns[k1 + (2 + k)]? := fun k => by rw [hRat k, hk0, show 3 + k0 + k = k1 + (2 + k) by omega]
              clear hRat
              have w0 : IntKind.i64.wrap (3 * (m : Int)) = (k0 : Int) := by rw [IntWalk.i64_in _ (by omega)]; omega
              have w1 : IntKind.i64.wrap (1 + (k0 : Int)) = (k1 : Int) := by rw [IntWalk.i64_in _ (by omega)]; omega
              have w1' : IntKind.i64.wrap ((k0 : Int) + 1) = (k1 : Int) := by rw [IntWalk.i64_in _ (by omega)]; omega
              obtain ⟨n1, hn1⟩ : ∃ k, n - k1 = k := ⟨_, rfl⟩
              have hn1e : n1 = R.length + 2 := by have := HLen.out; omega
              have lk : k1 ≤ n := by omega
              have lc := HLc.out
              have d0 := HCL.out _ _ (nums_at hnx)
              have d1 := HCL.out _ _ (nums_at hpa)
              rw [show off + (k1 + 1) = off + k1 + 1 by omega] at d1
              have lz : 0 < n1 := by omega
              have hgx : gb < X := Hgb.out
              have hgx' : gb ≠ X := by omega
              have lo : 1 < n1 := by omega
              obtain ⟨x0, x1, x2, x3, x4, x5, x6, xf⟩ := seven HR.out.kx
              have g1 := xf 1
              have g2 := xf 2
              obtain ⟨V2, hV2⟩ : ∃ V, (wr.setCell ⟨X, 1, none⟩ (.int .i64 (nx : Nat))).setCell ⟨X, 2, none⟩ (.int .i64 (pa : Nat)) = V := ⟨_, rfl⟩
              have HV2 := Lib.hid hV2
              have hA : ∀ g o', some (⟨gb, off, none⟩ : Addr) = some ⟨g, o', none⟩ → g < X := fun g o' e => by cases e; exact Hgb.out
              have HR2 := Lib.hid (show RW B X w (some ⟨gb, off, none⟩) ns A5 m c5 ts (sN (nx : Nat) (pa : Nat) false 0 0 0) V2 by rw [← hV2]; exact (HR.out.set HXB.out hA 1 _ (sN (nx : Nat) 0 false 0 0 0) rfl).set HXB.out hA 2 _ (sN (nx : Nat) (pa : Nat) false 0 0 0) rfl)
              have HA := Lib.hid hA
              clear hV2 hA hnx hpa hk0 hk1 hns xf
              by_cases h6 : R.length = 4
              · obtain ⟨o, d, t, dn, hRR⟩ : ∃ o d t dn, R = [o, d, t, dn] := by
                  match R, h6 with
                  | [o, d, t, dn], _ => exact ⟨o, d, t, dn, rfl⟩
                subst hRR
                obtain rfl : n1 = 6 := by simpa using hn1e
                have d3 := HCL.out _ _ (nums_at (n := d) (by rw [← hRat' 1]; rfl))
                have d4 := HCL.out _ _ (nums_at (n := t) (by rw [← hRat' 2]; rfl))
                have d5 := HCL.out _ _ (nums_at (n := dn) (by rw [← hRat' 3]; rfl))
                rw [show off + (k1 + (2 + 1)) = off + k1 + 3 by omega] at d3
                rw [show off + (k1 + (2 + 2)) = off + k1 + 4 by omega] at d4
                rw [show off + (k1 + (2 + 3)) = off + k1 + 5 by omega] at d5
                have g3 := (seven HR.out.kx).2.2.2.2.2.2.2 3
                have g4 := (seven HR.out.kx).2.2.2.2.2.2.2 4
                have g5 := (seven HR.out.kx).2.2.2.2.2.2.2 5
                have g6 := (seven HR.out.kx).2.2.2.2.2.2.2 6
                obtain ⟨W3, hW3⟩ : ∃ V, ((((((wr.setCell ⟨X, 1, none⟩ (.int .i64 (nx : Nat))).setCell ⟨X, 2, none⟩ (.int .i64 (pa : Nat))).setCell ⟨X, 3, none⟩ (.bool true)).setCell ⟨X, 4, none⟩ (.int .i64 (d : Nat))).setCell ⟨X, 5, none⟩ (.int .i64 (t : Nat))).setCell ⟨X, 6, none⟩ (.int .i64 (dn : Nat))) = V := ⟨_, rfl⟩
                have HW3 := Lib.hid hW3
                have HR3 := Lib.hid (show RW B X w (some ⟨gb, off, none⟩) ns A5 m c5 ts ⟨ts.map triP, (nx : Int), (pa : Int), true, (d : Int), (t : Int), (dn : Int)⟩ W3 by
                  rw [← hW3, HV2.out]
                  have r3 := HR2.out.set HXB.out HA.out 3 (.bool true) (sN (nx : Nat) (pa : Nat) true 0 0 0) rfl
                  have r4 := r3.set HXB.out HA.out 4 (.int .i64 (d : Nat)) (sN (nx : Nat) (pa : Nat) true (d : Nat) 0 0) rfl
                  have r5 := r4.set HXB.out HA.out 5 (.int .i64 (t : Nat)) (sN (nx : Nat) (pa : Nat) true (d : Nat) (t : Nat) 0) rfl
                  exact r5.set HXB.out HA.out 6 (.int .i64 (dn : Nat)) ⟨ts.map triP, (nx : Int), (pa : Int), true, (d : Int), (t : Int), (dn : Int)⟩ rfl)
                have HY := Lib.hid (show ∀ y, OkSt y → y.Parts.length ≤ 1000000 → encB y = x.data.toList → y = ⟨ts.map triP, (nx : Int), (pa : Int), true, (d : Int), (t : Int), (dn : Int)⟩ from fun y hy hyl hye => by
                  have := rdec_on HSm.out HNS.out Hts.out (only_read HSm.out HAll.out hy hyl hye) hy
                  simpa [mkS] using this)
                have q6 : ((6 : Int) == 6) = true := rfl
                clear hW3 hn1e hRl hRat' h6
                have HEn := Lib.hid (rencode_any A5 m c5 ⟨ts.map triP, (nx : Int), (pa : Int), true, (d : Int), (t : Int), (dn : Int)⟩ W3 HR3.out.lie.rd (by simp [Hts.out]) (by have := Hm8.out; omega) HFL.out)
                unfold stVal at HEn
                obtain ⟨x0, x1, x2, x3, x4, x5, x6, -⟩ := seven HR3.out.kx
                go_wp2_with fail
                try simp only [HW3.out]
                refine HEn.out.mono ?_
                rintro e7 w7 ⟨h7, hb7⟩
                have HR7 := Lib.hid (HR3.out.later HXB.out hb7)
                clear hb7 x0 x1 x2 x3 x4 x5 x6
                rcases h7 with ⟨hok, rfl⟩ | ⟨hok, rfl⟩
                · have HOK := Lib.hid hok
                  clear hok
                  by_cases heq : encB ⟨ts.map triP, (nx : Int), (pa : Int), true, (d : Int), (t : Int), (dn : Int)⟩ = x.data.toList
                  · have HQ := Lib.hid heq
                    have j1 := eqSx heq
                    clear heq
                    obtain ⟨E, hE⟩ : ∃ E, S (encB ⟨ts.map triP, (nx : Int), (pa : Int), true, (d : Int), (t : Int), (dn : Int)⟩) = E := ⟨_, rfl⟩
                    simp only [hE] at j1 ⊢
                    clear hE
                    obtain ⟨r0, r1, r2, r3, r4, r5, r6, rf⟩ := seven HR7.out.kr
                    have z0 := rf 0
                    have z1 := rf 1
                    have z2 := rf 2
                    have z3 := rf 3
                    have z4 := rf 4
                    have z5 := rf 5
                    have z6 := rf 6
                    clear rf
                    obtain ⟨x0, x1, x2, x3, x4, x5, x6, -⟩ := seven HR7.out.kx
                    go_wp2_with fail
                    refine bodyPost_ret (v := .tuple #[stVal A5 m c5 ⟨ts.map triP, (nx : Int), (pa : Int), true, (d : Int), (t : Int), (dn : Int)⟩, .int .i64 0]) (by rw [results_cell_tmp rfl]; go_simp; rfl) rfl ⟨.inl ⟨⟨ts.map triP, (nx : Int), (pa : Int), true, (d : Int), (t : Int), (dn : Int)⟩, A5, m, c5, HOK.out, HQ.out, by simp [Hts.out], by have := Hm8.out; omega, rfl, (HR7.out.out7 HXB.out ..).1⟩, by first | exact (HR7.out.out7 HXB.out ..).2 | (rw [HBs.out]; exact (HR7.out.out7 HXB.out ..).2)⟩
                  · have j1 := neSx heq
                    have HQ := Lib.hid heq
                    clear heq
                    obtain ⟨E, hE⟩ : ∃ E, S (encB ⟨ts.map triP, (nx : Int), (pa : Int), true, (d : Int), (t : Int), (dn : Int)⟩) = E := ⟨_, rfl⟩
                    simp only [hE] at j1 ⊢
                    clear hE
                    obtain ⟨r0, r1, r2, r3, r4, r5, r6, rf⟩ := seven HR7.out.kr
                    have z0 := rf 0
                    have z1 := rf 1
                    have z2 := rf 2
                    have z3 := rf 3
                    have z4 := rf 4
                    have z5 := rf 5
                    have z6 := rf 6
                    clear rf
                    go_wp2_with fail
                    refine bodyPost_ret (v := .tuple #[stVal none 0 0 st0, .int .i64 11]) (by rw [results_cell_tmp rfl]; go_simp; rfl) rfl ⟨.inr ⟨fun y hy hyl hye => ?_, rfl⟩, by first | exact (((((((HR7.out.bel.setCell (p := ⟨B, _, none⟩) (by simp) _).setCell (p := ⟨B, _, none⟩) (by simp) _).setCell (p := ⟨B, _, none⟩) (by simp) _).setCell (p := ⟨B, _, none⟩) (by simp) _).setCell (p := ⟨B, _, none⟩) (by simp) _).setCell (p := ⟨B, _, none⟩) (by simp) _).setCell (p := ⟨B, _, none⟩) (by simp) _) | (rw [HBs.out]; exact (((((((HR7.out.bel.setCell (p := ⟨B, _, none⟩) (by simp) _).setCell (p := ⟨B, _, none⟩) (by simp) _).setCell (p := ⟨B, _, none⟩) (by simp) _).setCell (p := ⟨B, _, none⟩) (by simp) _).setCell (p := ⟨B, _, none⟩) (by simp) _).setCell (p := ⟨B, _, none⟩) (by simp) _).setCell (p := ⟨B, _, none⟩) (by simp) _))⟩
                    obtain rfl := HY.out y hy hyl hye; exact HQ.out hye
                · have HOK := Lib.hid hok
                  clear hok
                  obtain ⟨r0, r1, r2, r3, r4, r5, r6, rf⟩ := seven HR7.out.kr
                  have z0 := rf 0
                  have z1 := rf 1
                  have z2 := rf 2
                  have z3 := rf 3
                  have z4 := rf 4
                  have z5 := rf 5
                  have z6 := rf 6
                  clear rf
                  go_wp2_with fail
                  refine bodyPost_ret (v := .tuple #[stVal none 0 0 st0, .int .i64 11]) (by rw [results_cell_tmp rfl]; go_simp; rfl) rfl ⟨.inr ⟨fun y hy hyl hye => ?_, rfl⟩, by first | exact (((((((HR7.out.bel.setCell (p := ⟨B, _, none⟩) (by simp) _).setCell (p := ⟨B, _, none⟩) (by simp) _).setCell (p := ⟨B, _, none⟩) (by simp) _).setCell (p := ⟨B, _, none⟩) (by simp) _).setCell (p := ⟨B, _, none⟩) (by simp) _).setCell (p := ⟨B, _, none⟩) (by simp) _).setCell (p := ⟨B, _, none⟩) (by simp) _) | (rw [HBs.out]; exact (((((((HR7.out.bel.setCell (p := ⟨B, _, none⟩) (by simp) _).setCell (p := ⟨B, _, none⟩) (by simp) _).setCell (p := ⟨B, _, none⟩) (by simp) _).setCell (p := ⟨B, _, none⟩) (by simp) _).setCell (p := ⟨B, _, none⟩) (by simp) _).setCell (p := ⟨B, _, none⟩) (by simp) _).setCell (p := ⟨B, _, none⟩) (by simp) _))⟩
                  obtain rfl := HY.out y hy hyl hye; exact HOK.out hy
              · have q6 : ((n1 : Int) == 6) = false := beq_eq_false_iff_ne.2 (by omega)
                have q6' : (n1 == 6) = false := beq_eq_false_iff_ne.2 (by omega)
                obtain ⟨W3, hW3⟩ : ∃ V, V2 = V := ⟨_, rfl⟩
                have HW3 := Lib.hid (HV2.out.trans hW3)
                have HR3 := Lib.hid (show RW B X w (some ⟨gb, off, none⟩) ns A5 m c5 ts ⟨ts.map triP, (nx : Int), (pa : Int), false, 0, 0, 0⟩ W3 by rw [← hW3]; exact ⟨HR2.out.rd, HR2.out.lie, HR2.out.kx, HR2.out.kr, HR2.out.bel⟩)
                have HY := Lib.hid (show ∀ y, OkSt y → y.Parts.length ≤ 1000000 → encB y = x.data.toList → y = ⟨ts.map triP, (nx : Int), (pa : Int), false, 0, 0, 0⟩ from fun y hy hyl hye => by
                  have := rdec_off HSm.out HNS.out Hts.out (only_read HSm.out HAll.out hy hyl hye) hy h6
                  simpa [mkS] using this)
                clear hW3 hn1e hRl hRat' h6
                have HEn := Lib.hid (rencode_any A5 m c5 ⟨ts.map triP, (nx : Int), (pa : Int), false, 0, 0, 0⟩ W3 HR3.out.lie.rd (by simp [Hts.out]) (by have := Hm8.out; omega) HFL.out)
                unfold stVal at HEn
                obtain ⟨x0, x1, x2, x3, x4, x5, x6, -⟩ := seven HR3.out.kx
                go_wp2_with fail
                try simp only [HW3.out]
                refine HEn.out.mono ?_
                rintro e7 w7 ⟨h7, hb7⟩
                have HR7 := Lib.hid (HR3.out.later HXB.out hb7)
                clear hb7 x0 x1 x2 x3 x4 x5 x6
                rcases h7 with ⟨hok, rfl⟩ | ⟨hok, rfl⟩
                · have HOK := Lib.hid hok
                  clear hok
                  by_cases heq : encB ⟨ts.map triP, (nx : Int), (pa : Int), false, 0, 0, 0⟩ = x.data.toList
                  · have HQ := Lib.hid heq
                    have j1 := eqSx heq
                    clear heq
                    obtain ⟨E, hE⟩ : ∃ E, S (encB ⟨ts.map triP, (nx : Int), (pa : Int), false, 0, 0, 0⟩) = E := ⟨_, rfl⟩
                    simp only [hE] at j1 ⊢
                    clear hE
                    obtain ⟨r0, r1, r2, r3, r4, r5, r6, rf⟩ := seven HR7.out.kr
                    have z0 := rf 0
                    have z1 := rf 1
                    have z2 := rf 2
                    have z3 := rf 3
                    have z4 := rf 4
                    have z5 := rf 5
                    have z6 := rf 6
                    clear rf
                    obtain ⟨x0, x1, x2, x3, x4, x5, x6, -⟩ := seven HR7.out.kx
                    go_wp2_with fail
                    refine bodyPost_ret (v := .tuple #[stVal A5 m c5 ⟨ts.map triP, (nx : Int), (pa : Int), false, 0, 0, 0⟩, .int .i64 0]) (by rw [results_cell_tmp rfl]; go_simp; rfl) rfl ⟨.inl ⟨⟨ts.map triP, (nx : Int), (pa : Int), false, 0, 0, 0⟩, A5, m, c5, HOK.out, HQ.out, by simp [Hts.out], by have := Hm8.out; omega, rfl, (HR7.out.out7 HXB.out ..).1⟩, by first | exact (HR7.out.out7 HXB.out ..).2 | (rw [HBs.out]; exact (HR7.out.out7 HXB.out ..).2)⟩
                  · have j1 := neSx heq
                    have HQ := Lib.hid heq
                    clear heq
                    obtain ⟨E, hE⟩ : ∃ E, S (encB ⟨ts.map triP, (nx : Int), (pa : Int), false, 0, 0, 0⟩) = E := ⟨_, rfl⟩
                    simp only [hE] at j1 ⊢
                    clear hE
                    obtain ⟨r0, r1, r2, r3, r4, r5, r6, rf⟩ := seven HR7.out.kr
                    have z0 := rf 0
                    have z1 := rf 1
                    have z2 := rf 2
                    have z3 := rf 3
                    have z4 := rf 4
                    have z5 := rf 5
                    have z6 := rf 6
                    clear rf
                    go_wp2_with fail
                    refine bodyPost_ret (v := .tuple #[stVal none 0 0 st0, .int .i64 11]) (by rw [results_cell_tmp rfl]; go_simp; rfl) rfl ⟨.inr ⟨fun y hy hyl hye => ?_, rfl⟩, by first | exact (((((((HR7.out.bel.setCell (p := ⟨B, _, none⟩) (by simp) _).setCell (p := ⟨B, _, none⟩) (by simp) _).setCell (p := ⟨B, _, none⟩) (by simp) _).setCell (p := ⟨B, _, none⟩) (by simp) _).setCell (p := ⟨B, _, none⟩) (by simp) _).setCell (p := ⟨B, _, none⟩) (by simp) _).setCell (p := ⟨B, _, none⟩) (by simp) _) | (rw [HBs.out]; exact (((((((HR7.out.bel.setCell (p := ⟨B, _, none⟩) (by simp) _).setCell (p := ⟨B, _, none⟩) (by simp) _).setCell (p := ⟨B, _, none⟩) (by simp) _).setCell (p := ⟨B, _, none⟩) (by simp) _).setCell (p := ⟨B, _, none⟩) (by simp) _).setCell (p := ⟨B, _, none⟩) (by simp) _).setCell (p := ⟨B, _, none⟩) (by simp) _))⟩
                    obtain rfl := HY.out y hy hyl hye; exact HQ.out hye
                · have HOK := Lib.hid hok
                  clear hok
                  obtain ⟨r0, r1, r2, r3, r4, r5, r6, rf⟩ := seven HR7.out.kr
                  have z0 := rf 0
                  have z1 := rf 1
                  have z2 := rf 2
                  have z3 := rf 3
                  have z4 := rf 4
                  have z5 := rf 5
                  have z6 := rf 6
                  clear rf
                  go_wp2_with fail
                  refine bodyPost_ret (v := .tuple #[stVal none 0 0 st0, .int .i64 11]) (by rw [results_cell_tmp rfl]; go_simp; rfl) rfl ⟨.inr ⟨fun y hy hyl hye => ?_, rfl⟩, by first | exact (((((((HR7.out.bel.setCell (p := ⟨B, _, none⟩) (by simp) _).setCell (p := ⟨B, _, none⟩) (by simp) _).setCell (p := ⟨B, _, none⟩) (by simp) _).setCell (p := ⟨B, _, none⟩) (by simp) _).setCell (p := ⟨B, _, none⟩) (by simp) _).setCell (p := ⟨B, _, none⟩) (by simp) _).setCell (p := ⟨B, _, none⟩) (by simp) _) | (rw [HBs.out]; exact (((((((HR7.out.bel.setCell (p := ⟨B, _, none⟩) (by simp) _).setCell (p := ⟨B, _, none⟩) (by simp) _).setCell (p := ⟨B, _, none⟩) (by simp) _).setCell (p := ⟨B, _, none⟩) (by simp) _).setCell (p := ⟨B, _, none⟩) (by simp) _).setCell (p := ⟨B, _, none⟩) (by simp) _).setCell (p := ⟨B, _, none⟩) (by simp) _))⟩
                  obtain rfl := HY.out y hy hyl hye; exact HOK.out hy
        · have HNO := Lib.hid (fun (y : St) (hy : OkSt y) (hyl : y.Parts.length ≤ 1000000) (hye : encB y = x.data.toList) => show False by
            obtain ⟨f1, m', r, f2, f3, f4⟩ := few_read (only_read HSm.out HAll.out hy hyl hye)
            rw [f2] at hm0
            obtain rfl : m' = m := by simpa using hm0
            have := HLen.out
            exact h5 ⟨by omega, by omega⟩)
          have HB1 := Lib.hid hbel
          obtain ⟨gb, off, rfl, hgb, hcl⟩ := (hlie.rd).2 hn0
          have c0 : wr.cell? ⟨gb, off, none⟩ = some (.int .i64 (m : Nat)) := hcl 0 _ (nums_at hm0)
          obtain ⟨r0, r1, r2, r3, r4, r5, r6, rf⟩ := seven hkr
          have z0 := rf 0
          have z1 := rf 1
          have z2 := rf 2
          have z3 := rf 3
          have z4 := rf 4
          have z5 := rf 5
          have z6 := rf 6
          clear rf
          by_cases h6 : n < m
          · have t5 : decide ((n : Int) < (m : Int)) = true := decide_eq_true (by omega)
            have t5' : decide (n < m) = true := decide_eq_true (by omega)
            clear hbel hlie hn hkr h4 h5 h6 hcl hm0
            go_wp2_with fail
            refine bodyPost_ret (v := .tuple #[stVal none 0 0 st0, .int .i64 11]) (by rw [results_cell_tmp rfl]; go_simp; rfl) rfl ⟨.inr ⟨fun y hy hyl hye => ?_, rfl⟩, by first | exact (((((((HB1.out.setCell (p := ⟨B, _, none⟩) (by simp) _).setCell (p := ⟨B, _, none⟩) (by simp) _).setCell (p := ⟨B, _, none⟩) (by simp) _).setCell (p := ⟨B, _, none⟩) (by simp) _).setCell (p := ⟨B, _, none⟩) (by simp) _).setCell (p := ⟨B, _, none⟩) (by simp) _).setCell (p := ⟨B, _, none⟩) (by simp) _) | (rw [HBs.out]; exact (((((((HB1.out.setCell (p := ⟨B, _, none⟩) (by simp) _).setCell (p := ⟨B, _, none⟩) (by simp) _).setCell (p := ⟨B, _, none⟩) (by simp) _).setCell (p := ⟨B, _, none⟩) (by simp) _).setCell (p := ⟨B, _, none⟩) (by simp) _).setCell (p := ⟨B, _, none⟩) (by simp) _).setCell (p := ⟨B, _, none⟩) (by simp) _))⟩
            exact HNO.out y hy hyl hye
          · have t5 : decide ((n : Int) < (m : Int)) = false := decide_eq_false (by omega)
            have t5' : decide (n < m) = false := decide_eq_false (by omega)
            obtain ⟨k0, hk0⟩ : ∃ k, 3 * m = k := ⟨_, rfl⟩
            obtain ⟨k4, hk4⟩ : ∃ k, 4 + k0 = k := ⟨_, rfl⟩
            have v0 : IntKind.i64.wrap (3 * (m : Int)) = (k0 : Int) := by rw [IntWalk.i64_in _ (by omega)]; omega
            have v4 : IntKind.i64.wrap (4 + (k0 : Int)) = (k4 : Int) := by rw [IntWalk.i64_in _ (by omega)]; omega
            have t6 : decide ((n : Int) < (k4 : Int)) = true := decide_eq_true (by omega)
            have t6' : decide (n < k4) = true := decide_eq_true (by omega)
            clear hbel hlie hn hkr h4 h5 h6 hcl hm0 hk0 hk4
            go_wp2_with fail
            refine bodyPost_ret (v := .tuple #[stVal none 0 0 st0, .int .i64 11]) (by rw [results_cell_tmp rfl]; go_simp; rfl) rfl ⟨.inr ⟨fun y hy hyl hye => ?_, rfl⟩, by first | exact (((((((HB1.out.setCell (p := ⟨B, _, none⟩) (by simp) _).setCell (p := ⟨B, _, none⟩) (by simp) _).setCell (p := ⟨B, _, none⟩) (by simp) _).setCell (p := ⟨B, _, none⟩) (by simp) _).setCell (p := ⟨B, _, none⟩) (by simp) _).setCell (p := ⟨B, _, none⟩) (by simp) _).setCell (p := ⟨B, _, none⟩) (by simp) _) | (rw [HBs.out]; exact (((((((HB1.out.setCell (p := ⟨B, _, none⟩) (by simp) _).setCell (p := ⟨B, _, none⟩) (by simp) _).setCell (p := ⟨B, _, none⟩) (by simp) _).setCell (p := ⟨B, _, none⟩) (by simp) _).setCell (p := ⟨B, _, none⟩) (by simp) _).setCell (p := ⟨B, _, none⟩) (by simp) _).setCell (p := ⟨B, _, none⟩) (by simp) _))⟩
            exact HNO.out y hy hyl hye
end Go.Proofs.YtbheoahpaidpmaaDoor
