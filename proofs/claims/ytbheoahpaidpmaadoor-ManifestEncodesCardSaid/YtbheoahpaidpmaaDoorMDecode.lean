/-
  manifest.Decode. Written by gen-MDecode.py.
-/
import Derived.Test.YtbheoahpaidpmaaDoorManDecP
import Derived.Test.YtbheoahpaidpmaaDoorMRight
import Derived.Test.YtbheoahpaidpmaaDoorManArg
import Derived.Test.YtbheoahpaidpmaaDoorPackF
import Derived.Deep.RegionLaw
import Derived.Deep.AppendLies
import Derived.Deep.DrawnRows
import Derived.StillTailTactics
namespace Go.Proofs.YtbheoahpaidpmaaDoor
open Go Go.RowKit

theorem get_tr (T P O : Nat) (x : ByteArray) (ns : List Nat) (p : Nat) (o : Bool) (w : World) (hx : x.size ≤ 100000) (hT : T ≠ P ∧ T ≠ O ∧ P ≠ O) (h : GetBox T P O x p o w) (ht : Tr x.data.toList ns p o) :
    Calls Tryd.prog 48 #[.pointer (some ⟨T, 0, none⟩), .pointer (some ⟨P, 0, none⟩), .pointer (some ⟨O, 0, none⟩)] w fun e w' =>
      ∃ (m p' : Nat) (o' : Bool), e = .returned (.int .i64 (m : Nat)) ∧ m ≤ 1099511627776 ∧ Tr x.data.toList (ns ++ [m]) p' o' ∧ (o = false → o' = false) ∧ GetBox T P O x p' o' w' ∧ But2 P O w w' := by
  refine (get_any T P O x p o w (by omega) hT h).mono ?_
  rintro e w' ⟨rfl, h1, h2⟩
  exact ⟨_, _, _, rfl, gt_small .., ht.more, fun e => by subst e; rw [gt_bad], h1, h2⟩
theorem rd_part (w : World) (u v x : Value) (T : TypeId) : Rd (w.alloc (.cells #[u, v, x] T)) 3 (some ⟨w.heap.size, 0, none⟩) 1 [u, v, x] := by
  have h := heap_alloc_new w (.cells #[u, v, x] T)
  refine ⟨rfl, fun _ => ⟨_, _, rfl, by simp, fun j y hy => ?_⟩⟩
  rw [Lib.cell_of_heap h, Nat.zero_add]
  match j, hy with
  | 0, hy => simpa using hy
  | 1, hy => simpa using hy
  | 2, hy => simpa using hy
  | j + 3, hy => simp at hy
theorem But2.stays {P O : Nat} {R : Nat → Prop} {w w' : World} (h : But2 P O w w') {A : Option Addr} {n c : Nat} {xs : List Value} {E : TypeId} (hl : Lie R E 3 (.slice A n c) n xs w) (hp : R P) (ho : R O) : Lie R E 3 (.slice A n c) n xs w' :=
  hl.later fun g hg => h.block g (fun e => hl.2 g hg (e ▸ hp)) (fun e => hl.2 g hg (e ▸ ho))

abbrev sN (N Q : Int) (On : Bool) (D T Z : Int) : St := ⟨[], N, Q, On, D, T, Z⟩
/-- a world of Decode -/
structure EndW (B P O X : Nat) (x : ByteArray) (w0 : World) (ns : List Nat) (p : Nat) (o : Bool) (A : Option Addr) (i c : Nat) (ts : List Tri3) (s : St) (w : World) : Prop where
  g : GetBox B P O x p o w
  tr : Tr x.data.toList ns p o
  lie : Lie (fun k => k < X + 1) 40 3 (.slice A i c) i ((ts.map triP).flatMap partCells) w
  kx : w.heap[X]? = some (.cells (stC A i c s) 25 (0, 0))
  kr : w.heap[B + 1]? = some (.cells z7 25 (0, 0))
  bel : Below B w0 w
theorem EndW.got {B P O X : Nat} {x : ByteArray} {w0 : World} {ns : List Nat} {p : Nat} {o : Bool} {A : Option Addr} {i c : Nat} {ts : List Tri3} {s : St} {w : World} (h : EndW B P O X x w0 ns p o A i c ts s w) (hO : B + 1 < P ∧ P < O ∧ O < X)
    {ns' : List Nat} {p' : Nat} {o' : Bool} {w' : World} (ht : Tr x.data.toList ns' p' o') (hg : GetBox B P O x p' o' w') (hb : But2 P O w w') : EndW B P O X x w0 ns' p' o' A i c ts s w' :=
  ⟨hg, ht, hb.stays h.lie (show P < X + 1 by omega) (show O < X + 1 by omega), (hb.block X (by omega) (by omega)).trans h.kx, (hb.block (B + 1) (by omega) (by omega)).trans h.kr, h.bel.trans (hb.below (by omega) (by omega))⟩
theorem EndW.set {B P O X : Nat} {x : ByteArray} {w0 : World} {ns : List Nat} {p : Nat} {o : Bool} {A : Option Addr} {i c : Nat} {ts : List Tri3} {s : St} {w : World} (h : EndW B P O X x w0 ns p o A i c ts s w) (hO : B + 1 < P ∧ P < O ∧ O < X)
    (j : Nat) (v : Value) (s' : St) (hs : (stC A i c s).setIfInBounds j v = stC A i c s') : EndW B P O X x w0 ns p o A i c ts s' (w.setCell ⟨X, j, none⟩ v) := by
  refine ⟨⟨?_, ?_, ?_⟩, h.tr, own_set h.lie (show X < X + 1 by omega) _ _, ?_, ?_, h.bel.setCell (p := ⟨X, j, none⟩) (by simp only; omega) _⟩
  · exact (Below.heap_setCell _ _ _ _ (by simp only; omega)).trans h.g.hs
  · exact (Below.heap_setCell _ _ _ _ (by simp only; omega)).trans h.g.hp
  · exact (Below.heap_setCell _ _ _ _ (by simp only; omega)).trans h.g.ho
  · rw [Lib.heap_setCell_same h.kx v, hs]
  · exact (Below.heap_setCell _ _ _ _ (by simp only; omega)).trans h.kr

theorem EndW.later {B P O X : Nat} {x : ByteArray} {w0 : World} {ns : List Nat} {p : Nat} {o : Bool} {A : Option Addr} {i c : Nat} {ts : List Tri3} {s : St} {w w' : World} (h : EndW B P O X x w0 ns p o A i c ts s w) (hO : B + 1 < P ∧ P < O ∧ O < X)
    (hb : Below w.heap.size w w') : EndW B P O X x w0 ns p o A i c ts s w' := by
  have hs : X < w.heap.size := (Array.getElem?_eq_some_iff.1 h.kx).1
  exact ⟨h.g.below hb (by omega) (by omega) (by omega), h.tr, h.lie.below hb, (hb.block _ hs).trans h.kx, (hb.block _ (by omega)).trans h.kr, h.bel.trans (hb.mono (by omega))⟩
theorem EndW.out7 {B P O X : Nat} {x : ByteArray} {w0 : World} {ns : List Nat} {p : Nat} {o : Bool} {A : Option Addr} {i c : Nat} {ts : List Tri3} {s : St} {w : World} (h : EndW B P O X x w0 ns p o A i c ts s w) (hO : B + 1 < P ∧ P < O ∧ O < X) (v0 v1 v2 v3 v4 v5 v6 : Value) :
    Rd (((((((w.setCell ⟨B + 1, 0, none⟩ v0).setCell ⟨B + 1, 1, none⟩ v1).setCell ⟨B + 1, 2, none⟩ v2).setCell ⟨B + 1, 3, none⟩ v3).setCell ⟨B + 1, 4, none⟩ v4).setCell ⟨B + 1, 5, none⟩ v5).setCell ⟨B + 1, 6, none⟩ v6) 3 A i ((ts.map triP).flatMap partCells) ∧
    Below B w0 (((((((w.setCell ⟨B + 1, 0, none⟩ v0).setCell ⟨B + 1, 1, none⟩ v1).setCell ⟨B + 1, 2, none⟩ v2).setCell ⟨B + 1, 3, none⟩ v3).setCell ⟨B + 1, 4, none⟩ v4).setCell ⟨B + 1, 5, none⟩ v5).setCell ⟨B + 1, 6, none⟩ v6) := by
  have hb : B + 1 < X + 1 := by omega
  exact ⟨(own_set (own_set (own_set (own_set (own_set (own_set (own_set h.lie hb 0 v0) hb 1 v1) hb 2 v2) hb 3 v3) hb 4 v4) hb 5 v5) hb 6 v6).rd,
    (((((((h.bel.setCell (p := ⟨B + 1, 0, none⟩) (by simp) _).setCell (p := ⟨B + 1, 1, none⟩) (by simp) _).setCell (p := ⟨B + 1, 2, none⟩) (by simp) _).setCell (p := ⟨B + 1, 3, none⟩) (by simp) _).setCell (p := ⟨B + 1, 4, none⟩) (by simp) _).setCell (p := ⟨B + 1, 5, none⟩) (by simp) _).setCell (p := ⟨B + 1, 6, none⟩) (by simp) _)⟩

/-- a round's world -/
def DRel (B P O X : Nat) (x : ByteArray) (m : Nat) (w wr : World) : Prop := ∃ (ts : List Tri3) (i p : Nat) (o : Bool) (A : Option Addr) (c : Nat),
  ts.length = i ∧ i ≤ m ∧ i ≤ x.size ∧ EndW B P O X x w (m :: ts.flatMap triN) p o A i c ts (sN 0 0 false 0 0 0) wr
def lenAt (X : Nat) (w : World) : Nat := match w.cell? ⟨X, 0, none⟩ with
  | some (.slice _ n _) => n
  | _ => 0

set_option linter.unusedSimpArgs false in
set_option maxRecDepth 100000 in
set_option maxHeartbeats 4000000 in
theorem mdecode_any (x : ByteArray) (w : World) (hx : x.size ≤ 100000) (hp : Pow w) (he : Errs w) :
    Calls Tryd.prog 22 #[.string x] w (DecPost x.data.toList w.heap.size w) := by
  obtain ⟨B, hB⟩ : ∃ B, w.heap.size = B := ⟨_, rfl⟩
  have hmf : ∀ (fn : Fn) (first cap : Array Value) (w : World), (Instr.makeFunc fn first cap).run Tryd.prog w = .ok (.func fn first cap) w := fun _ _ _ _ => rfl
  have hmix : Tryd.prog.follows .mixedOrders = true := by kernel_rfl
  obtain ⟨P, hP⟩ : ∃ P, B + 1 + 1 = P := ⟨_, rfl⟩
  obtain ⟨O, hO⟩ : ∃ O, P + 1 = O := ⟨_, rfl⟩
  obtain ⟨X, hX⟩ : ∃ X, O + 1 = X := ⟨_, rfl⟩
  obtain ⟨w0, hw0, hs0, hb0, g0, q1, q0⟩ : ∃ w0, ((((w.alloc (.cells #[.string x] 9)).alloc (.cells z7 25)).alloc (.cells #[.int .i64 0] 3)).alloc (.cells #[.bool true] 4)).alloc (.cells z7 25) = w0 ∧ w0.heap.size = X + 1 ∧ Below B w w0
      ∧ GetBox B P O x 0 true w0 ∧ w0.heap[B + 1]? = some (.cells z7 25 (0, 0)) ∧ w0.heap[X]? = some (.cells (stC none 0 0 ⟨[], 0, 0, false, 0, 0, 0⟩) 25 (0, 0)) := by
    have n1 := heap_alloc_new w (.cells #[.string x] 9)
    obtain ⟨u1, hu1⟩ : ∃ u, w.alloc (.cells #[.string x] 9) = u := ⟨_, rfl⟩
    have b1 := Below.one w (.cells #[.string x] 9)
    have z1 : u1.heap.size = B + 1 := by rw [← hu1, ← hB]; simp
    rw [hu1] at n1 b1
    have n2 := heap_alloc_new u1 (.cells z7 25)
    obtain ⟨u2, hu2⟩ : ∃ u, u1.alloc (.cells z7 25) = u := ⟨_, rfl⟩
    have b2 := Below.one u1 (.cells z7 25)
    have z2 : u2.heap.size = P := by rw [← hu2, ← hP, ← z1]; simp
    rw [hu2] at n2 b2
    have n3 := heap_alloc_new u2 (.cells #[.int .i64 0] 3)
    obtain ⟨u3, hu3⟩ : ∃ u, u2.alloc (.cells #[.int .i64 0] 3) = u := ⟨_, rfl⟩
    have b3 := Below.one u2 (.cells #[.int .i64 0] 3)
    have z3 : u3.heap.size = O := by rw [← hu3, ← hO, ← z2]; simp
    rw [hu3] at n3 b3
    have n4 := heap_alloc_new u3 (.cells #[.bool true] 4)
    obtain ⟨u4, hu4⟩ : ∃ u, u3.alloc (.cells #[.bool true] 4) = u := ⟨_, rfl⟩
    have b4 := Below.one u3 (.cells #[.bool true] 4)
    have z4 : u4.heap.size = X := by rw [← hu4, ← hX, ← z3]; simp
    rw [hu4] at n4 b4
    have n5 := heap_alloc_new u4 (.cells z7 25)
    have b5 := Below.one u4 (.cells z7 25)
    rw [hu1, hu2, hu3, hu4]
    rw [hB] at b1 n1
    rw [z1] at b2 n2
    rw [z2] at b3 n3
    rw [z3] at b4 n4
    rw [z4] at b5 n5
    refine ⟨_, rfl, by simp [z4], ?_, ⟨?_, ?_, ?_⟩, ?_, n5⟩
    · exact (((b1.trans (b2.mono (by omega))).trans (b3.mono (by omega))).trans (b4.mono (by omega))).trans (b5.mono (by omega))
    · exact (b5.block _ (by omega)).trans ((b4.block _ (by omega)).trans ((b3.block _ (by omega)).trans ((b2.block _ (by omega)).trans n1)))
    · exact (b5.block _ (by omega)).trans ((b4.block _ (by omega)).trans n3)
    · exact (b5.block _ (by omega)).trans n4
    · exact (b5.block _ (by omega)).trans ((b4.block _ (by omega)).trans ((b3.block _ (by omega)).trans n2))
  have HT := Lib.hid (show B ≠ P ∧ B ≠ O ∧ P ≠ O by omega)
  have HO := Lib.hid (show B + 1 < P ∧ P < O ∧ O < X by omega)
  have HX := Lib.hid hx
  have HPo := Lib.hid hp
  have HEr := Lib.hid he
  have HBs := Lib.hid hB
  have HB0 := Lib.hid hb0
  have HG0 := Lib.hid g0
  have Q1 := Lib.hid q1
  have Q0 := Lib.hid q0
  have HS0 := Lib.hid hs0
  have HC := Lib.hid (get_tr B P O x [] 0 true w0 hx HT.out g0 Tr.nil)
  clear hx hp he hb0 g0 q1 q0 hs0
  unfold z7 at hw0
  have HPe := Lib.hid hP
  have HOe := Lib.hid hO
  have HXe := Lib.hid hX
  have HWe := Lib.hid hw0
  clear hP hO hX hw0
  go_enter Tryd.func22, Tryd.ntmps22
  go_wp2_with fail
  simp only [HPe.out, HOe.out, HXe.out, HWe.out]
  refine HC.out.mono ?_
  rintro e1 w1 ⟨m, p1, o1, rfl, hm, ht1, -, hg1, hb1⟩
  have HM := Lib.hid hm
  have HR0 := Lib.hid (show DRel B P O X x m w w1 from ⟨[], 0, p1, o1, none, 0, rfl, Nat.zero_le _, Nat.zero_le _, EndW.got ⟨HG0.out, Tr.nil, Lie.nil _ _ _ _, Q0.out, Q1.out, HB0.out⟩ HO.out ht1 hg1 hb1⟩)
  clear ht1 hg1 hb1 hm
  go_wp2_with fail
  go_loopw [] (fun wr => DRel B P O X x m w wr) (fun wr => m - lenAt X wr)
  case atStart => exact HR0.out
  case round =>
    obtain ⟨ts, i, p, o, A, c, hi, him, hix, hE⟩ := hrel
    obtain ⟨a0, a1, a2, a3, a4, a5, a6, af⟩ := seven hE.kx
    have sO := (Lib.cell_of_heap hE.g.ho 0).trans (show _ = some (Value.bool o) from rfl)
    by_cases hgo : o = true ∧ i < m
    · obtain ⟨rfl, hlt⟩ := hgo
      have hk1 : (i : Int) < m := by omega
      have hln : 3 * i + 1 ≤ x.size := by
        have h1 := hE.tr.len
        rw [List.length_cons, triN_len, hi, ← Lib.size_eq] at h1
        exact h1
      have hi8 : i ≤ 100000 := by have := HX.out; omega
      have HE := Lib.hid hE
      have Hi := Lib.hid hi
      have Hme := Lib.hid (show lenAt X wr = i by unfold lenAt; rw [a0])
      have HC1 := Lib.hid (get_tr B P O x _ p true wr HX.out HT.out hE.g hE.tr)
      clear hE hi him hix
      go_wp2_with fail
      refine HC1.out.mono ?_
      rintro e1 w1 ⟨d, p1, o1, rfl, hd, ht1, -, hg1, hb1⟩
      have HE1 := Lib.hid (HE.out.got HO.out ht1 hg1 hb1)
      have HC2 := Lib.hid (get_tr B P O x _ p1 o1 w1 HX.out HT.out hg1 ht1)
      clear hd ht1 hg1 hb1 a0 a1 a2 a3 a4 a5 a6 af sO
      go_wp2_with fail
      refine HC2.out.mono ?_
      rintro e2 w2 ⟨l, p2, o2, rfl, hl, ht2, -, hg2, hb2⟩
      have HE2 := Lib.hid (HE1.out.got HO.out ht2 hg2 hb2)
      clear hl ht2 hg2 hb2
      go_wp2_with fail
      refine head_plain (n := 10) (S := fun w' => w'.cell? ⟨X, 0, none⟩ = some (.slice A i c)) hmix 10 rfl ((Lib.cell_of_heap HE2.out.kx 0).trans rfl) (fun hHeld => ?_)
      try simp only [Act.put, List.setIfInBounds_toArray, List.set_cons_zero, List.set_cons_succ]
      refine head_take (i := 0) (oi := _) (v := ?_) (by simp only [List.getElem?_toArray, List.getElem?_cons_succ, List.getElem?_cons_zero]; rfl) (by decide) (by kernel_rfl) (by kernel_rfl) (by kernel_rfl) (by kernel_rfl) (by exact fun _ _ _ h => h) (Or.inl ⟨by rfl, ?_⟩) (by assumption) ?_
      rotate_left
      · (intro w hSw; (try dsimp only at hSw); go_simp) <;> with_reducible rfl
      try simp only [Act.put, List.setIfInBounds_toArray, List.set_cons_zero, List.set_cons_succ]
      refine head_take (i := 1) (oi := _) (v := ?_) (by simp only [List.getElem?_toArray, List.getElem?_cons_succ, List.getElem?_cons_zero]; rfl) (by decide) (by kernel_rfl) (by kernel_rfl) (by kernel_rfl) (by kernel_rfl) (by exact fun _ _ _ h => h) (Or.inl ⟨by rfl, ?_⟩) (by assumption) ?_
      rotate_left
      · (intro w hSw; (try dsimp only at hSw); go_simp) <;> with_reducible rfl
      try simp only [Act.put, List.setIfInBounds_toArray, List.set_cons_zero, List.set_cons_succ]
      refine head_take (i := 2) (oi := _) (v := ?_) (by simp only [List.getElem?_toArray, List.getElem?_cons_succ, List.getElem?_cons_zero]; rfl) (by decide) (by kernel_rfl) (by kernel_rfl) (by kernel_rfl) (by kernel_rfl) (by exact fun _ _ _ h => h) (Or.inl ⟨by rfl, ?_⟩) (by assumption) ?_
      rotate_left
      · (intro w hSw; (try dsimp only at hSw); go_simp) <;> with_reducible rfl
      try simp only [Act.put, List.setIfInBounds_toArray, List.set_cons_zero, List.set_cons_succ]
      refine head_take (i := 3) (oi := _) (v := ?_) (by simp only [List.getElem?_toArray, List.getElem?_cons_succ, List.getElem?_cons_zero]; rfl) (by decide) (by kernel_rfl) (by kernel_rfl) (by kernel_rfl) (by kernel_rfl) (by exact fun _ _ _ h => h) (Or.inl ⟨by rfl, ?_⟩) (by assumption) ?_
      rotate_left
      · (intro w hSw; (try dsimp only at hSw); go_simp) <;> with_reducible rfl
      try simp only [Act.put, List.setIfInBounds_toArray, List.set_cons_zero, List.set_cons_succ]
      refine head_take (i := 4) (oi := _) (v := ?_) (by simp only [List.getElem?_toArray, List.getElem?_cons_succ, List.getElem?_cons_zero]; rfl) (by decide) (by kernel_rfl) (by kernel_rfl) (by kernel_rfl) (by kernel_rfl) (by exact fun _ _ _ h => h) (Or.inl ⟨by rfl, ?_⟩) (by assumption) ?_
      rotate_left
      · (intro w hSw; (try dsimp only at hSw); go_simp) <;> with_reducible rfl
      try simp only [Act.put, List.setIfInBounds_toArray, List.set_cons_zero, List.set_cons_succ]
      refine head_ready (rs := [5]) (by kernel_rfl) (by simp) ?_
      refine HeadAll.cons (o := _) (by simp only [List.getElem?_toArray, List.getElem?_cons_succ, List.getElem?_cons_zero]; rfl) (by decide) (fun K hK => ?_) HeadAll.nil
      go_simp
      refine (get_tr B P O x _ p2 o2 w2.drew HX.out HT.out ⟨HE2.out.g.hs, HE2.out.g.hp, HE2.out.g.ho⟩ HE2.out.tr).mono ?_
      rintro e3 w3 ⟨nn, p3, o3, rfl, hnn, ht3, -, hg3, hb3'⟩
      have hb3 : But2 P O w2 w3 := ⟨hb3'.os, hb3'.tape, hb3'.output, hb3'.size, hb3'.block⟩
      clear hb3'
      have kx3 := (hb3.block X (by have := HO.out; omega) (by have := HO.out; omega)).trans HE2.out.kx
      have kr3 := (hb3.block (B + 1) (by have := HO.out; omega) (by have := HO.out; omega)).trans HE2.out.kr
      have HL3 := hb3.stays HE2.out.lie (show P < X + 1 by have := HO.out; omega) (show O < X + 1 by have := HO.out; omega)
      go_wp2_with fail
      refine hK.out _ _ ((Lib.cell_of_heap kx3 0).trans rfl) (fun hHeld => ?_)
      clear hK K
      try simp only [Act.put, List.setIfInBounds_toArray, List.set_cons_zero, List.set_cons_succ]
      refine head_ready (rs := [6]) (by kernel_rfl) (by simp) ?_
      refine HeadAll.cons (o := _) (by simp only [List.getElem?_toArray, List.getElem?_cons_succ, List.getElem?_cons_zero]; rfl) (by decide) (fun K hK => ?_) HeadAll.nil
      go_simp
      have hsz3 : X + 1 ≤ w3.heap.size := by have := (Array.getElem?_eq_some_iff.1 kx3).1; omega
      refine (file_any nn (by omega) w3 (HPo.out.below (by have h1 := HE2.out.bel.trans (hb3.below (by have := HO.out; omega) (by have := HO.out; omega)); rw [HBs.out]; exact h1))).mono ?_
      rintro e4 w4 ⟨rfl, hb4⟩
      have kx4 := (hb4.block X (by omega)).trans kx3
      have kr4 := (hb4.block (B + 1) (by have := HO.out; omega)).trans kr3
      have hg4 := hg3.below hb4 (by have := HO.out; omega) (by have := HO.out; omega) (by have := HO.out; omega)
      have HL4 := HL3.below hb4
      have hsz4 : X + 1 ≤ w4.heap.size := by have := hb4.size; omega
      go_wp2_with fail
      refine hK.out _ _ ((Lib.cell_of_heap kx4 0).trans rfl) (fun hHeld => ?_)
      clear hK K
      try simp only [Act.put, List.setIfInBounds_toArray, List.set_cons_zero, List.set_cons_succ]
      refine head_take (i := 7) (oi := _) (v := ?_) (by simp only [List.getElem?_toArray, List.getElem?_cons_succ, List.getElem?_cons_zero]; rfl) (by decide) (by kernel_rfl) (by kernel_rfl) (by kernel_rfl) (by kernel_rfl) (by exact fun _ _ _ h => h) (Or.inl ⟨by rfl, ?_⟩) (by assumption) ?_
      rotate_left
      · (intro w hSw; (try dsimp only at hSw); go_simp) <;> with_reducible rfl
      try simp only [Act.put, List.setIfInBounds_toArray, List.set_cons_zero, List.set_cons_succ]
      refine head_ready (rs := [8]) (by kernel_rfl) (by simp) ?_
      refine HeadAll.cons (o := _) (by simp only [List.getElem?_toArray, List.getElem?_cons_succ, List.getElem?_cons_zero]; rfl) (by decide) (fun K hK => ?_) HeadAll.nil
      go_simp
      have hb5 := Below.one w4 (.cells #[.int .i64 (d : Nat), .int .i64 (l : Nat), .string (S (fileB (nn : Nat)))] 40)
      have kx5 := (hb5.block X (by omega)).trans kx4
      have kr5 := (hb5.block (B + 1) (by have := HO.out; omega)).trans kr4
      have hg5 := hg4.below hb5 (by have := HO.out; omega) (by have := HO.out; omega) (by have := HO.out; omega)
      have HL5 := HL4.below hb5
      refine hK.out _ _ ((Lib.cell_of_heap kx5 0).trans rfl) (fun hHeld => ?_)
      clear hK K
      try simp only [Act.put, List.setIfInBounds_toArray, List.set_cons_zero, List.set_cons_succ]
      refine head_ready (rs := [9]) (by kernel_rfl) (by simp) ?_
      refine HeadAll.cons (o := _) (by simp only [List.getElem?_toArray, List.getElem?_cons_succ, List.getElem?_cons_zero]; rfl) (by decide) (fun K hK => ?_) HeadAll.nil
      refine step_append_rd_row rfl (.tmp 28) (.tmp 35) 23 rfl 40 (.agg #[.int .i64 0, .int .i64 0, .string ⟨#[]⟩]) 3 32 Tryd.underlying23 partInf rfl (by decide) (fun k => k < X + 1) i _ (.slice A i c) _ HL5 rfl (fun k hk => by have : k < X + 1 := hk; simp; omega) _ 1 _ [.int .i64 (d : Nat), .int .i64 (l : Nat), .string (S (fileB (nn : Nat)))] rfl (rd_part w4 _ _ _ _) (by intro u hu; simp at hu; rcases hu with rfl | rfl | rfl <;> rfl) (by unfold maxLen; omega) (by omega) ?_
      intro v8 w8 hown8 hst8 hgr8 hat8
      obtain ⟨A8, c8, rfl⟩ := hown8.form
      have Hl8 := Lib.hid hown8
      have k8 := (hst8.block X (by omega)).trans kx5
      clear hgr8 hat8 hown8
      refine hK.out _ _ ((Lib.cell_of_heap k8 0).trans rfl) (fun hHeld => ?_)
      clear hK K
      try simp only [Act.put, List.setIfInBounds_toArray, List.set_cons_zero, List.set_cons_succ]
      refine head_done (by kernel_rfl) ?_
      have f8 := Lib.frozen_of_heap k8 0
      go_wp2_with fail
      go_roundw
      case rel =>
        have hbb := ((HE2.out.bel.trans (hb3.below (by have := HO.out; omega) (by have := HO.out; omega))).trans (hb4.mono (by have := HO.out; omega))).trans ((Below.one w4 (.cells #[.int .i64 (d : Nat), .int .i64 (l : Nat), .string (S (fileB (nn : Nat)))] 40)).mono (by have := HO.out; omega))
        refine ⟨ts ++ [(d, l, nn)], i + 1, p3, o3, A8, c8, by simp [Hi.out], by omega, by omega, ?_⟩
        have hE8 : EndW B P O X x w (m :: (ts ++ [(d, l, nn)]).flatMap triN) p3 o3 A8 (i + 1) c8 (ts ++ [(d, l, nn)]) (sN 0 0 false 0 0 0) (w8.setCell ⟨X, 0, none⟩ (.slice A8 (i + 1) c8)) := by
          refine ⟨⟨?_, ?_, ?_⟩, by simpa [triN, List.flatMap_append] using ht3, ?_, ?_, ?_, ?_⟩
          · exact (Below.heap_setCell _ _ _ _ (by have := HO.out; simp only; omega)).trans ((hst8.block B (by have := HO.out; omega)).trans hg5.hs)
          · exact (Below.heap_setCell _ _ _ _ (by have := HO.out; simp only; omega)).trans ((hst8.block P (by have := HO.out; omega)).trans hg5.hp)
          · exact (Below.heap_setCell _ _ _ _ (by have := HO.out; simp only; omega)).trans ((hst8.block O (by have := HO.out; omega)).trans hg5.ho)
          · have := own_set (b := X) Hl8.out (show X < X + 1 by omega) 0 (.slice A8 (i + 1) c8)
            simpa [List.flatMap_append, triP, partCells] using this
          · rw [Lib.heap_setCell_same k8]; rfl
          · exact (Below.heap_setCell _ _ _ _ (by have := HO.out; simp only; omega)).trans ((hst8.block (B + 1) (by have := HO.out; omega)).trans kr5)
          · exact (hbb.trans (hst8.below fun k hk => by have := HO.out; omega)).setCell (p := ⟨X, 0, none⟩) (by have := HO.out; simp only; omega) _
        exact hE8
      case measure =>
        have h1 : lenAt X (w8.setCell ⟨X, 0, none⟩ (.slice A8 (i + 1) c8)) = i + 1 := by
          unfold lenAt
          rw [Lib.cell_of_heap (Lib.heap_setCell_same k8 _) 0]
          rfl
        rw [h1, Hme.out]
        omega
    · have HMo := Lib.hid (show o = true → i = m from fun h => by
        rcases Nat.lt_or_ge i m with h2 | h2
        · exact absurd ⟨h, h2⟩ hgo
        · omega)
      cases o with
      | false =>
        have HC1 := Lib.hid (get_tr B P O x _ p false wr HX.out HT.out hE.g hE.tr)
        have HE := Lib.hid hE
        have Hi := Lib.hid hi
        have hi8 : i ≤ 100000 := by have := HX.out; omega
        clear hE hi
        go_wp2_with fail
        refine HC1.out.mono ?_
        rintro e1 w1 ⟨nx, p1, o1, rfl, hnx, ht1, ho1, hg1, hb1⟩
        have HE1 := Lib.hid (HE.out.got HO.out ht1 hg1 hb1)
        have HC2 := Lib.hid (get_tr B P O x _ p1 o1 w1 HX.out HT.out hg1 ht1)
        have Ho1 := Lib.hid ho1
        clear hnx ht1 ho1 hg1 hb1 a0 a1 a2 a3 a4 a5 a6 af sO
        go_wp2_with fail
        refine HC2.out.mono ?_
        rintro e2 w2 ⟨pa, p2, o2, rfl, hpa, ht2, ho2, hg2, hb2⟩
        have hE2 := HE1.out.got HO.out ht2 hg2 hb2
        obtain ⟨W2, hW2⟩ : ∃ W, (w2.setCell ⟨X, 1, none⟩ (.int .i64 (nx : Nat))).setCell ⟨X, 2, none⟩ (.int .i64 (pa : Nat)) = W := ⟨_, rfl⟩
        have hE2' : EndW B P O X x w ((((m :: ts.flatMap triN) ++ [nx]) ++ [pa])) p2 o2 A i c ts (sN (nx : Nat) (pa : Nat) false 0 0 0) W2 := by rw [← hW2]; exact (hE2.set HO.out 1 _ (sN (nx : Nat) 0 false 0 0 0) rfl).set HO.out 2 _ (sN (nx : Nat) (pa : Nat) false 0 0 0) rfl
        have HC3 := Lib.hid (get_tr B P O x _ p2 o2 W2 HX.out HT.out hE2'.g hE2'.tr)
        have HE2 := Lib.hid hE2'
        have Ho2 := Lib.hid ho2
        have HW2 := Lib.hid hW2
        obtain ⟨a0, a1, a2, a3, a4, a5, a6, af⟩ := seven hE2.kx
        have f1 := af 1
        have f2 := af 2
        clear hW2 hE2 hE2' hpa ht2 ho2 hg2 hb2
        go_wp2_with fail
        simp only [HW2.out]
        refine HC3.out.mono ?_
        rintro e3 w3 ⟨on, p3, o3, rfl, hon, ht3, ho3, hg3, hb3⟩
        have hE3 := HE2.out.got HO.out ht3 hg3 hb3
        have Ho3 := Lib.hid ho3
        have HFL := Lib.hid (show ∀ q ∈ ts.map triP, q.File.length ≤ 1000000 from fun q hq => by
          obtain ⟨z, hz, rfl⟩ := List.mem_map.1 hq
          have h1 := tri_small (r := []) (by simpa using HE.out.tr) z hz
          have h2 := (fileB_len (m := z.2.2) (by omega)).2
          simp only [triP]
          omega)
        have hon' := hon
        clear ht3 ho3 hg3 hb3 hon a0 a1 a2 a3 a4 a5 a6 af f1 f2
        by_cases h1 : on = 1
        · have hq : ((on : Int) == 1) = true := by rw [h1]; rfl
          obtain ⟨W3, hW3⟩ : ∃ W, w3.setCell ⟨X, 3, none⟩ (.bool true) = W := ⟨_, rfl⟩
          have hE3' : EndW B P O X x w (((((m :: ts.flatMap triN) ++ [nx]) ++ [pa])) ++ [on]) p3 o3 A i c ts (sN (nx : Nat) (pa : Nat) true 0 0 0) W3 := by rw [← hW3]; exact hE3.set HO.out 3 _ (sN (nx : Nat) (pa : Nat) true 0 0 0) rfl
          obtain ⟨b0, b1, b2, b3, b4, b5, b6, bf⟩ := seven hE3.kx
          have f3 := bf 3
          have c3 := (seven hE3'.kx).2.2.2.1
          have HE3 := Lib.hid hE3'
          have H1 := Lib.hid h1
          have HC4 := Lib.hid (get_tr B P O x _ p3 o3 W3 HX.out HT.out hE3'.g hE3'.tr)
          clear hE3 hE3' h1
          go_wp2_with fail
          refine HC4.out.mono ?_
          rintro e4 w4 ⟨d, p4, o4, rfl, hd, ht4, ho4, hg4, hb4⟩
          have HE4 := Lib.hid (HE3.out.got HO.out ht4 hg4 hb4)
          have HC5 := Lib.hid (get_tr B P O x _ p4 o4 w4 HX.out HT.out hg4 ht4)
          have Ho4 := Lib.hid ho4
          clear hd ht4 ho4 hg4 hb4 b0 b1 b2 b3 b4 b5 b6 bf f3 c3 hW3
          go_wp2_with fail
          refine HC5.out.mono ?_
          rintro e5 w5 ⟨t, p5, o5, rfl, ht, ht5, ho5, hg5, hb5⟩
          have hE5 := HE4.out.got HO.out ht5 hg5 hb5
          obtain ⟨W5, hW5⟩ : ∃ W, (w5.setCell ⟨X, 4, none⟩ (.int .i64 (d : Nat))).setCell ⟨X, 5, none⟩ (.int .i64 (t : Nat)) = W := ⟨_, rfl⟩
          have hE5' : EndW B P O X x w (((((((m :: ts.flatMap triN) ++ [nx]) ++ [pa])) ++ [on]) ++ [d]) ++ [t]) p5 o5 A i c ts (sN (nx : Nat) (pa : Nat) true (d : Nat) (t : Nat) 0) W5 := by rw [← hW5]; exact (hE5.set HO.out 4 _ (sN (nx : Nat) (pa : Nat) true (d : Nat) 0 0) rfl).set HO.out 5 _ (sN (nx : Nat) (pa : Nat) true (d : Nat) (t : Nat) 0) rfl
          have HC6 := Lib.hid (get_tr B P O x _ p5 o5 W5 HX.out HT.out hE5'.g hE5'.tr)
          have HE5 := Lib.hid hE5'
          have Ho5 := Lib.hid ho5
          have HW5 := Lib.hid hW5
          obtain ⟨a0, a1, a2, a3, a4, a5, a6, af⟩ := seven hE5.kx
          have f4 := af 4
          have f5 := af 5
          clear hW5 hE5 hE5' ht ht5 ho5 hg5 hb5
          go_wp2_with fail
          simp only [HW5.out]
          refine HC6.out.mono ?_
          rintro e6 w6 ⟨dn, p6, o6, rfl, hdn, ht6, ho6, hg6, hb6⟩
          have hE6 := HE5.out.got HO.out ht6 hg6 hb6
          clear a0 a1 a2 a3 a4 a5 a6 af f4 f5
          obtain ⟨W6, hW6⟩ : ∃ W, w6.setCell ⟨X, 6, none⟩ (.int .i64 (dn : Nat)) = W := ⟨_, rfl⟩
          have HEF := Lib.hid (show EndW B P O X x w ((((((((m :: ts.flatMap triN) ++ [nx]) ++ [pa])) ++ [on]) ++ [d]) ++ [t]) ++ [dn]) p6 o6 A i c ts (sN (nx : Nat) (pa : Nat) true (d : Nat) (t : Nat) (dn : Nat)) W6 by rw [← hW6]; exact hE6.set HO.out 6 _ (sN (nx : Nat) (pa : Nat) true (d : Nat) (t : Nat) (dn : Nat)) rfl)
          have g6 := (seven hE6.kx).2.2.2.2.2.2.1
          have f6 := (seven hE6.kx).2.2.2.2.2.2.2 6
          have HL := Lib.hid (dec_law (many := m) (ts := ts) (nx := nx) (pa := pa) (on := on) (d := d) (t := t) (dn := dn) (by simpa [mkL, H1.out] using ht6) (fun h => absurd H1.out h) (by rw [Hi.out]; exact him) (fun e => by have := ho6 (Ho5.out (Ho4.out (Ho3.out (Ho2.out (Ho1.out (by trivial)))))); rw [this] at e; cases e))
          have HSM := Lib.hid (show mkS ts nx pa on d t dn = ⟨ts.map triP, (nx : Int), (pa : Int), true, (d : Int), (t : Int), (dn : Int)⟩ by unfold mkS; rw [decide_eq_true H1.out])
          clear hE6 hdn ht6 ho6 hg6 hb6
          have HMR := Lib.hid (mright_any A i c ⟨ts.map triP, (nx : Int), (pa : Int), true, (d : Int), (t : Int), (dn : Int)⟩ W6 HEF.out.lie.rd (by simp [Hi.out]) (by omega) HFL.out (HPo.out.below (by rw [HBs.out]; exact HEF.out.bel)) (HEr.out.below (by rw [HBs.out]; exact HEF.out.bel)))
          unfold stVal at HMR
          cases o6 with
          | false =>
            obtain ⟨a0, a1, a2, a3, a4, a5, a6, af⟩ := seven HEF.out.kx
            have sB := (Lib.cell_of_heap HEF.out.g.hs 0).trans (show _ = some (Value.string x) from rfl)
            have sP := (Lib.cell_of_heap HEF.out.g.hp 0).trans rfl
            have sO := (Lib.cell_of_heap HEF.out.g.ho 0).trans rfl
            obtain ⟨r0, r1, r2, r3, r4, r5, r6, rf⟩ := seven HEF.out.kr
            have z0 := rf 0
            have z1 := rf 1
            have z2 := rf 2
            have z3 := rf 3
            have z4 := rf 4
            have z5 := rf 5
            have z6 := rf 6
            go_wp2_with fail
            refine bodyPost_ret (v := .tuple #[stVal none 0 0 st0, .int .i64 11]) (by rw [results_cell_tmp rfl]; go_simp; rfl) rfl ⟨.inr ⟨fun y hy hyl hye => ?_, rfl⟩, by rw [HBs.out]; exact (HEF.out.out7 HO.out ..).2⟩
            obtain ⟨k1, k2, k3, k4⟩ := HL.out.2 y hy hyl hye
            cases k1
          | true =>
            by_cases h3 : on ≤ 1
            · have t2 : decide ((1 : Int) < (on : Int)) = false := decide_eq_false (by omega)
              by_cases h4 : p6 = x.size
              · have t3 : ((p6 : Int) != (x.size : Int)) = false := by rw [h4]; simp
                have H4 := Lib.hid h4
                clear h4
                obtain ⟨a0, a1, a2, a3, a4, a5, a6, af⟩ := seven HEF.out.kx
                have sB := (Lib.cell_of_heap HEF.out.g.hs 0).trans (show _ = some (Value.string x) from rfl)
                have sP := (Lib.cell_of_heap HEF.out.g.hp 0).trans rfl
                have sO := (Lib.cell_of_heap HEF.out.g.ho 0).trans rfl
                obtain ⟨r0, r1, r2, r3, r4, r5, r6, rf⟩ := seven HEF.out.kr
                have z0 := rf 0
                have z1 := rf 1
                have z2 := rf 2
                have z3 := rf 3
                have z4 := rf 4
                have z5 := rf 5
                have z6 := rf 6
                go_wp2_with fail
                refine HMR.out.mono ?_
                rintro e7 w7 ⟨b, rfl, hbk, hb7⟩
                have HE7 := Lib.hid (HEF.out.later HO.out hb7)
                clear a0 a1 a2 a3 a4 a5 a6 af sB sP sO r0 r1 r2 r3 r4 r5 r6 rf z0 z1 z2 z3 z4 z5 z6
                obtain ⟨a0, a1, a2, a3, a4, a5, a6, af⟩ := seven HE7.out.kx
                have sB := (Lib.cell_of_heap HE7.out.g.hs 0).trans (show _ = some (Value.string x) from rfl)
                have sP := (Lib.cell_of_heap HE7.out.g.hp 0).trans rfl
                have sO := (Lib.cell_of_heap HE7.out.g.ho 0).trans rfl
                obtain ⟨r0, r1, r2, r3, r4, r5, r6, rf⟩ := seven HE7.out.kr
                have z0 := rf 0
                have z1 := rf 1
                have z2 := rf 2
                have z3 := rf 3
                have z4 := rf 4
                have z5 := rf 5
                have z6 := rf 6
                cases b with
                | false =>
                  have HNO := Lib.hid (show ¬ OkSt ⟨ts.map triP, (nx : Int), (pa : Int), true, (d : Int), (t : Int), (dn : Int)⟩ from fun h => by have := hbk.2 h; cases this)
                  clear hbk
                  go_wp2_with fail
                  refine bodyPost_ret (v := .tuple #[stVal none 0 0 st0, .int .i64 11]) (by rw [results_cell_tmp rfl]; go_simp; rfl) rfl ⟨.inr ⟨fun y hy hyl hye => ?_, rfl⟩, by rw [HBs.out]; exact (HE7.out.out7 HO.out ..).2⟩
                  obtain ⟨k1, k2, k3, k4⟩ := HL.out.2 y hy hyl hye
                  rw [HSM.out] at k4; exact HNO.out (k4 ▸ hy)
                | true =>
                  have HOK := Lib.hid (show OkSt ⟨ts.map triP, (nx : Int), (pa : Int), true, (d : Int), (t : Int), (dn : Int)⟩ from hbk.1 rfl)
                  clear hbk
                  go_wp2_with fail
                  refine bodyPost_ret (v := .tuple #[stVal A i c ⟨ts.map triP, (nx : Int), (pa : Int), true, (d : Int), (t : Int), (dn : Int)⟩, .int .i64 0]) (by rw [results_cell_tmp rfl]; go_simp; rfl) rfl ⟨.inl ⟨⟨ts.map triP, (nx : Int), (pa : Int), true, (d : Int), (t : Int), (dn : Int)⟩, A, i, c, HOK.out, ?_, by simp [Hi.out], by omega, rfl, (HE7.out.out7 HO.out ..).1⟩, by rw [HBs.out]; exact (HE7.out.out7 HO.out ..).2⟩
                  rw [← HSM.out]
                  exact HL.out.1 (by trivial) h3 (by rw [H4.out]; exact Lib.size_eq x)
              · have t3 : ((p6 : Int) != (x.size : Int)) = true := by rw [bne, beq_eq_false_iff_ne.2 (by omega)]; rfl
                obtain ⟨a0, a1, a2, a3, a4, a5, a6, af⟩ := seven HEF.out.kx
                have sB := (Lib.cell_of_heap HEF.out.g.hs 0).trans (show _ = some (Value.string x) from rfl)
                have sP := (Lib.cell_of_heap HEF.out.g.hp 0).trans rfl
                have sO := (Lib.cell_of_heap HEF.out.g.ho 0).trans rfl
                obtain ⟨r0, r1, r2, r3, r4, r5, r6, rf⟩ := seven HEF.out.kr
                have z0 := rf 0
                have z1 := rf 1
                have z2 := rf 2
                have z3 := rf 3
                have z4 := rf 4
                have z5 := rf 5
                have z6 := rf 6
                go_wp2_with fail
                refine bodyPost_ret (v := .tuple #[stVal none 0 0 st0, .int .i64 11]) (by rw [results_cell_tmp rfl]; go_simp; rfl) rfl ⟨.inr ⟨fun y hy hyl hye => ?_, rfl⟩, by rw [HBs.out]; exact (HEF.out.out7 HO.out ..).2⟩
                obtain ⟨k1, k2, k3, k4⟩ := HL.out.2 y hy hyl hye
                exact h4 (k3.trans (Lib.size_eq x).symm)
            · have t2 : decide ((1 : Int) < (on : Int)) = true := decide_eq_true (by omega)
              obtain ⟨a0, a1, a2, a3, a4, a5, a6, af⟩ := seven HEF.out.kx
              have sB := (Lib.cell_of_heap HEF.out.g.hs 0).trans (show _ = some (Value.string x) from rfl)
              have sP := (Lib.cell_of_heap HEF.out.g.hp 0).trans rfl
              have sO := (Lib.cell_of_heap HEF.out.g.ho 0).trans rfl
              obtain ⟨r0, r1, r2, r3, r4, r5, r6, rf⟩ := seven HEF.out.kr
              have z0 := rf 0
              have z1 := rf 1
              have z2 := rf 2
              have z3 := rf 3
              have z4 := rf 4
              have z5 := rf 5
              have z6 := rf 6
              go_wp2_with fail
              refine bodyPost_ret (v := .tuple #[stVal none 0 0 st0, .int .i64 11]) (by rw [results_cell_tmp rfl]; go_simp; rfl) rfl ⟨.inr ⟨fun y hy hyl hye => ?_, rfl⟩, by rw [HBs.out]; exact (HEF.out.out7 HO.out ..).2⟩
              obtain ⟨k1, k2, k3, k4⟩ := HL.out.2 y hy hyl hye
              exact h3 k2

        · have hq : ((on : Int) == 1) = false := beq_eq_false_iff_ne.2 (by omega)
          obtain ⟨W3, hW3⟩ : ∃ W, w3.setCell ⟨X, 3, none⟩ (.bool false) = W := ⟨_, rfl⟩
          have HEF := Lib.hid (show EndW B P O X x w (((((m :: ts.flatMap triN) ++ [nx]) ++ [pa])) ++ [on]) p3 o3 A i c ts (sN (nx : Nat) (pa : Nat) false 0 0 0) W3 by rw [← hW3]; exact hE3.set HO.out 3 _ (sN (nx : Nat) (pa : Nat) false 0 0 0) rfl)
          have g3 := (seven hE3.kx).2.2.2.1
          have f3 := (seven hE3.kx).2.2.2.2.2.2.2 3
          have HL := Lib.hid (dec_law (many := m) (ts := ts) (nx := nx) (pa := pa) (on := on) (d := 0) (t := 0) (dn := 0) (by simpa [mkL, h1] using hE3.tr) (fun _ => ⟨rfl, rfl, rfl⟩) (by rw [Hi.out]; exact him) (fun e => by have := Ho3.out (Ho2.out (Ho1.out (by trivial))); rw [this] at e; cases e))
          have HSM := Lib.hid (show mkS ts nx pa on 0 0 0 = ⟨ts.map triP, (nx : Int), (pa : Int), false, 0, 0, 0⟩ by unfold mkS; rw [decide_eq_false h1]; rfl)
          have H1 := Lib.hid h1
          clear hE3 h1
          have HMR := Lib.hid (mright_any A i c ⟨ts.map triP, (nx : Int), (pa : Int), false, 0, 0, 0⟩ W3 HEF.out.lie.rd (by simp [Hi.out]) (by omega) HFL.out (HPo.out.below (by rw [HBs.out]; exact HEF.out.bel)) (HEr.out.below (by rw [HBs.out]; exact HEF.out.bel)))
          unfold stVal at HMR
          cases o3 with
          | false =>
            obtain ⟨a0, a1, a2, a3, a4, a5, a6, af⟩ := seven HEF.out.kx
            have sB := (Lib.cell_of_heap HEF.out.g.hs 0).trans (show _ = some (Value.string x) from rfl)
            have sP := (Lib.cell_of_heap HEF.out.g.hp 0).trans rfl
            have sO := (Lib.cell_of_heap HEF.out.g.ho 0).trans rfl
            obtain ⟨r0, r1, r2, r3, r4, r5, r6, rf⟩ := seven HEF.out.kr
            have z0 := rf 0
            have z1 := rf 1
            have z2 := rf 2
            have z3 := rf 3
            have z4 := rf 4
            have z5 := rf 5
            have z6 := rf 6
            go_wp2_with fail
            refine bodyPost_ret (v := .tuple #[stVal none 0 0 st0, .int .i64 11]) (by rw [results_cell_tmp rfl]; go_simp; rfl) rfl ⟨.inr ⟨fun y hy hyl hye => ?_, rfl⟩, by rw [HBs.out]; exact (HEF.out.out7 HO.out ..).2⟩
            obtain ⟨k1, k2, k3, k4⟩ := HL.out.2 y hy hyl hye
            cases k1
          | true =>
            by_cases h3 : on ≤ 1
            · have t2 : decide ((1 : Int) < (on : Int)) = false := decide_eq_false (by omega)
              by_cases h4 : p3 = x.size
              · have t3 : ((p3 : Int) != (x.size : Int)) = false := by rw [h4]; simp
                have H4 := Lib.hid h4
                clear h4
                obtain ⟨a0, a1, a2, a3, a4, a5, a6, af⟩ := seven HEF.out.kx
                have sB := (Lib.cell_of_heap HEF.out.g.hs 0).trans (show _ = some (Value.string x) from rfl)
                have sP := (Lib.cell_of_heap HEF.out.g.hp 0).trans rfl
                have sO := (Lib.cell_of_heap HEF.out.g.ho 0).trans rfl
                obtain ⟨r0, r1, r2, r3, r4, r5, r6, rf⟩ := seven HEF.out.kr
                have z0 := rf 0
                have z1 := rf 1
                have z2 := rf 2
                have z3 := rf 3
                have z4 := rf 4
                have z5 := rf 5
                have z6 := rf 6
                go_wp2_with fail
                refine HMR.out.mono ?_
                rintro e7 w7 ⟨b, rfl, hbk, hb7⟩
                have HE7 := Lib.hid (HEF.out.later HO.out hb7)
                clear a0 a1 a2 a3 a4 a5 a6 af sB sP sO r0 r1 r2 r3 r4 r5 r6 rf z0 z1 z2 z3 z4 z5 z6
                obtain ⟨a0, a1, a2, a3, a4, a5, a6, af⟩ := seven HE7.out.kx
                have sB := (Lib.cell_of_heap HE7.out.g.hs 0).trans (show _ = some (Value.string x) from rfl)
                have sP := (Lib.cell_of_heap HE7.out.g.hp 0).trans rfl
                have sO := (Lib.cell_of_heap HE7.out.g.ho 0).trans rfl
                obtain ⟨r0, r1, r2, r3, r4, r5, r6, rf⟩ := seven HE7.out.kr
                have z0 := rf 0
                have z1 := rf 1
                have z2 := rf 2
                have z3 := rf 3
                have z4 := rf 4
                have z5 := rf 5
                have z6 := rf 6
                cases b with
                | false =>
                  have HNO := Lib.hid (show ¬ OkSt ⟨ts.map triP, (nx : Int), (pa : Int), false, 0, 0, 0⟩ from fun h => by have := hbk.2 h; cases this)
                  clear hbk
                  go_wp2_with fail
                  refine bodyPost_ret (v := .tuple #[stVal none 0 0 st0, .int .i64 11]) (by rw [results_cell_tmp rfl]; go_simp; rfl) rfl ⟨.inr ⟨fun y hy hyl hye => ?_, rfl⟩, by rw [HBs.out]; exact (HE7.out.out7 HO.out ..).2⟩
                  obtain ⟨k1, k2, k3, k4⟩ := HL.out.2 y hy hyl hye
                  rw [HSM.out] at k4; exact HNO.out (k4 ▸ hy)
                | true =>
                  have HOK := Lib.hid (show OkSt ⟨ts.map triP, (nx : Int), (pa : Int), false, 0, 0, 0⟩ from hbk.1 rfl)
                  clear hbk
                  go_wp2_with fail
                  refine bodyPost_ret (v := .tuple #[stVal A i c ⟨ts.map triP, (nx : Int), (pa : Int), false, 0, 0, 0⟩, .int .i64 0]) (by rw [results_cell_tmp rfl]; go_simp; rfl) rfl ⟨.inl ⟨⟨ts.map triP, (nx : Int), (pa : Int), false, 0, 0, 0⟩, A, i, c, HOK.out, ?_, by simp [Hi.out], by omega, rfl, (HE7.out.out7 HO.out ..).1⟩, by rw [HBs.out]; exact (HE7.out.out7 HO.out ..).2⟩
                  rw [← HSM.out]
                  exact HL.out.1 (by trivial) h3 (by rw [H4.out]; exact Lib.size_eq x)
              · have t3 : ((p3 : Int) != (x.size : Int)) = true := by rw [bne, beq_eq_false_iff_ne.2 (by omega)]; rfl
                obtain ⟨a0, a1, a2, a3, a4, a5, a6, af⟩ := seven HEF.out.kx
                have sB := (Lib.cell_of_heap HEF.out.g.hs 0).trans (show _ = some (Value.string x) from rfl)
                have sP := (Lib.cell_of_heap HEF.out.g.hp 0).trans rfl
                have sO := (Lib.cell_of_heap HEF.out.g.ho 0).trans rfl
                obtain ⟨r0, r1, r2, r3, r4, r5, r6, rf⟩ := seven HEF.out.kr
                have z0 := rf 0
                have z1 := rf 1
                have z2 := rf 2
                have z3 := rf 3
                have z4 := rf 4
                have z5 := rf 5
                have z6 := rf 6
                go_wp2_with fail
                refine bodyPost_ret (v := .tuple #[stVal none 0 0 st0, .int .i64 11]) (by rw [results_cell_tmp rfl]; go_simp; rfl) rfl ⟨.inr ⟨fun y hy hyl hye => ?_, rfl⟩, by rw [HBs.out]; exact (HEF.out.out7 HO.out ..).2⟩
                obtain ⟨k1, k2, k3, k4⟩ := HL.out.2 y hy hyl hye
                exact h4 (k3.trans (Lib.size_eq x).symm)
            · have t2 : decide ((1 : Int) < (on : Int)) = true := decide_eq_true (by omega)
              obtain ⟨a0, a1, a2, a3, a4, a5, a6, af⟩ := seven HEF.out.kx
              have sB := (Lib.cell_of_heap HEF.out.g.hs 0).trans (show _ = some (Value.string x) from rfl)
              have sP := (Lib.cell_of_heap HEF.out.g.hp 0).trans rfl
              have sO := (Lib.cell_of_heap HEF.out.g.ho 0).trans rfl
              obtain ⟨r0, r1, r2, r3, r4, r5, r6, rf⟩ := seven HEF.out.kr
              have z0 := rf 0
              have z1 := rf 1
              have z2 := rf 2
              have z3 := rf 3
              have z4 := rf 4
              have z5 := rf 5
              have z6 := rf 6
              go_wp2_with fail
              refine bodyPost_ret (v := .tuple #[stVal none 0 0 st0, .int .i64 11]) (by rw [results_cell_tmp rfl]; go_simp; rfl) rfl ⟨.inr ⟨fun y hy hyl hye => ?_, rfl⟩, by rw [HBs.out]; exact (HEF.out.out7 HO.out ..).2⟩
              obtain ⟨k1, k2, k3, k4⟩ := HL.out.2 y hy hyl hye
              exact h3 k2
      | true =>
        obtain rfl : i = m := HMo.out rfl
        have HC1 := Lib.hid (get_tr B P O x _ p true wr HX.out HT.out hE.g hE.tr)
        have HE := Lib.hid hE
        have Hi := Lib.hid hi
        have hi8 : i ≤ 100000 := by have := HX.out; omega
        clear hE hi
        go_wp2_with fail
        refine HC1.out.mono ?_
        rintro e1 w1 ⟨nx, p1, o1, rfl, hnx, ht1, ho1, hg1, hb1⟩
        have HE1 := Lib.hid (HE.out.got HO.out ht1 hg1 hb1)
        have HC2 := Lib.hid (get_tr B P O x _ p1 o1 w1 HX.out HT.out hg1 ht1)
        have Ho1 := Lib.hid ho1
        clear hnx ht1 ho1 hg1 hb1 a0 a1 a2 a3 a4 a5 a6 af sO
        go_wp2_with fail
        refine HC2.out.mono ?_
        rintro e2 w2 ⟨pa, p2, o2, rfl, hpa, ht2, ho2, hg2, hb2⟩
        have hE2 := HE1.out.got HO.out ht2 hg2 hb2
        obtain ⟨W2, hW2⟩ : ∃ W, (w2.setCell ⟨X, 1, none⟩ (.int .i64 (nx : Nat))).setCell ⟨X, 2, none⟩ (.int .i64 (pa : Nat)) = W := ⟨_, rfl⟩
        have hE2' : EndW B P O X x w ((((i :: ts.flatMap triN) ++ [nx]) ++ [pa])) p2 o2 A i c ts (sN (nx : Nat) (pa : Nat) false 0 0 0) W2 := by rw [← hW2]; exact (hE2.set HO.out 1 _ (sN (nx : Nat) 0 false 0 0 0) rfl).set HO.out 2 _ (sN (nx : Nat) (pa : Nat) false 0 0 0) rfl
        have HC3 := Lib.hid (get_tr B P O x _ p2 o2 W2 HX.out HT.out hE2'.g hE2'.tr)
        have HE2 := Lib.hid hE2'
        have Ho2 := Lib.hid ho2
        have HW2 := Lib.hid hW2
        obtain ⟨a0, a1, a2, a3, a4, a5, a6, af⟩ := seven hE2.kx
        have f1 := af 1
        have f2 := af 2
        clear hW2 hE2 hE2' hpa ht2 ho2 hg2 hb2
        go_wp2_with fail
        simp only [HW2.out]
        refine HC3.out.mono ?_
        rintro e3 w3 ⟨on, p3, o3, rfl, hon, ht3, ho3, hg3, hb3⟩
        have hE3 := HE2.out.got HO.out ht3 hg3 hb3
        have Ho3 := Lib.hid ho3
        have HFL := Lib.hid (show ∀ q ∈ ts.map triP, q.File.length ≤ 1000000 from fun q hq => by
          obtain ⟨z, hz, rfl⟩ := List.mem_map.1 hq
          have h1 := tri_small (r := []) (by simpa using HE.out.tr) z hz
          have h2 := (fileB_len (m := z.2.2) (by omega)).2
          simp only [triP]
          omega)
        have hon' := hon
        clear ht3 ho3 hg3 hb3 hon a0 a1 a2 a3 a4 a5 a6 af f1 f2
        by_cases h1 : on = 1
        · have hq : ((on : Int) == 1) = true := by rw [h1]; rfl
          obtain ⟨W3, hW3⟩ : ∃ W, w3.setCell ⟨X, 3, none⟩ (.bool true) = W := ⟨_, rfl⟩
          have hE3' : EndW B P O X x w (((((i :: ts.flatMap triN) ++ [nx]) ++ [pa])) ++ [on]) p3 o3 A i c ts (sN (nx : Nat) (pa : Nat) true 0 0 0) W3 := by rw [← hW3]; exact hE3.set HO.out 3 _ (sN (nx : Nat) (pa : Nat) true 0 0 0) rfl
          obtain ⟨b0, b1, b2, b3, b4, b5, b6, bf⟩ := seven hE3.kx
          have f3 := bf 3
          have c3 := (seven hE3'.kx).2.2.2.1
          have HE3 := Lib.hid hE3'
          have H1 := Lib.hid h1
          have HC4 := Lib.hid (get_tr B P O x _ p3 o3 W3 HX.out HT.out hE3'.g hE3'.tr)
          clear hE3 hE3' h1
          go_wp2_with fail
          refine HC4.out.mono ?_
          rintro e4 w4 ⟨d, p4, o4, rfl, hd, ht4, ho4, hg4, hb4⟩
          have HE4 := Lib.hid (HE3.out.got HO.out ht4 hg4 hb4)
          have HC5 := Lib.hid (get_tr B P O x _ p4 o4 w4 HX.out HT.out hg4 ht4)
          have Ho4 := Lib.hid ho4
          clear hd ht4 ho4 hg4 hb4 b0 b1 b2 b3 b4 b5 b6 bf f3 c3 hW3
          go_wp2_with fail
          refine HC5.out.mono ?_
          rintro e5 w5 ⟨t, p5, o5, rfl, ht, ht5, ho5, hg5, hb5⟩
          have hE5 := HE4.out.got HO.out ht5 hg5 hb5
          obtain ⟨W5, hW5⟩ : ∃ W, (w5.setCell ⟨X, 4, none⟩ (.int .i64 (d : Nat))).setCell ⟨X, 5, none⟩ (.int .i64 (t : Nat)) = W := ⟨_, rfl⟩
          have hE5' : EndW B P O X x w (((((((i :: ts.flatMap triN) ++ [nx]) ++ [pa])) ++ [on]) ++ [d]) ++ [t]) p5 o5 A i c ts (sN (nx : Nat) (pa : Nat) true (d : Nat) (t : Nat) 0) W5 := by rw [← hW5]; exact (hE5.set HO.out 4 _ (sN (nx : Nat) (pa : Nat) true (d : Nat) 0 0) rfl).set HO.out 5 _ (sN (nx : Nat) (pa : Nat) true (d : Nat) (t : Nat) 0) rfl
          have HC6 := Lib.hid (get_tr B P O x _ p5 o5 W5 HX.out HT.out hE5'.g hE5'.tr)
          have HE5 := Lib.hid hE5'
          have Ho5 := Lib.hid ho5
          have HW5 := Lib.hid hW5
          obtain ⟨a0, a1, a2, a3, a4, a5, a6, af⟩ := seven hE5.kx
          have f4 := af 4
          have f5 := af 5
          clear hW5 hE5 hE5' ht ht5 ho5 hg5 hb5
          go_wp2_with fail
          simp only [HW5.out]
          refine HC6.out.mono ?_
          rintro e6 w6 ⟨dn, p6, o6, rfl, hdn, ht6, ho6, hg6, hb6⟩
          have hE6 := HE5.out.got HO.out ht6 hg6 hb6
          clear a0 a1 a2 a3 a4 a5 a6 af f4 f5
          obtain ⟨W6, hW6⟩ : ∃ W, w6.setCell ⟨X, 6, none⟩ (.int .i64 (dn : Nat)) = W := ⟨_, rfl⟩
          have HEF := Lib.hid (show EndW B P O X x w ((((((((i :: ts.flatMap triN) ++ [nx]) ++ [pa])) ++ [on]) ++ [d]) ++ [t]) ++ [dn]) p6 o6 A i c ts (sN (nx : Nat) (pa : Nat) true (d : Nat) (t : Nat) (dn : Nat)) W6 by rw [← hW6]; exact hE6.set HO.out 6 _ (sN (nx : Nat) (pa : Nat) true (d : Nat) (t : Nat) (dn : Nat)) rfl)
          have g6 := (seven hE6.kx).2.2.2.2.2.2.1
          have f6 := (seven hE6.kx).2.2.2.2.2.2.2 6
          have HL := Lib.hid (dec_law (many := i) (ts := ts) (nx := nx) (pa := pa) (on := on) (d := d) (t := t) (dn := dn) (by simpa [mkL, H1.out] using ht6) (fun h => absurd H1.out h) (by rw [Hi.out]; exact him) (fun _ => Hi.out))
          have HSM := Lib.hid (show mkS ts nx pa on d t dn = ⟨ts.map triP, (nx : Int), (pa : Int), true, (d : Int), (t : Int), (dn : Int)⟩ by unfold mkS; rw [decide_eq_true H1.out])
          clear hE6 hdn ht6 ho6 hg6 hb6
          have HMR := Lib.hid (mright_any A i c ⟨ts.map triP, (nx : Int), (pa : Int), true, (d : Int), (t : Int), (dn : Int)⟩ W6 HEF.out.lie.rd (by simp [Hi.out]) (by omega) HFL.out (HPo.out.below (by rw [HBs.out]; exact HEF.out.bel)) (HEr.out.below (by rw [HBs.out]; exact HEF.out.bel)))
          unfold stVal at HMR
          cases o6 with
          | false =>
            obtain ⟨a0, a1, a2, a3, a4, a5, a6, af⟩ := seven HEF.out.kx
            have sB := (Lib.cell_of_heap HEF.out.g.hs 0).trans (show _ = some (Value.string x) from rfl)
            have sP := (Lib.cell_of_heap HEF.out.g.hp 0).trans rfl
            have sO := (Lib.cell_of_heap HEF.out.g.ho 0).trans rfl
            obtain ⟨r0, r1, r2, r3, r4, r5, r6, rf⟩ := seven HEF.out.kr
            have z0 := rf 0
            have z1 := rf 1
            have z2 := rf 2
            have z3 := rf 3
            have z4 := rf 4
            have z5 := rf 5
            have z6 := rf 6
            go_wp2_with fail
            refine bodyPost_ret (v := .tuple #[stVal none 0 0 st0, .int .i64 11]) (by rw [results_cell_tmp rfl]; go_simp; rfl) rfl ⟨.inr ⟨fun y hy hyl hye => ?_, rfl⟩, by rw [HBs.out]; exact (HEF.out.out7 HO.out ..).2⟩
            obtain ⟨k1, k2, k3, k4⟩ := HL.out.2 y hy hyl hye
            cases k1
          | true =>
            by_cases h3 : on ≤ 1
            · have t2 : decide ((1 : Int) < (on : Int)) = false := decide_eq_false (by omega)
              by_cases h4 : p6 = x.size
              · have t3 : ((p6 : Int) != (x.size : Int)) = false := by rw [h4]; simp
                have H4 := Lib.hid h4
                clear h4
                obtain ⟨a0, a1, a2, a3, a4, a5, a6, af⟩ := seven HEF.out.kx
                have sB := (Lib.cell_of_heap HEF.out.g.hs 0).trans (show _ = some (Value.string x) from rfl)
                have sP := (Lib.cell_of_heap HEF.out.g.hp 0).trans rfl
                have sO := (Lib.cell_of_heap HEF.out.g.ho 0).trans rfl
                obtain ⟨r0, r1, r2, r3, r4, r5, r6, rf⟩ := seven HEF.out.kr
                have z0 := rf 0
                have z1 := rf 1
                have z2 := rf 2
                have z3 := rf 3
                have z4 := rf 4
                have z5 := rf 5
                have z6 := rf 6
                go_wp2_with fail
                refine HMR.out.mono ?_
                rintro e7 w7 ⟨b, rfl, hbk, hb7⟩
                have HE7 := Lib.hid (HEF.out.later HO.out hb7)
                clear a0 a1 a2 a3 a4 a5 a6 af sB sP sO r0 r1 r2 r3 r4 r5 r6 rf z0 z1 z2 z3 z4 z5 z6
                obtain ⟨a0, a1, a2, a3, a4, a5, a6, af⟩ := seven HE7.out.kx
                have sB := (Lib.cell_of_heap HE7.out.g.hs 0).trans (show _ = some (Value.string x) from rfl)
                have sP := (Lib.cell_of_heap HE7.out.g.hp 0).trans rfl
                have sO := (Lib.cell_of_heap HE7.out.g.ho 0).trans rfl
                obtain ⟨r0, r1, r2, r3, r4, r5, r6, rf⟩ := seven HE7.out.kr
                have z0 := rf 0
                have z1 := rf 1
                have z2 := rf 2
                have z3 := rf 3
                have z4 := rf 4
                have z5 := rf 5
                have z6 := rf 6
                cases b with
                | false =>
                  have HNO := Lib.hid (show ¬ OkSt ⟨ts.map triP, (nx : Int), (pa : Int), true, (d : Int), (t : Int), (dn : Int)⟩ from fun h => by have := hbk.2 h; cases this)
                  clear hbk
                  go_wp2_with fail
                  refine bodyPost_ret (v := .tuple #[stVal none 0 0 st0, .int .i64 11]) (by rw [results_cell_tmp rfl]; go_simp; rfl) rfl ⟨.inr ⟨fun y hy hyl hye => ?_, rfl⟩, by rw [HBs.out]; exact (HE7.out.out7 HO.out ..).2⟩
                  obtain ⟨k1, k2, k3, k4⟩ := HL.out.2 y hy hyl hye
                  rw [HSM.out] at k4; exact HNO.out (k4 ▸ hy)
                | true =>
                  have HOK := Lib.hid (show OkSt ⟨ts.map triP, (nx : Int), (pa : Int), true, (d : Int), (t : Int), (dn : Int)⟩ from hbk.1 rfl)
                  clear hbk
                  go_wp2_with fail
                  refine bodyPost_ret (v := .tuple #[stVal A i c ⟨ts.map triP, (nx : Int), (pa : Int), true, (d : Int), (t : Int), (dn : Int)⟩, .int .i64 0]) (by rw [results_cell_tmp rfl]; go_simp; rfl) rfl ⟨.inl ⟨⟨ts.map triP, (nx : Int), (pa : Int), true, (d : Int), (t : Int), (dn : Int)⟩, A, i, c, HOK.out, ?_, by simp [Hi.out], by omega, rfl, (HE7.out.out7 HO.out ..).1⟩, by rw [HBs.out]; exact (HE7.out.out7 HO.out ..).2⟩
                  rw [← HSM.out]
                  exact HL.out.1 (by trivial) h3 (by rw [H4.out]; exact Lib.size_eq x)
              · have t3 : ((p6 : Int) != (x.size : Int)) = true := by rw [bne, beq_eq_false_iff_ne.2 (by omega)]; rfl
                obtain ⟨a0, a1, a2, a3, a4, a5, a6, af⟩ := seven HEF.out.kx
                have sB := (Lib.cell_of_heap HEF.out.g.hs 0).trans (show _ = some (Value.string x) from rfl)
                have sP := (Lib.cell_of_heap HEF.out.g.hp 0).trans rfl
                have sO := (Lib.cell_of_heap HEF.out.g.ho 0).trans rfl
                obtain ⟨r0, r1, r2, r3, r4, r5, r6, rf⟩ := seven HEF.out.kr
                have z0 := rf 0
                have z1 := rf 1
                have z2 := rf 2
                have z3 := rf 3
                have z4 := rf 4
                have z5 := rf 5
                have z6 := rf 6
                go_wp2_with fail
                refine bodyPost_ret (v := .tuple #[stVal none 0 0 st0, .int .i64 11]) (by rw [results_cell_tmp rfl]; go_simp; rfl) rfl ⟨.inr ⟨fun y hy hyl hye => ?_, rfl⟩, by rw [HBs.out]; exact (HEF.out.out7 HO.out ..).2⟩
                obtain ⟨k1, k2, k3, k4⟩ := HL.out.2 y hy hyl hye
                exact h4 (k3.trans (Lib.size_eq x).symm)
            · have t2 : decide ((1 : Int) < (on : Int)) = true := decide_eq_true (by omega)
              obtain ⟨a0, a1, a2, a3, a4, a5, a6, af⟩ := seven HEF.out.kx
              have sB := (Lib.cell_of_heap HEF.out.g.hs 0).trans (show _ = some (Value.string x) from rfl)
              have sP := (Lib.cell_of_heap HEF.out.g.hp 0).trans rfl
              have sO := (Lib.cell_of_heap HEF.out.g.ho 0).trans rfl
              obtain ⟨r0, r1, r2, r3, r4, r5, r6, rf⟩ := seven HEF.out.kr
              have z0 := rf 0
              have z1 := rf 1
              have z2 := rf 2
              have z3 := rf 3
              have z4 := rf 4
              have z5 := rf 5
              have z6 := rf 6
              go_wp2_with fail
              refine bodyPost_ret (v := .tuple #[stVal none 0 0 st0, .int .i64 11]) (by rw [results_cell_tmp rfl]; go_simp; rfl) rfl ⟨.inr ⟨fun y hy hyl hye => ?_, rfl⟩, by rw [HBs.out]; exact (HEF.out.out7 HO.out ..).2⟩
              obtain ⟨k1, k2, k3, k4⟩ := HL.out.2 y hy hyl hye
              exact h3 k2

        · have hq : ((on : Int) == 1) = false := beq_eq_false_iff_ne.2 (by omega)
          obtain ⟨W3, hW3⟩ : ∃ W, w3.setCell ⟨X, 3, none⟩ (.bool false) = W := ⟨_, rfl⟩
          have HEF := Lib.hid (show EndW B P O X x w (((((i :: ts.flatMap triN) ++ [nx]) ++ [pa])) ++ [on]) p3 o3 A i c ts (sN (nx : Nat) (pa : Nat) false 0 0 0) W3 by rw [← hW3]; exact hE3.set HO.out 3 _ (sN (nx : Nat) (pa : Nat) false 0 0 0) rfl)
          have g3 := (seven hE3.kx).2.2.2.1
          have f3 := (seven hE3.kx).2.2.2.2.2.2.2 3
          have HL := Lib.hid (dec_law (many := i) (ts := ts) (nx := nx) (pa := pa) (on := on) (d := 0) (t := 0) (dn := 0) (by simpa [mkL, h1] using hE3.tr) (fun _ => ⟨rfl, rfl, rfl⟩) (by rw [Hi.out]; exact him) (fun _ => Hi.out))
          have HSM := Lib.hid (show mkS ts nx pa on 0 0 0 = ⟨ts.map triP, (nx : Int), (pa : Int), false, 0, 0, 0⟩ by unfold mkS; rw [decide_eq_false h1]; rfl)
          have H1 := Lib.hid h1
          clear hE3 h1
          have HMR := Lib.hid (mright_any A i c ⟨ts.map triP, (nx : Int), (pa : Int), false, 0, 0, 0⟩ W3 HEF.out.lie.rd (by simp [Hi.out]) (by omega) HFL.out (HPo.out.below (by rw [HBs.out]; exact HEF.out.bel)) (HEr.out.below (by rw [HBs.out]; exact HEF.out.bel)))
          unfold stVal at HMR
          cases o3 with
          | false =>
            obtain ⟨a0, a1, a2, a3, a4, a5, a6, af⟩ := seven HEF.out.kx
            have sB := (Lib.cell_of_heap HEF.out.g.hs 0).trans (show _ = some (Value.string x) from rfl)
            have sP := (Lib.cell_of_heap HEF.out.g.hp 0).trans rfl
            have sO := (Lib.cell_of_heap HEF.out.g.ho 0).trans rfl
            obtain ⟨r0, r1, r2, r3, r4, r5, r6, rf⟩ := seven HEF.out.kr
            have z0 := rf 0
            have z1 := rf 1
            have z2 := rf 2
            have z3 := rf 3
            have z4 := rf 4
            have z5 := rf 5
            have z6 := rf 6
            go_wp2_with fail
            refine bodyPost_ret (v := .tuple #[stVal none 0 0 st0, .int .i64 11]) (by rw [results_cell_tmp rfl]; go_simp; rfl) rfl ⟨.inr ⟨fun y hy hyl hye => ?_, rfl⟩, by rw [HBs.out]; exact (HEF.out.out7 HO.out ..).2⟩
            obtain ⟨k1, k2, k3, k4⟩ := HL.out.2 y hy hyl hye
            cases k1
          | true =>
            by_cases h3 : on ≤ 1
            · have t2 : decide ((1 : Int) < (on : Int)) = false := decide_eq_false (by omega)
              by_cases h4 : p3 = x.size
              · have t3 : ((p3 : Int) != (x.size : Int)) = false := by rw [h4]; simp
                have H4 := Lib.hid h4
                clear h4
                obtain ⟨a0, a1, a2, a3, a4, a5, a6, af⟩ := seven HEF.out.kx
                have sB := (Lib.cell_of_heap HEF.out.g.hs 0).trans (show _ = some (Value.string x) from rfl)
                have sP := (Lib.cell_of_heap HEF.out.g.hp 0).trans rfl
                have sO := (Lib.cell_of_heap HEF.out.g.ho 0).trans rfl
                obtain ⟨r0, r1, r2, r3, r4, r5, r6, rf⟩ := seven HEF.out.kr
                have z0 := rf 0
                have z1 := rf 1
                have z2 := rf 2
                have z3 := rf 3
                have z4 := rf 4
                have z5 := rf 5
                have z6 := rf 6
                go_wp2_with fail
                refine HMR.out.mono ?_
                rintro e7 w7 ⟨b, rfl, hbk, hb7⟩
                have HE7 := Lib.hid (HEF.out.later HO.out hb7)
                clear a0 a1 a2 a3 a4 a5 a6 af sB sP sO r0 r1 r2 r3 r4 r5 r6 rf z0 z1 z2 z3 z4 z5 z6
                obtain ⟨a0, a1, a2, a3, a4, a5, a6, af⟩ := seven HE7.out.kx
                have sB := (Lib.cell_of_heap HE7.out.g.hs 0).trans (show _ = some (Value.string x) from rfl)
                have sP := (Lib.cell_of_heap HE7.out.g.hp 0).trans rfl
                have sO := (Lib.cell_of_heap HE7.out.g.ho 0).trans rfl
                obtain ⟨r0, r1, r2, r3, r4, r5, r6, rf⟩ := seven HE7.out.kr
                have z0 := rf 0
                have z1 := rf 1
                have z2 := rf 2
                have z3 := rf 3
                have z4 := rf 4
                have z5 := rf 5
                have z6 := rf 6
                cases b with
                | false =>
                  have HNO := Lib.hid (show ¬ OkSt ⟨ts.map triP, (nx : Int), (pa : Int), false, 0, 0, 0⟩ from fun h => by have := hbk.2 h; cases this)
                  clear hbk
                  go_wp2_with fail
                  refine bodyPost_ret (v := .tuple #[stVal none 0 0 st0, .int .i64 11]) (by rw [results_cell_tmp rfl]; go_simp; rfl) rfl ⟨.inr ⟨fun y hy hyl hye => ?_, rfl⟩, by rw [HBs.out]; exact (HE7.out.out7 HO.out ..).2⟩
                  obtain ⟨k1, k2, k3, k4⟩ := HL.out.2 y hy hyl hye
                  rw [HSM.out] at k4; exact HNO.out (k4 ▸ hy)
                | true =>
                  have HOK := Lib.hid (show OkSt ⟨ts.map triP, (nx : Int), (pa : Int), false, 0, 0, 0⟩ from hbk.1 rfl)
                  clear hbk
                  go_wp2_with fail
                  refine bodyPost_ret (v := .tuple #[stVal A i c ⟨ts.map triP, (nx : Int), (pa : Int), false, 0, 0, 0⟩, .int .i64 0]) (by rw [results_cell_tmp rfl]; go_simp; rfl) rfl ⟨.inl ⟨⟨ts.map triP, (nx : Int), (pa : Int), false, 0, 0, 0⟩, A, i, c, HOK.out, ?_, by simp [Hi.out], by omega, rfl, (HE7.out.out7 HO.out ..).1⟩, by rw [HBs.out]; exact (HE7.out.out7 HO.out ..).2⟩
                  rw [← HSM.out]
                  exact HL.out.1 (by trivial) h3 (by rw [H4.out]; exact Lib.size_eq x)
              · have t3 : ((p3 : Int) != (x.size : Int)) = true := by rw [bne, beq_eq_false_iff_ne.2 (by omega)]; rfl
                obtain ⟨a0, a1, a2, a3, a4, a5, a6, af⟩ := seven HEF.out.kx
                have sB := (Lib.cell_of_heap HEF.out.g.hs 0).trans (show _ = some (Value.string x) from rfl)
                have sP := (Lib.cell_of_heap HEF.out.g.hp 0).trans rfl
                have sO := (Lib.cell_of_heap HEF.out.g.ho 0).trans rfl
                obtain ⟨r0, r1, r2, r3, r4, r5, r6, rf⟩ := seven HEF.out.kr
                have z0 := rf 0
                have z1 := rf 1
                have z2 := rf 2
                have z3 := rf 3
                have z4 := rf 4
                have z5 := rf 5
                have z6 := rf 6
                go_wp2_with fail
                refine bodyPost_ret (v := .tuple #[stVal none 0 0 st0, .int .i64 11]) (by rw [results_cell_tmp rfl]; go_simp; rfl) rfl ⟨.inr ⟨fun y hy hyl hye => ?_, rfl⟩, by rw [HBs.out]; exact (HEF.out.out7 HO.out ..).2⟩
                obtain ⟨k1, k2, k3, k4⟩ := HL.out.2 y hy hyl hye
                exact h4 (k3.trans (Lib.size_eq x).symm)
            · have t2 : decide ((1 : Int) < (on : Int)) = true := decide_eq_true (by omega)
              obtain ⟨a0, a1, a2, a3, a4, a5, a6, af⟩ := seven HEF.out.kx
              have sB := (Lib.cell_of_heap HEF.out.g.hs 0).trans (show _ = some (Value.string x) from rfl)
              have sP := (Lib.cell_of_heap HEF.out.g.hp 0).trans rfl
              have sO := (Lib.cell_of_heap HEF.out.g.ho 0).trans rfl
              obtain ⟨r0, r1, r2, r3, r4, r5, r6, rf⟩ := seven HEF.out.kr
              have z0 := rf 0
              have z1 := rf 1
              have z2 := rf 2
              have z3 := rf 3
              have z4 := rf 4
              have z5 := rf 5
              have z6 := rf 6
              go_wp2_with fail
              refine bodyPost_ret (v := .tuple #[stVal none 0 0 st0, .int .i64 11]) (by rw [results_cell_tmp rfl]; go_simp; rfl) rfl ⟨.inr ⟨fun y hy hyl hye => ?_, rfl⟩, by rw [HBs.out]; exact (HEF.out.out7 HO.out ..).2⟩
              obtain ⟨k1, k2, k3, k4⟩ := HL.out.2 y hy hyl hye
              exact h3 k2
end Go.Proofs.YtbheoahpaidpmaaDoor
