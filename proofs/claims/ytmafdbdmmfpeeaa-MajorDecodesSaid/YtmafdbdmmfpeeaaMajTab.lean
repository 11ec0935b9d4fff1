/-
  major.table: the walk.
-/
import Derived.Test.YtmafdbdmmfpeeaaMajP
import Derived.Test.YtmafdbdmmfpeeaaSerKit
namespace Go.Proofs.Ytmafdbdmmfpeeaa
open Go Go.RowKit

/-- entries, with where their bytes stand, from 'off' on -/
def mkE : Nat → List (Nat × Nat) → List (Nat × Nat × Nat)
  | _, [] => []
  | off, e :: es => (e.1, off, off + e.2) :: mkE (off + e.2) es
theorem mkE_length : ∀ (es : List (Nat × Nat)) (off : Nat), (mkE off es).length = es.length
  | [], _ => rfl
  | _ :: es, off => by simp [mkE, mkE_length es]
theorem sumE_snoc (es : List (Nat × Nat)) (x : Nat × Nat) : sumE (es ++ [x]) = sumE es + x.2 := by simp [sumE]
theorem mkE_snoc : ∀ (es : List (Nat × Nat)) (off : Nat) (x : Nat × Nat), mkE off (es ++ [x]) = mkE off es ++ [(x.1, off + sumE es, off + sumE es + x.2)]
  | [], off, x => by simp [mkE, sumE]
  | e :: es, off, x => by
    simp only [List.cons_append, mkE, mkE_snoc es]
    rw [show sumE (e :: es) = e.2 + sumE es by simp [sumE], Nat.add_assoc]
theorem mkE_le : ∀ (es : List (Nat × Nat)) (off : Nat) (x : Nat × Nat × Nat), x ∈ mkE off es → x.2.1 ≤ off + sumE es ∧ x.2.2 ≤ off + sumE es ∧ x.2.1 ≤ x.2.2
  | [], _, x, h => by cases h
  | e :: es, off, x, h => by
    have hs : sumE (e :: es) = e.2 + sumE es := by simp [sumE]
    rw [hs]
    rcases List.mem_cons.1 h with rfl | h
    · simp only; omega
    · have := mkE_le es (off + e.2) x h
      omega
def entCells (x : Nat × Nat × Nat) : List Value := [.int .i64 (x.1 : Int), .int .i64 (x.2.1 : Int), .int .i64 (x.2.2 : Int)]
theorem entCells_length (x : Nat × Nat × Nat) : (entCells x).length = 3 := rfl
theorem entInf : (Try.prog.info? 51).map (fun i => (i.zero, i.size, i.bytes)) = some (some (.agg #[.int .i64 0, .int .i64 0, .int .i64 0]), 3, 24) := by kernel_rfl
/-- entries of which the first j stand moved by a -/
def movE : Nat → Nat → List (Nat × Nat × Nat) → List (Nat × Nat × Nat)
  | 0, _, xs => xs
  | _ + 1, _, [] => []
  | j + 1, a, x :: xs => (x.1, x.2.1 + a, x.2.2 + a) :: movE j a xs
theorem movE_length : ∀ (j a : Nat) (xs : List (Nat × Nat × Nat)), (movE j a xs).length = xs.length
  | 0, _, _ => rfl
  | _ + 1, _, [] => rfl
  | j + 1, a, _ :: xs => by simp [movE, movE_length j a xs]
theorem movE_get : ∀ (j a : Nat) (xs : List (Nat × Nat × Nat)) (h : j < xs.length), (movE j a xs)[j]? = some xs[j]
  | 0, _, xs, h => by simp [movE, List.getElem?_eq_getElem h]
  | _ + 1, _, [], h => absurd h (by simp)
  | j + 1, a, x :: xs, h => by simp only [movE, List.getElem?_cons_succ]; rw [movE_get j a xs (by simpa using h)]; rfl
theorem movE_step : ∀ (j a : Nat) (xs : List (Nat × Nat × Nat)) (h : j < xs.length), ((((movE j a xs).flatMap entCells).set (j * 3 + 1) (.int .i64 ((xs[j].2.1 + a : Nat) : Int))).set (j * 3 + 2) (.int .i64 ((xs[j].2.2 + a : Nat) : Int))) = (movE (j + 1) a xs).flatMap entCells
  | 0, a, x :: xs, _ => by simp [movE, entCells]
  | 0, _, [], h => absurd h (by simp)
  | _ + 1, _, [], h => absurd h (by simp)
  | j + 1, a, x :: xs, h => by
    have ih := movE_step j a xs (by simpa using h)
    simp only [movE, List.flatMap_cons, List.getElem_cons_succ] at ih ⊢
    rw [← ih]
    rw [show (j + 1) * 3 + 1 = ((j * 3 + 1) + 1 + 1 + 1) by omega, show (j + 1) * 3 + 2 = ((j * 3 + 2) + 1 + 1 + 1) by omega]
    simp only [entCells, List.cons_append, List.nil_append, List.set_cons_succ]
theorem movE_all : ∀ (es : List (Nat × Nat)) (off a : Nat), movE es.length a (mkE off es) = mkE (off + a) es
  | [], _, _ => rfl
  | e :: es, off, a => by
    simp only [List.length_cons, mkE, movE]
    rw [movE_all es, show off + e.2 + a = off + a + e.2 by omega]

section
variable {l : List UInt8} {k : Nat} {a last : Int} {es : List (Nat × Nat)} {H : Option (List (Nat × Nat) × Int)} {x : Nat × Nat × Int}
theorem ents_stop (h : (entsR l (k + 1) a last).map (fun r => (es ++ r.1, r.2)) = H) (hx : entR l a last = none) : H = none := by rw [← h]; simp [entsR, hx]
theorem ents_next (h : (entsR l (k + 1) a last).map (fun r => (es ++ r.1, r.2)) = H) (hx : entR l a last = some x) : (entsR l k x.2.2 x.1).map (fun r => ((es ++ [(x.1, x.2.1)]) ++ r.1, r.2)) = H := by
  rw [← h]
  simp only [entsR, hx, Option.map_map]
  congr 1
  funext r
  simp
theorem ents_done (h : (entsR l 0 a last).map (fun r => (es ++ r.1, r.2)) = H) : H = some (es, a) := by rw [← h]; simp [entsR]
theorem ent_at {last a1 a2 : Int} {p q e1 e2 : Nat} (h1 : getAt l a = (p, a1, e1)) (h2 : getAt l a1 = (q, a2, e2)) :
    entR l a last = if e1 = 0 ∧ e2 = 0 ∧ p < 200 ∧ last < p ∧ q ≤ l.length then some (p, q, a2) else none := by
  unfold entR
  simp only [h1, h2]
end
/-- the table, of the entries -/
def tabEnd (l : List UInt8) (H : Option (List (Nat × Nat) × Int)) : Option (List (Nat × List UInt8)) := match H with
  | none => none
  | some r => if (sumE r.1 : Int) = (l.length : Int) - r.2 then some (cutE r.1 (l.drop r.2.toNat)) else none
theorem table_eq {l : List UInt8} {n e : Nat} {a : Int} (h : getAt l 0 = (n, a, e)) : tableR l = if e ≠ 0 ∨ 200 < n then none else tabEnd l (entsR l n a (-1)) := by
  unfold tableR tabEnd
  simp only [h]
  cases entsR l n a (-1) <;> rfl

/-- what table answers -/
def TabPost (s : ByteArray) (B : Nat) (w : World) (e : Ending) (w' : World) : Prop :=
  (tableR s.data.toList = none ∧ (∃ v, e = .returned (.tuple #[v, .bool false])) ∧ Below B w w') ∨
    ∃ (es : List (Nat × Nat)) (a : Nat) (v : Value), tableR s.data.toList = some (cutE es (s.data.toList.drop a)) ∧ a + sumE es = s.size ∧ (∀ x ∈ es, x.1 < 200) ∧ e = .returned (.tuple #[v, .bool true]) ∧ Lie (fun k => k < B) 51 3 v es.length ((mkE a es).flatMap entCells) w' ∧ es.length ≤ 200 ∧ Below B w w'
def TabRel (B n : Nat) (s : ByteArray) (H : Option (List (Nat × Nat) × Int)) (w : World) (av lv sv ov cv : Value) (wr : World) : Prop :=
  ∃ (es : List (Nat × Nat)) (k : Nat) (a last : Int) (A : Option Addr) (c : Nat), av = .int .i64 a ∧ lv = .slice A es.length c ∧ sv = .int .i64 last ∧ ov = .int .i64 (sumE es : Nat) ∧ cv = .int .u64 (es.length : Nat) ∧ es.length + k = n ∧ 0 ≤ a ∧ a ≤ s.size ∧ -1 ≤ last ∧ last < 200 ∧ sumE es ≤ es.length * 1000000 ∧ (∀ x ∈ es, x.1 < 200) ∧
    Lie (fun j => j < B) 51 3 (.slice A es.length c) es.length ((mkE 0 es).flatMap entCells) wr ∧ Below B w wr ∧ (entsR s.data.toList k a last).map (fun r => (es ++ r.1, r.2)) = H

set_option linter.unusedSimpArgs false in
set_option maxRecDepth 100000 in
set_option maxHeartbeats 4000000 in
theorem table_at (s : ByteArray) (B : Nat) (w : World) (hB : w.heap.size = B) (hs : s.size ≤ 1000000) : Calls Try.prog 20 #[.string s] w (TabPost s B w) := by
  have G0 := fun w => (getUint_any s 0 w (by omega)).mono fun e w' (h : e = _ ∧ w = w') => (⟨h.1, h.2.symm⟩ : e = _ ∧ w' = w)
  obtain ⟨g0, hg0⟩ : ∃ g, getAt s.data.toList 0 = g := ⟨_, rfl⟩
  have hn0 := getAt_next s.data.toList 0
  have hN0 := getAt_lt s.data.toList 0
  rw [hg0, ← Lib.size_eq] at hn0
  rw [hg0] at hN0
  simp only [hg0] at G0
  obtain ⟨n, a0, e0⟩ := g0
  simp only at G0 hn0 hN0
  have Hte := Lib.hid (table_eq hg0)
  have HG0 := Lib.hid G0
  clear G0 hg0
  have hc : e0 ≠ 0 ∨ (e0 = 0 ∧ 200 < n) ∨ (e0 = 0 ∧ n ≤ 200) := by omega
  rcases hc with h | ⟨h, h'⟩ | ⟨h, h'⟩
  · have HN := Lib.hid (show tableR s.data.toList = none by rw [Hte.out, if_pos (.inl h)])
    obtain ⟨k1, k2⟩ := err_yes h
    clear h
    go_enter Try.func20, Try.ntmps20
    go_wp2_with fail
    refine (HG0.out _).mono ?_
    rintro e w1 ⟨rfl, rfl⟩
    go_wp2_with fail
    go_ret2
    exact .inl ⟨HN.out, ⟨_, rfl⟩, Below.refl _ _⟩
  · have HN := Lib.hid (show tableR s.data.toList = none by rw [Hte.out, if_pos (.inr h')])
    obtain ⟨k1, k2⟩ := err_no h
    have k3 : decide ((200 : Int) < (n : Int)) = true := decide_eq_true (by omega)
    have k4 : decide (200 < n) = true := decide_eq_true h'
    clear h h'
    go_enter Try.func20, Try.ntmps20
    go_wp2_with fail
    refine (HG0.out _).mono ?_
    rintro e w1 ⟨rfl, rfl⟩
    go_wp2_with fail
    go_ret2
    exact .inl ⟨HN.out, ⟨_, rfl⟩, Below.refl _ _⟩
  · obtain ⟨H, hH⟩ : ∃ H, entsR s.data.toList n a0 (-1) = H := ⟨_, rfl⟩
    have hte := Hte.out
    rw [if_neg (by omega), hH] at hte
    have Hte := Lib.hid hte
    have HH := Lib.hid hH
    obtain ⟨k1, k2⟩ := err_no h
    have k3 : decide ((200 : Int) < (n : Int)) = false := decide_eq_false (by omega)
    have k4 : decide (200 < n) = false := decide_eq_false (by omega)
    clear h hH hte hN0
    go_enter Try.func20, Try.ntmps20
    go_wp2_with fail
    refine (HG0.out _).mono ?_
    rintro e w1 ⟨rfl, rfl⟩
    clear HG0
    go_wp2_with fail
    go_loopw [5, 7, 8, 9, 29] (fun av lv sv ov cv wr => TabRel B n s H w1 av lv sv ov cv wr) (fun _ _ _ _ cv _ => n - (intOf cv).toNat)
    case atStart => exact ⟨[], n, a0, -1, none, 0, rfl, rfl, rfl, rfl, rfl, by simp, hn0.1, hn0.2, by omega, by omega, by simp [sumE], by simp, Lie.nil _ _ _ _, Below.refl _ _, by rw [HH.out]; simp⟩
    case round =>
      obtain ⟨es, k, a, last, A, c, rfl, rfl, rfl, rfl, rfl, hk, ha1, ha2, hl0, hl1, hsm, hid, hlie, hbel, hents⟩ := hrel
      obtain ⟨nl, hnl⟩ : ∃ nl, es.length = nl := ⟨_, rfl⟩
      rw [hnl] at hlie hk hsm ⊢
      have Hnl := Lib.hid hnl
      have Hid' := Lib.hid hid
      clear hnl hid
      by_cases hlt : nl < n
      · obtain ⟨k', rfl⟩ : ∃ k', k = k' + 1 := ⟨k - 1, by omega⟩
        have G1 := fun w => (getUint_any s a w (by omega)).mono fun e w' (h : e = _ ∧ w = w') => (⟨h.1, h.2.symm⟩ : e = _ ∧ w' = w)
        obtain ⟨g1, hg1⟩ : ∃ g, getAt s.data.toList a = g := ⟨_, rfl⟩
        have hN1 := getAt_lt s.data.toList a
        rw [hg1] at hN1
        simp only [hg1] at G1
        obtain ⟨p, a1, e1⟩ := g1
        simp only at G1 hN1
        have G2 := fun w => (getUint_any s a1 w (by omega)).mono fun e w' (h : e = _ ∧ w = w') => (⟨h.1, h.2.symm⟩ : e = _ ∧ w' = w)
        obtain ⟨g2, hg2⟩ : ∃ g, getAt s.data.toList a1 = g := ⟨_, rfl⟩
        have hn2 := getAt_next s.data.toList a1
        have hN2 := getAt_lt s.data.toList a1
        rw [hg2, ← Lib.size_eq] at hn2
        rw [hg2] at hN2
        simp only [hg2] at G2
        obtain ⟨q, a2, e2⟩ := g2
        simp only at G2 hn2 hN2
        have hx := ent_at (last := last) hg1 hg2
        rw [← Lib.size_eq] at hx
        have Hx := Lib.hid hx
        have HG1 := Lib.hid G1
        have HG2 := Lib.hid G2
        have Hlie := Lib.hid hlie
        have Hbel := Lib.hid hbel
        have Hents := Lib.hid hents
        have Hi := Lib.hid hn2
        have Hsm := Lib.hid hsm
        have hsl : IntKind.u64.wrap (s.size : Int) = s.size := by rw [IntKind.wrap_u64]; omega
        have Hstop := Lib.hid (show ¬ (e1 = 0 ∧ e2 = 0 ∧ p < 200 ∧ last < p ∧ q ≤ s.size) → tableR s.data.toList = none from fun h => by
          rw [Hte.out, ents_stop Hents.out (by rw [Hx.out, if_neg h])]; rfl)
        have hcs : e1 ≠ 0 ∨ (e1 = 0 ∧ e2 ≠ 0) ∨ (e1 = 0 ∧ e2 = 0 ∧ 200 ≤ p) ∨ (e1 = 0 ∧ e2 = 0 ∧ p < 200 ∧ (p : Int) ≤ last) ∨ (e1 = 0 ∧ e2 = 0 ∧ p < 200 ∧ last < p ∧ s.size < q) ∨ (e1 = 0 ∧ e2 = 0 ∧ p < 200 ∧ last < p ∧ q ≤ s.size) := by omega
        clear G1 G2 hg1 hg2 hx hlie hbel hents hn2 hsm hN1 hN2 ha1 ha2 hn0
        go_wp2_with fail
        refine (HG1.out _).mono ?_
        rintro e w3 ⟨rfl, rfl⟩
        go_wp2_with fail
        refine (HG2.out _).mono ?_
        rintro e w4 ⟨rfl, rfl⟩
        clear HG1 HG2
        rcases hcs with h | ⟨h, h'⟩ | ⟨h, h', c1⟩ | ⟨h, h', c1, c2⟩ | ⟨h, h', c1, c2, c3⟩ | ⟨h, h', c1, c2, c3⟩
        · have HN := Lib.hid (Hstop.out (by omega))
          obtain ⟨k5, k6⟩ := err_yes h
          clear h
          go_wp2_with fail
          go_ret2
          exact .inl ⟨HN.out, ⟨_, rfl⟩, Hbel.out⟩
        · have HN := Lib.hid (Hstop.out (by omega))
          obtain ⟨k5, k6⟩ := err_no h
          obtain ⟨k7, k8⟩ := err_yes h'
          clear h h'
          go_wp2_with fail
          go_ret2
          exact .inl ⟨HN.out, ⟨_, rfl⟩, Hbel.out⟩
        · have HN := Lib.hid (Hstop.out (by omega))
          obtain ⟨k5, k6⟩ := err_no h
          obtain ⟨k7, k8⟩ := err_no h'
          have k9 : decide ((200 : Int) ≤ (p : Int)) = true := decide_eq_true (by omega)
          clear h h' c1
          go_wp2_with fail
          go_ret2
          exact .inl ⟨HN.out, ⟨_, rfl⟩, Hbel.out⟩
        · have HN := Lib.hid (Hstop.out (by omega))
          obtain ⟨k5, k6⟩ := err_no h
          obtain ⟨k7, k8⟩ := err_no h'
          have k9 : decide ((200 : Int) ≤ (p : Int)) = false := decide_eq_false (by omega)
          have m1 : IntKind.i64.wrap (p : Int) = p := by rw [IntKind.wrap_i64]; omega
          have k10 : decide ((p : Int) ≤ last) = true := decide_eq_true (by omega)
          clear h h' c1 c2
          go_wp2_with fail
          go_ret2
          exact .inl ⟨HN.out, ⟨_, rfl⟩, Hbel.out⟩
        · have HN := Lib.hid (Hstop.out (by omega))
          obtain ⟨k5, k6⟩ := err_no h
          obtain ⟨k7, k8⟩ := err_no h'
          have k9 : decide ((200 : Int) ≤ (p : Int)) = false := decide_eq_false (by omega)
          have m1 : IntKind.i64.wrap (p : Int) = p := by rw [IntKind.wrap_i64]; omega
          have k10 : decide ((p : Int) ≤ last) = false := decide_eq_false (by omega)
          have k11 : decide ((s.size : Int) < (q : Int)) = true := decide_eq_true (by omega)
          have k12 : decide (s.size < q) = true := decide_eq_true (by omega)
          clear h h' c1 c2 c3
          go_wp2_with fail
          go_ret2
          exact .inl ⟨HN.out, ⟨_, rfl⟩, Hbel.out⟩
        · have hxx := Hx.out
          rw [if_pos ⟨h, h', c1, c2, c3⟩] at hxx
          have Hnext := Lib.hid (ents_next Hents.out hxx)
          obtain ⟨k5, k6⟩ := err_no h
          obtain ⟨k7, k8⟩ := err_no h'
          have k9 : decide ((200 : Int) ≤ (p : Int)) = false := decide_eq_false (by omega)
          have m1 : IntKind.i64.wrap (p : Int) = p := by rw [IntKind.wrap_i64]; omega
          have m2 : IntKind.i64.wrap (q : Int) = q := by rw [IntKind.wrap_i64]; omega
          have k10 : decide ((p : Int) ≤ last) = false := decide_eq_false (by omega)
          have k11 : decide ((s.size : Int) < (q : Int)) = false := decide_eq_false (by omega)
          have k12 : decide (s.size < q) = false := decide_eq_false (by omega)
          have Hc := Lib.hid (And.intro c1 (And.intro c2 c3))
          obtain ⟨t, ht⟩ : ∃ t, sumE es = t := ⟨_, rfl⟩
          have Ht := Lib.hid ht
          have hsm2 : t ≤ 200000000 := Nat.le_trans (by have := Hsm.out; rw [ht] at this; exact this) (show nl * 1000000 ≤ 200000000 by omega)
          rw [ht]
          have m3 : IntKind.i64.wrap ((t : Int) + (q : Int)) = (t : Int) + (q : Int) := by rw [IntKind.wrap_i64]; omega
          have hold : Old (fun j => j < B) w4 := fun j hj => by have := Hbel.out.size; rw [← hB] at hj; omega
          have hiu : IntKind.u64.wrap ((nl : Int) + 1) = ((nl + 1 : Nat) : Int) := by rw [IntKind.wrap_u64]; omega
          clear h h' c1 c2 c3 hxx ht Hstop Hx
          go_wp2_with (at_builtin; go_must (refine wpList_append_elem_row rfl (.tmp 68) (.tmp 77) 47 (by rfl) 51 (.agg #[.int .i64 0, .int .i64 0, .int .i64 0]) 3 24 Try.underlying47 entInf rfl (by decide) _ nl _ _ w4 #[.int .i64 p, .int .i64 t, .int .i64 ((t : Int) + (q : Int))] rfl (by intro u hu; simp at hu; rcases hu with rfl | rfl | rfl <;> rfl) Hlie.out (by rfl) hold (by rfl) (by unfold maxLen; omega) (by omega) ?_); intro v8 w8 hown8 hst8 hgr8 hat8; have Hl8 := Lib.hid hown8; have Hb8 := Lib.hid (Hbel.out.trans (hst8.below fun k hk => hk)); obtain ⟨A8, c8, rfl⟩ := hown8.form; clear hown8 hst8 hgr8 hat8)
          go_roundw
          case rel =>
            have hl1 : (es ++ [(p, q)]).length = nl + 1 := by rw [List.length_append, Hnl.out]; rfl
            have hf1 : (mkE 0 (es ++ [(p, q)])).flatMap entCells = (mkE 0 es).flatMap entCells ++ #[Value.int .i64 p, .int .i64 t, .int .i64 ((t : Int) + (q : Int))].toList := by
              rw [mkE_snoc, List.flatMap_append, Nat.zero_add, Ht.out]; simp [entCells]
            refine ⟨es ++ [(p, q)], k', a2, p, A8, c8, rfl, by rw [hl1], rfl, by rw [sumE_snoc, Ht.out]; rfl, by rw [hl1]; go_num, by rw [hl1]; omega, Hi.out.1, Hi.out.2, by omega, by have := Hc.out.1; omega, by rw [sumE_snoc, hl1]; have := Hsm.out; have := Hc.out.2.2; simp only; omega, ?_, by rw [hl1, hf1]; exact Hl8.out, Hb8.out, Hnext.out⟩
            intro x hx
            rcases List.mem_append.1 hx with h | h
            · exact Hid'.out x h
            · have := List.mem_singleton.1 h
              subst this
              exact Hc.out.1
          case measure => simp [intOf]; omega
      · obtain rfl : k = 0 := by omega
        have hdone := ents_done hents
        obtain rfl : nl = n := by omega
        obtain ⟨aN, haN⟩ : ∃ aN : Nat, a = aN := ⟨a.toNat, by omega⟩
        subst haN
        have hte := Hte.out
        rw [HH.out, hdone] at hte
        have Hte2 := Lib.hid (show tableR s.data.toList = if (sumE es : Int) = (s.size : Int) - aN then some (cutE es (s.data.toList.drop aN)) else none by rw [hte, if_neg (by rintro (h | h); exact h (by simpa using k1); omega), Lib.size_eq]; rfl)
        have Hlie := Lib.hid hlie
        have Hbel := Lib.hid hbel
        have Hsm := Lib.hid hsm
        have m9 : IntKind.i64.wrap ((s.size : Int) - aN) = (s.size : Int) - aN := by rw [IntKind.wrap_i64]; omega
        have haN2 : aN ≤ s.size := by omega
        clear hdone hte hlie hbel hsm hents Hte HH hn0 ha1 ha2 hl0 hl1 hlt
        go_wp2_with fail
        go_loopw [89] (fun ix wr2 => ∃ j : Nat, ix = .int .i64 j ∧ j ≤ nl ∧ Lie (fun j => j < B) 51 3 (.slice A nl c) nl ((movE j aN (mkE 0 es)).flatMap entCells) wr2 ∧ Below B w1 wr2) (fun ix _ => nl - (intOf ix).toNat)
        case atStart => exact ⟨0, rfl, by omega, Hlie.out, Hbel.out⟩
        case round =>
          rename World => wr2
          obtain ⟨j, rfl, hj, hlie2, hbel2⟩ := hrel
          have HL2 := Lib.hid hlie2
          have HB2 := Lib.hid hbel2
          clear hlie2 hbel2
          by_cases hlt : j < nl
          · have hjm : j < (mkE 0 es).length := by rw [mkE_length, Hnl.out]; exact hlt
            have hjv : j < (movE j aN (mkE 0 es)).length := by rw [movE_length]; exact hjm
            obtain ⟨g, rfl, hca, hcb⟩ := HL2.out.own (show 0 < nl by omega)
            have hgB : B ≤ g := by
              have := HL2.out.2 g rfl
              omega
            obtain ⟨g2, o2, e, hgl, hf⟩ := HL2.out.rd.elem entCells_length (by decide) hjv
            obtain ⟨rfl, rfl⟩ : g = g2 ∧ 0 = o2 := by simpa using e
            have hget : (movE j aN (mkE 0 es))[j] = (mkE 0 es)[j] := by
              have := movE_get j aN (mkE 0 es) hjm
              rw [List.getElem?_eq_getElem hjv] at this
              exact Option.some.inj this
            have f1 := hf 1 _ rfl
            have f2 := hf 2 _ rfl
            rw [hget] at f1 f2
            have hstep := movE_step j aN (mkE 0 es) hjm
            obtain ⟨x, hx⟩ : ∃ x, (mkE 0 es)[j] = x := ⟨_, rfl⟩
            have hxb := mkE_le es 0 x (by rw [← hx]; exact List.getElem_mem hjm)
            rw [hx] at f1 f2 hstep
            obtain ⟨p, f, t⟩ := x
            simp only [Nat.zero_add] at f1 f2 hstep hxb
            have z1 := HL2.out.cell (j * 3 + 1)
            have z2 := HL2.out.cell (j * 3 + 2)
            have hsm2 : sumE es ≤ 200000000 := by have := Hsm.out; omega
            have m1 : IntKind.i64.wrap ((f : Int) + aN) = ((f : Int) + aN) := by rw [IntKind.wrap_i64]; omega
            have m2 : IntKind.i64.wrap ((t : Int) + aN) = ((t : Int) + aN) := by rw [IntKind.wrap_i64]; omega
            have hj1 : (j : Int) < nl := by omega
            have Hstep := Lib.hid hstep
            clear hstep hget hf hx e hjv hjm hxb
            go_wp2_with fail
            go_roundw
            case rel => exact ⟨j + 1, by go_num, by omega, by rw [← Hstep.out]; exact (HL2.out.store _).store _, (HB2.out.setCell (p := ⟨g, j * 3 + 1, none⟩) hgB _).setCell (p := ⟨g, j * 3 + 2, none⟩) hgB _⟩
            case measure => simp [intOf]; omega
          · obtain rfl : j = nl := by omega
            have hall := movE_all es 0 aN
            rw [Hnl.out, Nat.zero_add] at hall
            have hL3 := HL2.out
            rw [hall] at hL3
            have HL3 := Lib.hid hL3
            clear hL3 hall HL2
            by_cases hsum : (sumE es : Int) = (s.size : Int) - aN
            · have HN := Lib.hid (show tableR s.data.toList = some (cutE es (s.data.toList.drop aN)) by rw [Hte2.out, if_pos hsum])
              have t1 : ((sumE es : Int) == (s.size : Int) - aN) = true := beq_iff_eq.2 hsum
              have Hsum := Lib.hid (show aN + sumE es = s.size by omega)
              clear hsum
              go_wp2_with fail
              go_ret2
              exact .inr ⟨es, aN, _, HN.out, Hsum.out, Hid'.out, rfl, by rw [Hnl.out]; exact HL3.out, by rw [Hnl.out]; exact h', HB2.out⟩
            · have HN := Lib.hid (show tableR s.data.toList = none by rw [Hte2.out, if_neg hsum])
              have t1 : ((sumE es : Int) == (s.size : Int) - aN) = false := beq_eq_false_iff_ne.2 hsum
              clear hsum
              go_wp2_with fail
              go_ret2
              exact .inl ⟨HN.out, ⟨_, rfl⟩, HB2.out⟩
end Go.Proofs.Ytmafdbdmmfpeeaa
