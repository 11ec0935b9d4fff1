/-
  The walk of the law 'RiceBack'.
-/
import Derived.Test.YtmllnfplahaccaaWLaw
import Derived.Test.YtmllnfplahaccaaStep
namespace Go.Proofs.Ytmllnfplahaccaa
open Go Go.RowKit
set_option linter.unusedSimpArgs false

def codeOf (o : Step) : List Bool := if o.kind = 0 then lowL o.n o.k.toNat else codeL o.n o.k.toNat
def enc (l : List Step) : List Bool := l.flatMap codeOf
theorem enc_snoc (l : List Step) (o : Step) : enc (l ++ [o]) = enc l ++ codeOf o := by simp [enc]
/-- a call that went well -/
def Well (o : Step) : Prop := o.n < 18446744073709551616 ∧ ((o.kind = 0 ∧ Fit o.n o.k) ∨ (o.kind = 1 ∧ 0 ≤ o.k ∧ o.k ≤ 40))
theorem codeOf_le {o : Step} (h : Well o) : (codeOf o).length ≤ 88 := by
  obtain ⟨_, ⟨h1, h2, h3, _⟩ | ⟨h1, h2, h3⟩⟩ := h
  · unfold codeOf; rw [if_pos h1, lowL_length]; omega
  · unfold codeOf; rw [if_neg (by omega), codeL_length]; exact costOne_le (by omega)

/-- behind some calls: the writers have the bits L, the good ones are gs, in the row v -/
def Back (B m : Nat) (L : List Bool) (gs : List Step) (v : Value) (W w : World) : Prop :=
  ∃ (s : WSt) (F G : Nat → Prop), Pair B B (B + 1) s s.bits F G w ∧ s.ok ∧ s.L.length ≤ m ∧ s.bits = L ∧ Below B W w ∧
    w.ownsRow B 40 3 v gs.length (gs.flatMap stepCells) ∧ ∀ g, v.ownBlock = some g → ¬ F g ∧ ¬ G g

theorem row_frm {F F' : Nat → Prop} {w w' : World} {B n size : Nat} {e : TypeId} {v : Value} {xs : List Value} (h : w.ownsRow B e size v n xs) (hf : Frm F F' w w') (hn : ∀ g, v.ownBlock = some g → ¬ F g) : w'.ownsRow B e size v n xs := by
  refine ⟨h.1, ?_⟩
  rcases h.2 with hn' | ⟨g, cap, cur, rfl, hb, hg, rest⟩
  · exact .inl hn'
  · exact .inr ⟨g, cap, cur, rfl, hb, (hf.block g (Array.getElem?_eq_some_iff.1 hg).1 (hn g rfl)).trans hg, rest⟩
theorem back_next {B m : Nat} {s s' : WSt} {L' : List Bool} {F G F3 G4 : Nat → Prop} {W w w3 w4 : World} {gs : List Step} {v : Value} (hP : Pair B B (B + 1) s s.bits F G w) (hW : WrF B s' F3 w3) (hf3 : Frm F F3 w w3) (hR : RefF (B + 1) L' G4 w4) (hf4 : Frm G G4 w3 w4)
    (hL : s'.bits = L') (hok : s'.ok) (hl : s'.L.length ≤ m) (hb : Below B W w) (hrow : w.ownsRow B 40 3 v gs.length (gs.flatMap stepCells)) (hn : ∀ g, v.ownBlock = some g → ¬ F g ∧ ¬ G g) : Back B m L' gs v W w4 := by
  obtain ⟨h3, b3⟩ := hP.left hW hf3
  obtain ⟨h4, b4⟩ := h3.right hR hf4
  subst hL
  have r3 := row_frm hrow hf3 (fun g hg => (hn g hg).1)
  refine ⟨s', F3, G4, h4, hok, hl, rfl, (hb.trans b3).trans b4, row_frm r3 hf4 (fun g hg => (hn g hg).2), fun g hg => ⟨fun e => ?_, fun e => ?_⟩⟩
  · rcases hf3.new g e with h | h
    · exact (hn g hg).1 h
    · have := (hrow.lt g hg).2; omega
  · rcases hf4.new g e with h | h
    · exact (hn g hg).2 h
    · have := (r3.lt g hg).2; omega
theorem Back.below {B m : Nat} {L : List Bool} {gs : List Step} {v : Value} {W w w' : World} (h : Back B m L gs v W w) (hb : Below w.heap.size w w') : Back B m L gs v W w' := by
  obtain ⟨s, F, G, h1, h2, h3, h4, h5, h6, h7⟩ := h
  exact ⟨s, F, G, h1.below hb, h2, h3, h4, h5.trans (hb.mono h1.size), own_below h6 hb, h7⟩
/-- the good ones' row grows -/
theorem back_grown {B m : Nat} {L : List Bool} {gs gs' : List Step} {v v' : Value} {W w w' : World} (h : Back B m L gs v W w) (hg : w.grownBy w' v.ownBlock) (hat : v'.ownBlock = v.ownBlock ∨ ∃ g, v'.ownBlock = some g ∧ w.heap.size ≤ g)
    (hrow : w'.ownsRow 0 40 3 v' gs'.length (gs'.flatMap stepCells)) : Back B m L gs' v' W w' := by
  obtain ⟨s, F, G, h1, h2, h3, h4, h5, h6, h7⟩ := h
  have hB := h1.size
  have hF : ∀ k, F k → w'.heap[k]? = w.heap[k]? := fun k hk => hg.block k (h1.wr.lt k hk) fun e => (h7 k e.symm).1 hk
  have hG : ∀ k, G k → w'.heap[k]? = w.heap[k]? := fun k hk => hg.block k (h1.ref.lt k hk) fun e => (h7 k e.symm).2 hk
  refine ⟨s, F, G, ⟨h1.wr.later (wr_local _ _) hg.size hF, h1.ref.later (ref_local _ _) hg.size hG, h1.dis, h1.fb, h1.gb⟩, h2, h3, h4, h5.grown hg hB (fun k hk => (h6.lt k hk).1), ⟨hrow.1, ?_⟩, fun g hgg => ?_⟩
  · rcases hrow.2 with hn | ⟨g, cap, cur, rfl, hb, hgg, rest⟩
    · exact .inl hn
    · refine .inr ⟨g, cap, cur, rfl, ?_, hgg, rest⟩
      rcases hat with e | ⟨g', e, h'⟩
      · exact (h6.lt g e.symm).1
      · have : g = g' := by simpa [Value.ownBlock] using e
        omega
  · rcases hat with e | ⟨g', e, h'⟩
    · exact h7 g (e.symm.trans hgg)
    · have : g' = g := by rw [e] at hgg; simpa using hgg
      exact ⟨fun e => by have := h1.wr.lt g e; omega, fun e => by have := h1.ref.lt g e; omega⟩

theorem stepInf : (Try.prog.info? 40).map (fun i => (i.zero, i.size, i.bytes)) = some (some (.agg #[.int .i64 0, .int .u64 0, .int .i64 0]), 3, 24) := by kernel_rfl

theorem kind_mod (kd : Int) : ∃ (r : Int) (kb : Nat), kd.tmod 2 = r ∧ -1 ≤ r ∧ r ≤ 1 ∧ (r + 2) % 2 = (kb : Int) ∧ kb ≤ 1 := by
  have h1 := Int.tmod_two_eq kd
  rcases h1 with h | h | h
  · exact ⟨_, 1, rfl, by omega, by omega, by omega, by omega⟩
  · exact ⟨_, 0, rfl, by omega, by omega, by omega, by omega⟩
  · exact ⟨_, 1, rfl, by omega, by omega, by omega, by omega⟩

theorem cells3b {w : World} {q : Nat} {a b c : Value} {T : TypeId} (h : w.heap[q]? = some (.cells #[a, b, c] T (0, 0))) : w.cell? ⟨q, 0, none⟩ = some a ∧ w.cell? ⟨q, 1, none⟩ = some b ∧ w.cell? ⟨q, 2, none⟩ = some c :=
  ⟨(Lib.cell_of_heap h 0).trans rfl, (Lib.cell_of_heap h 1).trans rfl, (Lib.cell_of_heap h 2).trans rfl⟩
theorem own_zero {w : World} {B n size : Nat} {e : TypeId} {v : Value} {xs : List Value} (h : w.ownsRow B e size v n xs) : w.ownsRow 0 e size v n xs := by
  refine ⟨h.1, ?_⟩
  rcases h.2 with hn | ⟨g, cap, cur, rfl, hb, rest⟩
  · exact .inl hn
  · exact .inr ⟨g, cap, cur, rfl, Nat.zero_le _, rest⟩
theorem bits_le' {s : WSt} {m : Nat} (h : s.ok) (hl : s.L.length ≤ m) : s.bits.length ≤ 8 * m + 8 := by rw [bits_len]; have := h.1; omega

theorem back_new (w : World) : Back w.heap.size 0 [] [] (.slice (some ⟨w.heap.size + 2, 0, none⟩) 0 0) w (((w.alloc (.cells #[.pointer none, .slice none 0 0, .int .u64 0, .int .i64 0] 58)).alloc (.cells #[.slice none 0 0] 68)).alloc (.cells #[] 40)) := by
  obtain ⟨w1, hw1⟩ : ∃ w1, w1 = w.alloc (.cells #[.pointer none, .slice none 0 0, .int .u64 0, .int .i64 0] 58) := ⟨_, rfl⟩
  have hs1 : w1.heap.size = w.heap.size + 1 := by rw [hw1]; simp
  have a1 : WrF w.heap.size WSt.none (fun k => k = w.heap.size) w1 := by rw [hw1]; exact newW w
  obtain ⟨w2, hw2⟩ : ∃ w2, w2 = w1.alloc (.cells #[.slice none 0 0] 68) := ⟨_, rfl⟩
  have hs2 : w2.heap.size = w.heap.size + 2 := by rw [hw2]; simp; omega
  have a2 : RefF w1.heap.size [] (fun k => k = w1.heap.size) w2 := by rw [hw2]; exact newF w1 _ _ _ fun R hR => new_ref (heap_alloc_new w1 _) hR
  rw [hs1] at a2
  rw [← hw1, ← hw2, ← hs2]
  have hb1 : Below w.heap.size w w1 := by rw [hw1]; exact Below.one w _
  have hb2 : Below w1.heap.size w1 w2 := by rw [hw2]; exact Below.one w1 _
  have hb3 := Below.one w2 (.cells #[] 40)
  have hP : Pair w.heap.size w.heap.size (w.heap.size + 1) WSt.none [] (fun k => k = w.heap.size) (fun k => k = w.heap.size + 1) w2 :=
    ⟨a1.below (wr_local _ _) hb2, a2, by intro k h1 h2; omega, by intro k h1; omega, by intro k h1; omega⟩
  refine ⟨WSt.none, _, _, hP.below hb3, none_ok, Nat.le_refl _, rfl, (hb1.then hb2).then hb3, ?_, ?_⟩
  · exact World.ownsRow_made _ #[] 0 (by omega) (by decide) (by simp)
  · intro g hg
    have : w2.heap.size = g := by simpa [Value.ownBlock] using hg
    omega

set_option maxRecDepth 100000 in
set_option maxHeartbeats 2000000 in
theorem riceBack_in (A : Option Addr) (cp : Nat) (l : List Step) (w : World) (hr : Rd w 3 A l.length (l.flatMap stepCells)) (hx : ∀ x ∈ l, Step.ok x) :
    Calls Try.prog 9 #[.slice A l.length cp] w fun e w' => e = .returned (.bool true) ∧ Below w.heap.size w w' := by
  by_cases h200 : 200 < l.length
  · go_enter Try.func9, Try.ntmps9
    go_wp2_with fail
    go_ret
    exact ⟨rfl, Below.refl _ _⟩
  · have Hx := Lib.hid hx
    clear hx
    go_enter Try.func9, Try.ntmps9
    go_wp2_with fail
    refine (new_any _).mono ?_
    rintro e w1 ⟨rfl, rfl⟩
    go_wp2_with fail
    refine (rnew_any _).mono ?_
    rintro e w2 ⟨rfl, rfl⟩
    have H0 := back_new w
    go_wp2_with fail
    generalize ((w.alloc (.cells #[.pointer none, .slice none 0 0, .int .u64 0, .int .i64 0] 58)).alloc (.cells #[.slice none 0 0] 68)).alloc (.cells #[] 40) = w0 at H0 ⊢
    obtain ⟨B, hB⟩ : ∃ B, B = w.heap.size := ⟨_, rfl⟩
    rw [← hB] at H0 ⊢
    have HB := Lib.hid hB
    clear hB
    go_loopw [5, 6] (fun gv ix wr => ∃ (j : Nat) (gs : List Step) (O : Option Addr) (co : Nat), ix = .int .i64 j ∧ j ≤ l.length ∧ gv = .slice O gs.length co ∧ gs.length ≤ j ∧ (∀ x ∈ gs, Well x) ∧ Back B (20 * j) (enc gs) gs (.slice O gs.length co) w wr) (fun _ ix _ => l.length - (intOf ix).toNat)
    case atStart => exact ⟨0, [], _, 0, rfl, by omega, rfl, Nat.le_refl _, by simp, H0⟩
    case round =>
      clear H0
      obtain ⟨j, gs, O, co, rfl, hj, rfl, hgl, hwell, hH⟩ := hrel
      by_cases hlt : j < l.length
      · have HBK := Lib.hid hH
        obtain ⟨s, F, G, hP, hok, hsl, hsb, hbel, hrow, hnf⟩ := hH
        have hBw := HB.out
        rw [hBw] at hbel
        obtain ⟨bo, off, rfl, hbo, e0, e1, e2⟩ := step_at (hr.below hbel) hlt
        have hxo := Hx.out _ (List.getElem_mem hlt)
        generalize l[j] = o at e0 e1 e2 hxo
        obtain ⟨kd, n, k⟩ := o
        obtain ⟨⟨kd1, kd2⟩, hn, k1, k2⟩ := hxo
        simp only at e0 e1 e2 kd1 kd2 hn k1 k2
        obtain ⟨r, kb, m1, m2, m3, m4, m5⟩ := kind_mod kd
        have HP := Lib.hid hP
        have Hok := Lib.hid hok
        have Hsb := Lib.hid hsb
        have Hbel := Lib.hid hbel
        have Hrow := Lib.hid hrow
        have Hnf := Lib.hid hnf
        have Hn := Lib.hid hn
        have Hwell := Lib.hid hwell
        clear hP hok hbel hn hBw hrow hnf hsb hwell
        have hqA := heap_alloc_new wr (.cells #[.int .i64 (kb : Int), .int .u64 (n : Int), .int .i64 k] 40)
        have Hql := Lib.hid (show wr.heap.size < (wr.alloc (.cells #[.int .i64 (kb : Int), .int .u64 (n : Int), .int .i64 k] 40)).heap.size by simp)
        have Hqn := Lib.hid (HP.out.cell wr.heap.size (Nat.le_refl _))
        have HqA := Lib.hid hqA
        have HbelA := Lib.hid (show Below B w (wr.alloc (.cells #[.int .i64 (kb : Int), .int .u64 (n : Int), .int .i64 k] 40)) by rw [HB.out]; exact Hbel.out.then (Below.one _ _))
        clear hqA
        have hkc : ((kb : Int) == 0) = true ∧ (kb : Int) = 0 ∨ ((kb : Int) == 0) = false ∧ (kb : Int) = 1 := by
          have h : kb = 0 ∨ kb = 1 := by omega
          rcases h with h | h
          · exact .inl ⟨by rw [h]; rfl, by rw [h]; rfl⟩
          · exact .inr ⟨by rw [h]; rfl, by rw [h]; rfl⟩
        rcases hkc with ⟨z0, hkb⟩ | ⟨z0, hkb⟩
        · have Hkb := Lib.hid hkb
          clear hkb
          by_cases hf : Fit n k
          · have Hf := Lib.hid hf
            have hE : ((putE n k : Nat) : Int) = 0 := by unfold putE; rw [if_pos hf]; rfl
            clear hf
            have P1 := putF B s F n k (wr.alloc (.cells #[.int .i64 (kb : Int), .int .u64 (n : Int), .int .i64 k] 40)) (HP.out.below (Below.one _ _)).wr Hok.out Hn.out (by omega)
            rw [hE] at P1
            have HP1 := Lib.hid P1
            have P2 := fun w' h => rputF (B + 1) s.bits G n k w' h Hn.out (by have := bits_le' Hok.out hsl; omega)
            rw [hE] at P2
            have HP2 := Lib.hid P2
            have hok2 := Lib.hid (putS_ok (n := n) (k := k) Hok.out)
            have hbits := Lib.hid (putS_bits s n k)
            clear P1 P2 hE
            go_wp2_with fail
            refine HP1.out.mono ?_
            rintro e w3 ⟨rfl, F3, hW3, hf3⟩
            have hq3 := (hf3.block _ Hql.out Hqn.out.1).trans HqA.out
            obtain ⟨r0, r1, r2⟩ := cells3b hq3
            have hR3 := ((HP.out.below (Below.one _ _)).left hW3 hf3).1.ref
            have HW3 := Lib.hid hW3
            have Hf3 := Lib.hid hf3
            have HR3 := Lib.hid hR3
            have Hq3 := Lib.hid hq3
            clear hW3 hf3 hR3 hq3
            go_wp2_with fail
            refine (HP2.out _ HR3.out).mono ?_
            rintro e w4 ⟨rfl, G4, hR4, hf4⟩
            have HB4 := Lib.hid (back_next (m := 20 * (j + 1)) (HP.out.below (Below.one wr (.cells #[.int .i64 (kb : Int), .int .u64 (n : Int), .int .i64 k] 40))) HW3.out Hf3.out hR4 hf4 hbits.out hok2.out.1 (by have := hok2.out.2; omega) HbelA.out (own_below Hrow.out (Below.one _ _)) Hnf.out)
            have hq4 := (hf4.block _ (Nat.lt_of_lt_of_le Hql.out Hf3.out.size) Hqn.out.2).trans Hq3.out
            obtain ⟨s0, s1, s2⟩ := cells3b hq4
            clear hR4 hf4 hq4 r0 r1 r2
            rw [Hsb.out] at HB4
            have hE2 : putB (enc gs) n k = enc (gs ++ [⟨(kb : Int), n, k⟩]) := by rw [enc_snoc]; unfold putB codeOf; rw [if_pos Hf.out]; simp [Hkb.out]
            rw [hE2] at HB4
            obtain ⟨_, _, _, _, _, _, _, _, hrow4, _⟩ := HB4.out
            have hlie : Lie (fun k => k < w4.heap.size ∧ some k ≠ (Value.slice O gs.length co).ownBlock) 40 3 (.slice O gs.length co) gs.length (gs.flatMap stepCells) w4 := ⟨own_zero hrow4, fun g hg h => h.2 hg.symm⟩
            have hold : Old (fun k => k < w4.heap.size ∧ some k ≠ (Value.slice O gs.length co).ownBlock) w4 := fun k h => h.1
            have hwl := Lib.hid (show Well ⟨(kb : Int), n, k⟩ from ⟨Hn.out, .inl ⟨Hkb.out, Hf.out⟩⟩)
            have hgl2 : gs.length < 200 := by omega
            clear hrow4 hE2
            go_wp2_with (at_builtin; go_must (refine wpList_append_elem_row rfl _ _ 34 (by rfl) 40 (.agg #[.int .i64 0, .int .u64 0, .int .i64 0]) 3 24 Try.underlying34 stepInf rfl (by decide) _ gs.length (gs.flatMap stepCells) _ w4 #[.int .i64 (kb : Int), .int .u64 (n : Int), .int .i64 k] rfl (by intro u hu; simp at hu; rcases hu with rfl | rfl | rfl <;> rfl) hlie (by rfl) hold (by rfl) (by unfold maxLen; omega) (by omega) ?_); intro v' w5 hown5 hst5 hgr5 hat5; obtain ⟨O5, c5, rfl⟩ := own_form hown5.1)
            go_roundw
            case rel =>
              have e5 : (gs ++ [(⟨(kb : Int), n, k⟩ : Step)]).length = gs.length + 1 := by simp
              have e6 : (gs ++ [(⟨(kb : Int), n, k⟩ : Step)]).flatMap stepCells = gs.flatMap stepCells ++ [.int .i64 (kb : Int), .int .u64 (n : Int), .int .i64 k] := by simp [stepCells]
              refine ⟨j + 1, gs ++ [⟨(kb : Int), n, k⟩], O5, c5, by go_num, by omega, by rw [e5], by rw [e5]; omega, ?_, ?_⟩
              · intro x hx
                rcases List.mem_append.1 hx with h | h
                · exact Hwell.out x h
                · rw [List.mem_singleton.1 h]; exact hwl.out
              · rw [e5]
                refine back_grown HB4.out hgr5 hat5 ?_
                rw [e5, e6]; exact hown5.1
            case measure => simp [intOf]; omega
          · have Hf := Lib.hid hf
            have hE : ((putE n k : Nat) : Int) = 1 := by unfold putE; rw [if_neg hf]; rfl
            clear hf
            have P1 := putF B s F n k (wr.alloc (.cells #[.int .i64 (kb : Int), .int .u64 (n : Int), .int .i64 k] 40)) (HP.out.below (Below.one _ _)).wr Hok.out Hn.out (by omega)
            rw [hE] at P1
            have HP1 := Lib.hid P1
            have P2 := fun w' h => rputF (B + 1) s.bits G n k w' h Hn.out (by have := bits_le' Hok.out hsl; omega)
            rw [hE] at P2
            have HP2 := Lib.hid P2
            have hok2 := Lib.hid (putS_ok (n := n) (k := k) Hok.out)
            have hbits := Lib.hid (putS_bits s n k)
            clear P1 P2 hE
            go_wp2_with fail
            refine HP1.out.mono ?_
            rintro e w3 ⟨rfl, F3, hW3, hf3⟩
            have hq3 := (hf3.block _ Hql.out Hqn.out.1).trans HqA.out
            obtain ⟨r0, r1, r2⟩ := cells3b hq3
            have hR3 := ((HP.out.below (Below.one _ _)).left hW3 hf3).1.ref
            have HW3 := Lib.hid hW3
            have Hf3 := Lib.hid hf3
            have HR3 := Lib.hid hR3
            have Hq3 := Lib.hid hq3
            clear hW3 hf3 hR3 hq3
            go_wp2_with fail
            refine (HP2.out _ HR3.out).mono ?_
            rintro e w4 ⟨rfl, G4, hR4, hf4⟩
            have HB4 := Lib.hid (back_next (m := 20 * (j + 1)) (HP.out.below (Below.one wr (.cells #[.int .i64 (kb : Int), .int .u64 (n : Int), .int .i64 k] 40))) HW3.out Hf3.out hR4 hf4 hbits.out hok2.out.1 (by have := hok2.out.2; omega) HbelA.out (own_below Hrow.out (Below.one _ _)) Hnf.out)
            have hq4 := (hf4.block _ (Nat.lt_of_lt_of_le Hql.out Hf3.out.size) Hqn.out.2).trans Hq3.out
            obtain ⟨s0, s1, s2⟩ := cells3b hq4
            clear hR4 hf4 hq4 r0 r1 r2
            rw [Hsb.out] at HB4
            have hE2 : putB (enc gs) n k = enc gs := by unfold putB; rw [if_neg Hf.out]
            rw [hE2] at HB4
            clear hE2
            go_wp2_with fail
            go_roundw
            case rel => exact ⟨j + 1, gs, O, co, by go_num, by omega, rfl, by omega, Hwell.out, HB4.out⟩
            case measure => simp [intOf]; omega
        · have Hkb := Lib.hid hkb
          clear hkb
          by_cases hf : 0 ≤ k ∧ k ≤ 40
          · have Hf := Lib.hid hf
            have hE : ((riceE k : Nat) : Int) = 0 := by unfold riceE; rw [if_pos hf]; rfl
            clear hf
            have P1 := riceF B s F n k (wr.alloc (.cells #[.int .i64 (kb : Int), .int .u64 (n : Int), .int .i64 k] 40)) (HP.out.below (Below.one _ _)).wr Hok.out Hn.out (by omega)
            rw [hE] at P1
            have HP1 := Lib.hid P1
            have P2 := fun w' h => rriceF (B + 1) s.bits G n k w' h Hn.out (by have := bits_le' Hok.out hsl; omega)
            rw [hE] at P2
            have HP2 := Lib.hid P2
            have hok2 := Lib.hid (riceS_ok (n := n) (k := k) Hok.out)
            have hbits := Lib.hid (riceS_bits s n k)
            clear P1 P2 hE
            go_wp2_with fail
            refine HP1.out.mono ?_
            rintro e w3 ⟨rfl, F3, hW3, hf3⟩
            have hq3 := (hf3.block _ Hql.out Hqn.out.1).trans HqA.out
            obtain ⟨r0, r1, r2⟩ := cells3b hq3
            have hR3 := ((HP.out.below (Below.one _ _)).left hW3 hf3).1.ref
            have HW3 := Lib.hid hW3
            have Hf3 := Lib.hid hf3
            have HR3 := Lib.hid hR3
            have Hq3 := Lib.hid hq3
            clear hW3 hf3 hR3 hq3
            go_wp2_with fail
            refine (HP2.out _ HR3.out).mono ?_
            rintro e w4 ⟨rfl, G4, hR4, hf4⟩
            have HB4 := Lib.hid (back_next (m := 20 * (j + 1)) (HP.out.below (Below.one wr (.cells #[.int .i64 (kb : Int), .int .u64 (n : Int), .int .i64 k] 40))) HW3.out Hf3.out hR4 hf4 hbits.out hok2.out.1 (by have := hok2.out.2; omega) HbelA.out (own_below Hrow.out (Below.one _ _)) Hnf.out)
            have hq4 := (hf4.block _ (Nat.lt_of_lt_of_le Hql.out Hf3.out.size) Hqn.out.2).trans Hq3.out
            obtain ⟨s0, s1, s2⟩ := cells3b hq4
            clear hR4 hf4 hq4 r0 r1 r2
            rw [Hsb.out] at HB4
            have hE2 : riceB (enc gs) n k = enc (gs ++ [⟨(kb : Int), n, k⟩]) := by rw [enc_snoc]; unfold riceB codeOf; rw [if_pos Hf.out]; simp [Hkb.out]
            rw [hE2] at HB4
            obtain ⟨_, _, _, _, _, _, _, _, hrow4, _⟩ := HB4.out
            have hlie : Lie (fun k => k < w4.heap.size ∧ some k ≠ (Value.slice O gs.length co).ownBlock) 40 3 (.slice O gs.length co) gs.length (gs.flatMap stepCells) w4 := ⟨own_zero hrow4, fun g hg h => h.2 hg.symm⟩
            have hold : Old (fun k => k < w4.heap.size ∧ some k ≠ (Value.slice O gs.length co).ownBlock) w4 := fun k h => h.1
            have hwl := Lib.hid (show Well ⟨(kb : Int), n, k⟩ from ⟨Hn.out, .inr ⟨Hkb.out, Hf.out⟩⟩)
            have hgl2 : gs.length < 200 := by omega
            clear hrow4 hE2
            go_wp2_with (at_builtin; go_must (refine wpList_append_elem_row rfl _ _ 34 (by rfl) 40 (.agg #[.int .i64 0, .int .u64 0, .int .i64 0]) 3 24 Try.underlying34 stepInf rfl (by decide) _ gs.length (gs.flatMap stepCells) _ w4 #[.int .i64 (kb : Int), .int .u64 (n : Int), .int .i64 k] rfl (by intro u hu; simp at hu; rcases hu with rfl | rfl | rfl <;> rfl) hlie (by rfl) hold (by rfl) (by unfold maxLen; omega) (by omega) ?_); intro v' w5 hown5 hst5 hgr5 hat5; obtain ⟨O5, c5, rfl⟩ := own_form hown5.1)
            go_roundw
            case rel =>
              have e5 : (gs ++ [(⟨(kb : Int), n, k⟩ : Step)]).length = gs.length + 1 := by simp
              have e6 : (gs ++ [(⟨(kb : Int), n, k⟩ : Step)]).flatMap stepCells = gs.flatMap stepCells ++ [.int .i64 (kb : Int), .int .u64 (n : Int), .int .i64 k] := by simp [stepCells]
              refine ⟨j + 1, gs ++ [⟨(kb : Int), n, k⟩], O5, c5, by go_num, by omega, by rw [e5], by rw [e5]; omega, ?_, ?_⟩
              · intro x hx
                rcases List.mem_append.1 hx with h | h
                · exact Hwell.out x h
                · rw [List.mem_singleton.1 h]; exact hwl.out
              · rw [e5]
                refine back_grown HB4.out hgr5 hat5 ?_
                rw [e5, e6]; exact hown5.1
            case measure => simp [intOf]; omega
          · have Hf := Lib.hid hf
            have hE : ((riceE k : Nat) : Int) = 1 := by unfold riceE; rw [if_neg hf]; rfl
            clear hf
            have P1 := riceF B s F n k (wr.alloc (.cells #[.int .i64 (kb : Int), .int .u64 (n : Int), .int .i64 k] 40)) (HP.out.below (Below.one _ _)).wr Hok.out Hn.out (by omega)
            rw [hE] at P1
            have HP1 := Lib.hid P1
            have P2 := fun w' h => rriceF (B + 1) s.bits G n k w' h Hn.out (by have := bits_le' Hok.out hsl; omega)
            rw [hE] at P2
            have HP2 := Lib.hid P2
            have hok2 := Lib.hid (riceS_ok (n := n) (k := k) Hok.out)
            have hbits := Lib.hid (riceS_bits s n k)
            clear P1 P2 hE
            go_wp2_with fail
            refine HP1.out.mono ?_
            rintro e w3 ⟨rfl, F3, hW3, hf3⟩
            have hq3 := (hf3.block _ Hql.out Hqn.out.1).trans HqA.out
            obtain ⟨r0, r1, r2⟩ := cells3b hq3
            have hR3 := ((HP.out.below (Below.one _ _)).left hW3 hf3).1.ref
            have HW3 := Lib.hid hW3
            have Hf3 := Lib.hid hf3
            have HR3 := Lib.hid hR3
            have Hq3 := Lib.hid hq3
            clear hW3 hf3 hR3 hq3
            go_wp2_with fail
            refine (HP2.out _ HR3.out).mono ?_
            rintro e w4 ⟨rfl, G4, hR4, hf4⟩
            have HB4 := Lib.hid (back_next (m := 20 * (j + 1)) (HP.out.below (Below.one wr (.cells #[.int .i64 (kb : Int), .int .u64 (n : Int), .int .i64 k] 40))) HW3.out Hf3.out hR4 hf4 hbits.out hok2.out.1 (by have := hok2.out.2; omega) HbelA.out (own_below Hrow.out (Below.one _ _)) Hnf.out)
            have hq4 := (hf4.block _ (Nat.lt_of_lt_of_le Hql.out Hf3.out.size) Hqn.out.2).trans Hq3.out
            obtain ⟨s0, s1, s2⟩ := cells3b hq4
            clear hR4 hf4 hq4 r0 r1 r2
            rw [Hsb.out] at HB4
            have hE2 : riceB (enc gs) n k = enc gs := by unfold riceB; rw [if_neg Hf.out]
            rw [hE2] at HB4
            clear hE2
            go_wp2_with fail
            go_roundw
            case rel => exact ⟨j + 1, gs, O, co, by go_num, by omega, rfl, by omega, Hwell.out, HB4.out⟩
            case measure => simp [intOf]; omega
      · obtain rfl : j = l.length := by omega
        obtain ⟨s, F, G, hP, hok, hsl, hsb, hbel, hrow, hnf⟩ := hH
        have BY := Lib.hid (bytesF B s F wr hP.wr hok (by omega))
        have hol : s.out.length ≤ 4001 := by have := out_len s; omega
        have hbits : sbits (S s.out) = enc gs ++ List.replicate (pad s.m) false := by rw [sbits_S, out_bits hok.1, hsb]
        have hend := end_pad s.m hok.1
        have HP := Lib.hid hP
        have Hbits := Lib.hid hbits
        have Hend := Lib.hid hend
        have Hrow := Lib.hid hrow
        have Hnf := Lib.hid hnf
        have Hbel := Lib.hid hbel
        have Hwell := Lib.hid hwell
        have HSZ : (S s.out).size ≤ 1000000 := by rw [S_size]; omega
        have HSZ2 : (S s.out).size < 1099511627776 := by omega
        have HS1 := Lib.hid HSZ
        have HS2 := Lib.hid HSZ2
        have hgs200 : gs.length ≤ 200 := by omega
        clear hP hbits hend hrow hnf hbel hwell HSZ HSZ2 hok hsl hsb hol hr
        go_wp2_with fail
        refine BY.out.mono ?_
        rintro e w1 ⟨rfl, hs1⟩
        have hrow1 : w1.ownsRow B 40 3 (.slice O gs.length co) gs.length (gs.flatMap stepCells) := by
          refine ⟨Hrow.out.1, ?_⟩
          rcases Hrow.out.2 with hn | ⟨g, cap, cur, h1, hb, hg, rest⟩
          · exact .inl hn
          · have hog : (Value.slice O gs.length co).ownBlock = some g := by rw [h1]; rfl
            exact .inr ⟨g, cap, cur, h1, hb, (hs1.block g ⟨(Array.getElem?_eq_some_iff.1 hg).1, .inl (Hnf.out g hog).1⟩).trans hg, rest⟩
        have hB1 : Below B w w1 := Hbel.out.trans (hs1.below fun k hk => ⟨by have := HP.out.size; omega, .inl fun e => by have := HP.out.fb k e; omega⟩)
        obtain ⟨_, _, hv, hrd⟩ := Rd.of_own hrow1
        obtain ⟨rfl, rfl⟩ := (by simpa using hv)
        have hsz1 : B ≤ w1.heap.size := by have := HP.out.size; have := hs1.size; omega
        have HRD := Lib.hid hrd
        have HB1 := Lib.hid hB1
        have Hsz1 := Lib.hid hsz1
        clear hrow1 hB1 hrd hs1 hv hsz1
        go_wp2_with fail
        refine (read_any _ _).mono ?_
        rintro e w2 ⟨rfl, rfl⟩
        have hr2 : RdrOf 61 w1.heap.size (S s.out) 0 (w1.alloc (.cells #[.string (S s.out), .int .i64 0] 61)) := heap_alloc_new w1 _
        have hb2 : Below w1.heap.size w1 (w1.alloc (.cells #[.string (S s.out), .int .i64 0] 61)) := Below.one w1 _
        obtain ⟨c, hc⟩ : ∃ c, c = w1.heap.size := ⟨_, rfl⟩
        rw [← hc] at hr2
        have HR2 := Lib.hid hr2
        have HB2 := Lib.hid hb2
        go_wp2_with fail
        rw [← hc]
        have Hc := Lib.hid hc
        clear hr2 hb2 hc
        generalize w1.alloc (.cells #[.string (S s.out), .int .i64 0] 61) = w2 at *
        go_loopw [10] (fun ix w3 => ∃ i : Nat, ix = .int .i64 i ∧ i ≤ gs.length ∧ RdrOf 61 c (S s.out) ((enc (gs.take i)).length) w3 ∧ Below w1.heap.size w1 w3) (fun ix _ => gs.length - (intOf ix).toNat)
        case atStart => exact ⟨0, rfl, by omega, HR2.out, HB2.out⟩
        case round =>
          obtain ⟨i, rfl, hi, hr3, hb3⟩ := hrel
          have HR3 := Lib.hid hr3
          have HB3 := Lib.hid hb3
          have hlen8 : (enc gs ++ List.replicate (pad s.m) false).length = 8 * (S s.out).size := by rw [← Hbits.out, sbits_size]
          by_cases hlt : i < gs.length
          · obtain ⟨b0, off0, rfl, hb0, e0, e1, e2⟩ := step_at (HRD.out.below hb3) hlt
            have hbc : b0 ≠ c := by
              obtain ⟨b', off', e', hb', _⟩ := step_at HRD.out hlt
              have : b0 = b' := by simpa using congrArg (fun o => o.map Addr.block) e'
              have := Hc.out
              omega
            have hw := Hwell.out _ (List.getElem_mem hlt)
            have htake : gs.take (i + 1) = gs.take i ++ [gs[i]] := List.take_succ_eq_append_getElem hlt
            have hsplit : enc gs = enc (gs.take i) ++ (codeOf gs[i] ++ enc (gs.drop (i + 1))) := by
              have h1 : gs = gs.take i ++ (gs[i] :: gs.drop (i + 1)) := by rw [← List.drop_eq_getElem_cons hlt, List.take_append_drop]
              have h2 : enc gs = enc (gs.take i ++ (gs[i] :: gs.drop (i + 1))) := by rw [← h1]
              rw [h2]; unfold enc; rw [List.flatMap_append, List.flatMap_cons]
            have hdrop : (sbits (S s.out)).drop (enc (gs.take i)).length = codeOf gs[i] ++ (enc (gs.drop (i + 1)) ++ List.replicate (pad s.m) false) := by
              rw [Hbits.out, hsplit, List.append_assoc, List.drop_left' rfl, List.append_assoc]
            have Hle : (enc (gs.take i)).length ≤ 8 * (S s.out).size := by
              rw [← hlen8, hsplit]; simp
            have hnext : (enc (gs.take i)).length + (codeOf gs[i]).length = (enc (gs.take (i + 1))).length := by rw [htake, enc_snoc, List.length_append]
            have Hnext := Lib.hid hnext
            generalize gs[i] = o at *
            obtain ⟨kd, n, k⟩ := o
            obtain ⟨hn, hcase⟩ := hw
            simp only at hn hcase e0 e1 e2
            clear hr3 hb3 hlen8 htake hsplit hnext hb0
            rcases hcase with ⟨hkd, hf⟩ | ⟨hkd, hk⟩
            · subst hkd
              obtain ⟨t, rfl⟩ := Int.eq_ofNat_of_zero_le hf.1
              have hcl : codeOf ⟨0, n, (t : Int)⟩ = lowL n t := rfl
              rw [hcl] at hdrop Hnext
              have hz : getZ (lowL n t ++ (enc (gs.drop (i + 1)) ++ List.replicate (pad s.m) false)) (t : Int) = (n, t, 0) := by
                unfold getZ; rw [if_pos ⟨hf.1, hf.2.1⟩]; exact get_back hf.2.2 _
              rw [lowL_length] at Hnext
              have G0 := get_any c (S s.out) ((enc (gs.take i)).length) t wr HR3.out HS2.out Hle
              rw [hdrop, hz] at G0
              have G1 := Lib.hid G0
              clear G0 hdrop Hle hz hcl hf
              go_wp2_with fail
              refine G1.out.mono ?_
              rintro e w4 ⟨rfl, hr4, hb4⟩
              have q1 := (World.cell?_of_block (a := ⟨b0, off0 + i * 3 + 1, none⟩) (hb4.block b0 hbc)).trans e1
              have HR4 := Lib.hid hr4
              have HB4 := Lib.hid (HB3.out.trans (hb4.below (Nat.le_of_eq Hc.out.symm)))
              clear hr4 hb4 e0 e1 e2
              go_wp2_with fail
              go_roundw
              case rel => exact ⟨i + 1, by go_num, by omega, by rw [← Hnext.out]; exact HR4.out, HB4.out⟩
              case measure => simp [intOf]; omega
            · subst hkd
              obtain ⟨t, rfl⟩ := Int.eq_ofNat_of_zero_le hk.1
              have hcl : codeOf ⟨1, n, (t : Int)⟩ = codeL n t := rfl
              rw [hcl] at hdrop Hnext
              have hz : riceZ (codeL n t ++ (enc (gs.drop (i + 1)) ++ List.replicate (pad s.m) false)) (t : Int) = (n, costOne n t, 0) := by
                unfold riceZ; rw [if_pos hk]; exact rice_back hn _
              rw [codeL_length] at Hnext
              have G0 := readRice_any c (S s.out) ((enc (gs.take i)).length) t wr HR3.out HS1.out Hle
              rw [hdrop, hz] at G0
              have G1 := Lib.hid G0
              clear G0 hdrop Hle hz hcl hk
              go_wp2_with fail
              refine G1.out.mono ?_
              rintro e w4 ⟨rfl, hr4, hb4⟩
              have q1 := (World.cell?_of_block (a := ⟨b0, off0 + i * 3 + 1, none⟩) (hb4.block b0 hbc)).trans e1
              have HR4 := Lib.hid hr4
              have HB4 := Lib.hid (HB3.out.trans (hb4.below (Nat.le_of_eq Hc.out.symm)))
              clear hr4 hb4 e0 e1 e2
              go_wp2_with fail
              go_roundw
              case rel => exact ⟨i + 1, by go_num, by omega, by rw [← Hnext.out]; exact HR4.out, HB4.out⟩
              case measure => simp [intOf]; omega
          · obtain rfl : i = gs.length := by omega
            rw [List.take_length] at HR3
            have Hle : (enc gs).length ≤ 8 * (S s.out).size := by rw [← hlen8]; simp
            have E0 := end_any c (S s.out) ((enc gs).length) wr HR3.out HS2.out Hle
            rw [Hbits.out, List.drop_left' rfl, Hend.out] at E0
            have E1 := Lib.hid E0
            clear E0 Hle hr3 hb3 hlen8
            go_wp2_with fail
            refine E1.out.mono ?_
            rintro e w4 ⟨rfl, hst⟩
            have HB4 := Lib.hid (HB1.out.trans ((HB3.out.mono Hsz1.out).trans (hst.below.mono (by have := HB3.out.size; have := Hsz1.out; omega))))
            clear hst
            go_wp2_with fail
            refine (wput_no B 0 (-1) _ (by decide) (by omega)).mono ?_
            rintro e w5 ⟨rfl, rfl⟩
            go_wp2_with fail
            go_ret
            have hB := HB.out
            subst hB
            exact ⟨rfl, HB4.out⟩

theorem riceBack_walk (w : World) (v0 : Value) (g0 : ∃ A c, ∃ xs : List Step, v0 = .slice A xs.length c ∧ Rd w 3 A xs.length (xs.flatMap stepCells) ∧ (∀ x ∈ xs, Step.ok x) ∧ xs.length ≤ c ∧ c ≤ maxLen) :
    Calls Try.prog 9 #[v0] w fun e w' => e = .returned (.bool true) ∧ Below w.heap.size w w' := by
  obtain ⟨A, c, xs, rfl, hr, hx, _⟩ := g0
  exact riceBack_in A c xs w hr hx
end Go.Proofs.Ytmllnfplahaccaa
