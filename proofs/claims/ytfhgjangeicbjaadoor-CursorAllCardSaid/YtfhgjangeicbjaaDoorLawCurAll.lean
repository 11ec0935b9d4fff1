/-
  The walk of the law 'CursorAll'.
-/
import Derived.Test.YtfhgjangeicbjaaDoorCurAllPlain
import Derived.Test.YtfhgjangeicbjaaDoorLawCurDecodes
import Derived.Test.YtfhgjangeicbjaaDoorCursorRef
import Derived.Test.YtfhgjangeicbjaaDoorAppend
import Derived.Test.YtfhgjangeicbjaaDoorPageOwn
namespace Go.Proofs.YtfhgjangeicbjaaDoor
open Go Go.RowKit Go.Deep Go.ChangeShapes Go.WideShapes

section
variable {H : Type} {enc : TypeId × Value → H} {w : World}
theorem u8_elem : ∀ n cs y, cs.length = 1 → DataW.trod enc Tryd.prog w 0 (fun _ => true) true n 5 cs = some y → ∃ x : UInt8, cs = [.int .u8 (x.toNat : Int)] ∧ True := by
  intro n cs y _ h
  obtain ⟨b, hb, _, wb⟩ := DataW.trod_int Tryd.underlying5 h
  have bd := bounds_u8 wb
  refine ⟨byt b.toNat, ?_, trivial⟩
  rw [u8_lt _ (by omega), hb, show ((b.toNat : Nat) : Int) = b by omega]

/-- an argument of bytes -/
theorem read_u8s {v : Value} {d : DataW H} {p : List MemPlace} {r : Reach} {b0 : Nat} (hv : Value.okWide Tryd.prog w r b0 38 v) (h : DataW.Trod enc Tryd.prog w 0 (fun _ => true) true 38 v d p) :
    ∃ A c, ∃ l : List UInt8, v = .slice A l.length c ∧ Rd w 1 A l.length (cellsOf l) := by
  obtain ⟨A, c, l, h1, h2, h3⟩ := read_slice (cells := fun x : UInt8 => [Value.int .u8 (x.toNat : Int)]) (R := fun _ => True) (fun _ => rfl) (by decide) Tryd.underlying38 (by kernel_rfl) u8_elem hv h
  refine ⟨A, c, l, h1, ?_⟩
  have e : cellsOf l = l.flatMap fun x => [Value.int .u8 (x.toNat : Int)] := by
    exact List.map_eq_flatMap
  rw [e]; exact h2
end

theorem own_drewN {w : World} {B n n' size : Nat} {e : TypeId} {v : Value} {xs : List Value} (h : w.ownsRow B e size v n xs) : (w.drewN n').ownsRow B e size v n xs := h

theorem own_apart {w0 w : World} {B B' n1 n2 s1 s2 : Nat} {e e' : TypeId} {v1 v2 : Value} {xs1 xs2 : List Value} (h1 : w0.ownsRow B e s1 v1 n1 xs1) (h2 : w.ownsRow B' e' s2 v2 n2 xs2) (hB : w0.heap.size ≤ B') :
    v2.ownBlock = none ∨ v2.ownBlock ≠ v1.ownBlock := by
  rcases h2.2 with ⟨rfl, _⟩ | ⟨g2, c2, cur2, rfl, hg2, _⟩
  · exact .inl rfl
  · refine .inr ?_
    rcases h1.2 with ⟨rfl, _⟩ | ⟨g1, c1, cur1, rfl, hg1, hh1, _⟩
    · simp [Value.ownBlock]
    · have := (Array.getElem?_eq_some_iff.1 hh1).1
      simp [Value.ownBlock]; omega

theorem own_block_ne {w : World} {B b n s : Nat} {e : TypeId} {A : Option Addr} {c : Nat} {xs : List Value} (h : w.ownsRow B e s (.slice A n c) n xs) (hb : b < B) : ∀ g off, A = some ⟨g, off, none⟩ → g ≠ b := by
  rintro g off rfl
  rcases h.2 with ⟨hv, _⟩ | ⟨g', c', cur, hv, hg, _⟩
  · simp at hv
  · simp at hv; omega
theorem cell_set_ne {w : World} {b j k o : Nat} {v : Value} (h : k ≠ b) : (w.setCell ⟨b, j, none⟩ v).cell? ⟨k, o, none⟩ = w.cell? ⟨k, o, none⟩ := by
  simp only [World.cell?, Below.heap_setCell w ⟨b, j, none⟩ v k h]

/-- two cells of a block of three are set -/
theorem set_two {w : World} {b : Nat} {v0 v1 v2 x y : Value} {t : TypeId} (hk : w.heap[b]? = some (.cells #[v0, v1, v2] t (0, 0))) :
    ((w.setCell ⟨b, 1, none⟩ x).setCell ⟨b, 2, none⟩ y).heap[b]? = some (.cells #[v0, x, y] t (0, 0)) := by
  simp [World.setCell, Array.getElem?_modify, hk]

theorem row_one (P : List Row) : ∀ u ∈ P.flatMap rowCells, u.oneCell' = true := by
  intro u hu
  obtain ⟨r, _, hr⟩ := List.mem_flatMap.1 hu
  simp only [rowCells, List.mem_cons, List.not_mem_nil, or_false] at hr
  rcases hr with rfl | rfl | rfl <;> rfl

theorem page_told (O : Option Addr) (co : Nat) (acc P : List Row) (s : ByteArray) (T ID : Int) (m k : Nat) (kv : Int) (hkv : kv = (k : Int)) (hg : Good acc) (hm : m ≤ acc.length) (hcur : curAt s acc m = ⟨s, T, ID⟩) (hP : P = (acc.drop m).take k) (w : World)
    (hr : Rd w 3 O acc.length (acc.flatMap rowCells)) (hl : acc.length ≤ 4096) :
    Calls Tryd.prog 13 #[.slice O acc.length co, .agg #[.string s, .int .i64 T, .int .i64 ID], .int .i64 kv] w (RetRowsO P (decide (m + k < acc.length)) w) := by
  subst hkv
  have h := page_own O co acc s T ID k w hr hl
  obtain ⟨e1, e2⟩ := page_at (q := s) (k := k) hg hm
  rw [hcur] at e1 e2
  rw [e1, e2, ← hP] at h
  exact h

set_option maxRecDepth 100000 in
set_option maxHeartbeats 4000000 in
theorem cursorAll_walk (w : World) (v0 v1 : Value) (s : ByteArray) (g0 : ∃ A c, ∃ xs : List Row, v0 = .slice A xs.length c ∧ Rd w 3 A xs.length (xs.flatMap rowCells) ∧ (∀ x ∈ xs, Row.ok x) ∧ xs.length ≤ c ∧ c ≤ maxLen)
    (g1 : ∃ A c, ∃ l : List UInt8, v1 = .slice A l.length c ∧ Rd w 1 A l.length (cellsOf l)) (_hs : s.size ≤ maxLen) (ht : Tab w) :
    Calls Tryd.prog 7 #[v0, v1, .string s] w fun e w' => e = .returned (.bool true) ∧ Below w.heap.size w w' := by
  obtain ⟨A, ca, raw, rfl, hr0, -, -, -⟩ := g0
  obtain ⟨B, cb, sizes, rfl, hr1⟩ := g1
  clear _hs
  have Ht := Lib.hid ht
  clear ht
  by_cases hl : 100 < raw.length
  · go_enter Tryd.func7, Tryd.ntmps7
    go_wp2_with fail
    go_ret
    exact ⟨rfl, Below.refl _ _⟩
  by_cases hs : 1024 < s.size
  · go_enter Tryd.func7, Tryd.ntmps7
    go_wp2_with fail
    go_ret
    exact ⟨rfl, Below.refl _ _⟩
  go_enter Tryd.func7, Tryd.ntmps7
  go_wp2_with fail
  go_loopw [7, 8] (fun out ix wr => ∃ (j : Nat) (acc : List Row) (O : Option Addr) (co : Nat), ix = .int .i64 j ∧ j ≤ raw.length ∧ Good acc ∧ acc.length ≤ j ∧ out = .slice O acc.length co ∧
      wr.ownsRow w.heap.size 40 3 (.slice O acc.length co) acc.length (acc.flatMap rowCells) ∧ Below w.heap.size w wr) (fun _ ix _ => raw.length - (intOf ix).toNat)
  case atStart => exact ⟨0, [], _, 0, rfl, by omega, good_nil, by simp, rfl, made0' _ _ _, Below.one _ _⟩
  case round =>
    obtain ⟨j, acc, O, co, rfl, hj, hg, hal, rfl, hown, hbel⟩ := hrel
    have HG := Lib.hid hg
    clear hg
    by_cases hlt : j < raw.length
    · obtain ⟨b, off, rfl, hb, e0, e1, e2⟩ := row_at (hr0.below hbel) hlt
      go_wp2_with fail
      obtain ⟨w1, hw1⟩ : ∃ w1, w1 = wr.alloc (.cells #[.int .i64 raw[j].T, .int .i64 raw[j].ID, .int .i64 raw[j].V] 40) := ⟨_, rfl⟩
      rw [← hw1]
      have hx1 : w1.heap[wr.heap.size]? = some (.cells #[.int .i64 raw[j].T, .int .i64 raw[j].ID, .int .i64 raw[j].V] 40 (0, 0)) := by rw [hw1]; exact heap_alloc_new _ _
      have hb1 : Below wr.heap.size wr w1 := by rw [hw1]; exact Below.one _ _
      obtain ⟨⟨x0, x1, x2⟩, -⟩ := three_cells hx1
      have hbel1 := hbel.trans (hb1.mono hbel.size)
      have hown1 := own_below hown hb1
      clear hw1 e0 e1 e2 hx1 hb1 hown hbel
      generalize raw[j] = x at *
      by_cases hR : rightRow x
      · have HR := Lib.hid hR
        have t1 : decide (0 ≤ x.T) = true := by unfold rightRow at hR; simp; omega
        have t2 : decide (x.T < 1099511627776) = true := by unfold rightRow at hR; simp; omega
        have t3 : decide (0 ≤ x.ID) = true := by unfold rightRow at hR; simp; omega
        have t4 : decide (x.ID < 200) = true := by unfold rightRow at hR; simp; omega
        clear hR
        rcases Nat.eq_zero_or_pos acc.length with h0 | h0
        · obtain rfl : acc = [] := List.eq_nil_of_length_eq_zero h0
          clear h0
          go_quiet (fail)
          have hbq := below_drewN hbel1 nq
          have hoq := own_drewN (n' := nq) hown1
          go_wp2_with (at_builtin; go_must (refine wpList_append_elem rfl _ _ 37 rfl 40 (.agg #[.int .i64 0, .int .i64 0, .int .i64 0]) 3 24 Tryd.underlying37 rowInf rfl (by decide) w.heap.size _ _ _ _ (w1.drewN nq) #[.int .i64 x.T, .int .i64 x.ID, .int .i64 x.V] rfl (by intro u hu; simp at hu; rcases hu with rfl | rfl | rfl <;> rfl) hoq rfl hbq (by have := (hbq).size; omega) rfl (by unfold maxLen; omega) (by omega) ?_); intro v' w3 hown3 hgr3 hbel3 hsz3 hlt3 hnn3)
          go_roundw
          case rel =>
            obtain ⟨O', co', rfl⟩ := own_form hown3
            exact ⟨j + 1, [x], O', co', by go_num, by omega, good_one HR.out, by simp, by simp, by simpa [rowCells] using hown3, hbel3⟩
          case measure => simp [intOf]; omega
        · obtain ⟨m, hm⟩ : ∃ m, acc.length = m + 1 := ⟨acc.length - 1, by omega⟩
          obtain ⟨A', c', hv, hrd⟩ := Rd.of_own hown1
          obtain ⟨rfl, rfl⟩ : O = A' ∧ co = c' := by simpa using hv
          obtain ⟨b', off', rfl, hb', y0, y1, y2⟩ := row_at hrd (i := m) (by omega)
          have hmi : (acc.length : Int) - 1 = (m : Int) := by omega
          have hmw : IntKind.i64.wrap (m : Int) = (m : Int) := IntWalk.i64_in _ (by omega)
          have hml : (m : Int) < (acc.length : Int) := by omega
          have hz0 : ((acc.length : Int) == 0) = false := beq_eq_false_iff_ne.2 (by omega)
          have HS := Lib.hid (fun hb => good_snoc (x := x) HG.out HR.out hm hb)
          obtain ⟨y, hy⟩ : ∃ y, y = acc[m]'(by omega) := ⟨_, rfl⟩
          rw [← hy] at y0 y1 y2 HS
          have Hm := Lib.hid hm
          clear hm hrd hy hv h0
          rcases Bool.eq_false_or_eq_true (behindB x y) with hB | hB
          · have hB' : behindB ⟨x.T, x.ID, x.V⟩ ⟨y.T, y.ID, y.V⟩ = true := hB
            have HB := Lib.hid hB
            clear hB
            go_region_held3 (fun w' => w'.cell? ⟨wr.heap.size, 0, none⟩ = some (.int .i64 x.T) ∧ w'.cell? ⟨wr.heap.size, 1, none⟩ = some (.int .i64 x.ID) ∧ w'.cell? ⟨wr.heap.size, 2, none⟩ = some (.int .i64 x.V) ∧ w'.cell? ⟨b', off' + m * 3, none⟩ = some (.int .i64 y.T) ∧ w'.cell? ⟨b', off' + m * 3 + 1, none⟩ = some (.int .i64 y.ID) ∧ w'.cell? ⟨b', off' + m * 3 + 2, none⟩ = some (.int .i64 y.V))
              (first | go_keep | (go_split_ands; refine ⟨?_, ?_, ?_, ?_, ?_, ?_⟩ <;> (refine keepc hbp ?_; first | assumption | go_keep)))
              (first | (go_at_call 12; refine (rbehind_any _ _ _ _ _ _ _).mono ?_; rw [hB']; rintro e wp ⟨rfl, hbp⟩))
            have hb2 := hbp.drewl
            have hop := own_below hown1 hb2
            have hbp2 := hbel1.trans (hb2.mono hbel1.size)
            have x0' := keepc hb2 x0
            have x1' := keepc hb2 x1
            have x2' := keepc hb2 x2
            clear hbp hb2
            go_wp2_with (at_builtin; go_must (refine wpList_append_elem rfl _ _ 37 rfl 40 (.agg #[.int .i64 0, .int .i64 0, .int .i64 0]) 3 24 Tryd.underlying37 rowInf rfl (by decide) w.heap.size _ _ _ _ wp #[.int .i64 x.T, .int .i64 x.ID, .int .i64 x.V] rfl (by intro u hu; simp at hu; rcases hu with rfl | rfl | rfl <;> rfl) hop rfl hbp2 (by have := (hbp2).size; omega) rfl (by unfold maxLen; omega) (by omega) ?_); intro v' w3 hown3 hgr3 hbel3 hsz3 hlt3 hnn3)
            go_roundw
            case rel =>
              obtain ⟨O', co', rfl⟩ := own_form hown3
              exact ⟨j + 1, acc ++ [x], O', co', by go_num, by omega, HS.out HB.out, by simp; omega, by simp, by simpa [List.flatMap_append, rowCells] using hown3, hbel3⟩
            case measure => simp [intOf]; omega
          · have hB' : behindB ⟨x.T, x.ID, x.V⟩ ⟨y.T, y.ID, y.V⟩ = false := hB
            clear hB
            go_region_held3 (fun w' => w'.cell? ⟨wr.heap.size, 0, none⟩ = some (.int .i64 x.T) ∧ w'.cell? ⟨wr.heap.size, 1, none⟩ = some (.int .i64 x.ID) ∧ w'.cell? ⟨wr.heap.size, 2, none⟩ = some (.int .i64 x.V) ∧ w'.cell? ⟨b', off' + m * 3, none⟩ = some (.int .i64 y.T) ∧ w'.cell? ⟨b', off' + m * 3 + 1, none⟩ = some (.int .i64 y.ID) ∧ w'.cell? ⟨b', off' + m * 3 + 2, none⟩ = some (.int .i64 y.V))
              (first | go_keep | (go_split_ands; refine ⟨?_, ?_, ?_, ?_, ?_, ?_⟩ <;> (refine keepc hbp ?_; first | assumption | go_keep)))
              (first | (go_at_call 12; refine (rbehind_any _ _ _ _ _ _ _).mono ?_; rw [hB']; rintro e wp ⟨rfl, hbp⟩))
            have hb2 := hbp.drewl
            go_wp2_with fail
            go_roundw
            case rel => exact ⟨j + 1, acc, _, co, by go_num, by omega, HG.out, by omega, rfl, own_below hown1 hb2, hbel1.trans (hb2.mono hbel1.size)⟩
            case measure => simp [intOf]; omega
      · have hn : decide (0 ≤ x.T) = false ∨ (decide (0 ≤ x.T) = true ∧ decide (x.T < 1099511627776) = false) ∨ (decide (0 ≤ x.T) = true ∧ decide (x.T < 1099511627776) = true ∧ decide (0 ≤ x.ID) = false) ∨ (decide (0 ≤ x.T) = true ∧ decide (x.T < 1099511627776) = true ∧ decide (0 ≤ x.ID) = true ∧ decide (x.ID < 200) = false) := by
          unfold rightRow at hR
          simp only [decide_eq_false_iff_not, decide_eq_true_eq]
          omega
        clear hR
        rcases hn with h1 | ⟨h1, h2⟩ | ⟨h1, h2, h3⟩ | ⟨h1, h2, h3, h4⟩
        all_goals
          go_quiet (fail)
          go_wp2_with fail
          go_roundw
          case rel => exact ⟨j + 1, acc, O, co, by go_num, by omega, HG.out, by omega, rfl, hown1, below_drewN hbel1 _⟩
          case measure => simp [intOf]; omega
    · obtain rfl : j = raw.length := by omega
      obtain ⟨A', c', hv, hrd⟩ := Rd.of_own hown
      obtain ⟨rfl, rfl⟩ : O = A' ∧ co = c' := by simpa using hv
      have hal : acc.length ≤ 100 := by omega
      have HtR := Lib.hid (Ht.out.below hbel)
      have Hbel := Lib.hid hbel
      have Hrd := Lib.hid hrd
      have Hr1 := Lib.hid (hr1.below hbel)
      clear hown hr0 hr1 hrd hbel hv hlt hj
      obtain ⟨wz, rfl⟩ : ∃ z, z = wr := ⟨_, rfl⟩
      have g1 := cur_guard
      go_wp2_with fail
      go_loopw [11, 12] (fun out ix wl => ∃ (i m : Nat) (T ID : Int) (O2 : Option Addr) (co2 : Nat), ix = .int .i64 i ∧ i ≤ acc.length + 1 ∧ m ≤ acc.length ∧ (i ≤ m ∨ m = acc.length) ∧ curAt s acc m = ⟨s, T, ID⟩ ∧ out = .slice O2 m co2 ∧
          wl.ownsRow (wz.heap.size + 1) 40 3 (.slice O2 m co2) m ((acc.take m).flatMap rowCells) ∧ wl.heap[wz.heap.size]? = some (.cells #[.string s, .int .i64 T, .int .i64 ID] 23 (0, 0)) ∧ Below wz.heap.size wz wl) (fun _ ix _ => acc.length + 1 - (intOf ix).toNat)
      case atStart =>
        refine ⟨0, 0, 0, -1, _, 0, rfl, by omega, by omega, by omega, curAt_zero _ _, rfl, made0 _ _ _ _, ?_, below_two _ _ _⟩
        exact (Lib.alloc_old _ _ _ (by simp)).trans (heap_alloc_new wz _)
      case round =>
        obtain ⟨i, m, T, ID, O2, co2, rfl, hi, hm, him, hcur, rfl, hown, hk, hbel⟩ := hrel
        by_cases hil : i ≤ acc.length
        · have hR : rightB ⟨s, T, ID⟩ = true := by rw [← hcur]; exact curAt_right (by omega) HG.out hm
          obtain ⟨K, hK, hKl, hK12, hKs⟩ := token_text hR
          have E1 := Lib.hid (fun w ht => encode_ok ⟨s, T, ID⟩ w ht hR)
          have D := Lib.hid (fun w ht => decode_to K (some ⟨s, T, ID⟩) w ht hKs (by rw [hKl]; exact decOf_token hR))
          rw [← hK] at E1
          unfold decVal at D
          unfold curVal at E1 D
          obtain ⟨⟨c0, c1, c2⟩, -⟩ := three_cells hk
          have Hk := Lib.hid hk
          have Hcur := Lib.hid hcur
          have HtL := Lib.hid (HtR.out.below hbel)
          have Hown := Lib.hid hown
          have HbelL := Lib.hid hbel
          have Hr1' := Lib.hid (Hr1.out.below hbel)
          have Hrd' := Lib.hid (Hrd.out.below hbel)
          clear hR hK hKl hk hcur hown hbel
          by_cases hz : i < sizes.length
          · have hz' : (i : Int) < (sizes.length : Int) := by omega
            obtain ⟨bb, bo, hB, -, hcs⟩ := Hr1'.out.2 (by omega)
            have hci := hcs i _ (by simp [cellsOf, hz]; rfl)
            obtain ⟨k, hk1, hk5, hkv⟩ : ∃ k : Nat, 1 ≤ k ∧ k ≤ 5 ∧ (1 : Int) + (sizes[i].toNat : Int) % 5 = (k : Int) := ⟨1 + sizes[i].toNat % 5, by omega, by omega, by omega⟩
            have hx256 := sizes[i].toNat_lt
            generalize sizes[i].toNat = x at *
            subst hB
            clear hcs
            go_wp2_with fail

            clear hkv hci
            obtain ⟨P, hP⟩ : ∃ P, P = (acc.drop m).take k := ⟨_, rfl⟩
            have PG := Lib.hid (fun w hr => page_told O co acc P s T ID m k (k : Int) rfl HG.out hm Hcur.out hP w hr (by omega))
            have hPl : P.length = min k (acc.length - m) := by rw [hP, List.length_take, List.length_drop]
            have HT : Hid (acc.take m ++ P = acc.take (m + P.length)) := by
              rw [hP, told_next, ← hP, hPl]; congr 1; omega
            have HL : Hid (∀ (r : Nat) (hr : r < P.length), curAt s acc (m + (r + 1)) = ⟨s, P[r].T, P[r].ID⟩) := fun r hr => by
              rw [← Nat.add_assoc, curAt_some (by omega)]
              have : P[r] = acc[m + r]'(by omega) := by
                simp only [hP, List.getElem_take, List.getElem_drop]
              rw [this]
            clear hP
            refine (E1.out _ HtL.out).mono ?_
            rintro e w3 ⟨rfl, hb3⟩
            go_wp2_with fail
            refine (D.out _ (HtL.out.below hb3)).mono ?_
            rintro e w4 ⟨rfl, hb4⟩
            go_wp2_with fail
            with_reducible refine (PG.out _ (Hrd'.out.below ((hb3.then hb4).then (Below.one _ _)))).mono ?_
            rintro e w6 ⟨A6, c6, rfl, hown6, hb6⟩
            obtain ⟨pl, hpl⟩ : ∃ pl, pl = P.length := ⟨_, rfl⟩
            rw [← hpl] at hown6 hPl HT ⊢
            have hb36 := (hb3.then hb4).then hb6.allocl
            have hownG := own_below Hown.out hb36
            have hk6 := block_kept hb36 Hk.out
            have hap := own_apart Hown.out hown6 (by have := hb3.size; have := hb4.size; simp; omega)
            obtain ⟨A6', c6', hv6, hrd6⟩ := Rd.of_own hown6
            obtain ⟨rfl, rfl⟩ : A6 = A6' ∧ c6 = c6' := by simpa using hv6
            have hsz6 : wz.heap.size + 1 ≤ w6.heap.size := (Array.getElem?_eq_some_iff.1 hk6).1
            have Hne6 := Lib.hid (own_block_ne (b := wz.heap.size) hown6 (by have := hb3.size; have := hb4.size; have := (Array.getElem?_eq_some_iff.1 Hk.out).1; simp; omega))
            have Hk6 := Lib.hid hk6
            have Hap := Lib.hid hap
            have Hown6 := Lib.hid hown6
            have HbelW := Lib.hid (HbelL.out.trans (hb36.mono (HbelL.out.size)))
            have HPl := Lib.hid hPl
            have hone := row_one P
            clear hb3 hb4 hb6 hb36 hk6 hap hown6 hv6
            have hpb : pl ≤ 5 := by omega
            have hpm : m + pl ≤ acc.length := by omega
            rcases Nat.eq_zero_or_pos pl with hp0 | hp0
            · have hml0 : m = acc.length := by omega
              obtain ⟨ml, hml⟩ : ∃ ml, ml = m + pl := ⟨_, rfl⟩
              have Hml := Lib.hid hml
              have hq : decide ((ml : Int) < (acc.length : Int)) = false := decide_eq_false (by omega)
              have hd0 : decide ((0 : Int) < (pl : Int)) = false := decide_eq_false (by omega)
              have hd1 : ¬ 0 < pl := by omega
              have hqn : ¬ ml < acc.length := by omega
              have hmore : decide (m + k < acc.length) = false := decide_eq_false (by omega)
              have hmlm : ml = m := by omega
              have Hmlm := Lib.hid hmlm
              have hmlb : ml ≤ 100 := by omega
              have Hml0 := Lib.hid hml0
              have Hp0 := Lib.hid hp0
              clear hml hmlm hml0 hPl hp0 hpl
              rw [hmore]
              go_wp2_with (at_builtin; go_must (refine wpList_append_rd rfl _ _ 37 rfl 40 (.agg #[.int .i64 0, .int .i64 0, .int .i64 0]) 3 24 Tryd.underlying37 rowInf rfl (by decide) (wz.heap.size + 1) _ _ _ w6 _ hownG rfl (Below.refl _ _) hsz6 A6 pl c6 (P.flatMap rowCells) rfl hrd6 hone (by unfold maxLen; omega) (by omega) ?_); intro v' w7 hown7 hbel7 hsz7 hle7 hgr7; rw [← Hml.out] at hown7; obtain ⟨O7, c7, rfl⟩ := own_form hown7)
              go_roundw
              case rel =>
                refine ⟨i + 1, ml, T, ID, O7, c7, by go_num, by omega, by have := Hmlm.out; omega, .inr (by have := Hmlm.out; have := Hml0.out; omega), by rw [Hmlm.out]; exact Hcur.out, rfl, ?_, (hbel7.block _ (by omega)).trans Hk6.out, HbelW.out.trans (hbel7.mono (by omega))⟩
                rw [← List.flatMap_append, HT.out, ← Hml.out] at hown7
                exact hown7
              case measure => simp [intOf]; omega
            · obtain ⟨r, hr⟩ : ∃ r, pl = r + 1 := ⟨pl - 1, by omega⟩
              obtain ⟨ml, hml⟩ : ∃ ml, ml = m + pl := ⟨_, rfl⟩
              have Hml := Lib.hid hml
              have hd0 : decide ((0 : Int) < (pl : Int)) = true := decide_eq_true (by omega)
              have hd1 : 0 < pl := hp0
              have hri : (pl : Int) - 1 = (r : Int) := by omega
              have hrw : IntKind.i64.wrap (r : Int) = (r : Int) := IntWalk.i64_in _ (by omega)
              have hrl : (r : Int) < (pl : Int) := by omega
              have hrp : r < P.length := by omega
              have HLr := Lib.hid (HL.out r hrp)
              have hmlr : ml = m + (r + 1) := by omega
              have Hmlr := Lib.hid hmlr
              have hmlb : ml ≤ acc.length := by omega
              have hprog : i + 1 ≤ ml ∨ ml = acc.length := by omega
              have Hprog := Lib.hid hprog
              have hcase : (decide (m + k < acc.length) = true ∧ decide ((ml : Int) < (acc.length : Int)) = true ∧ ((pl : Int) != (k : Int)) = false ∧ ml < acc.length) ∨ (decide (m + k < acc.length) = false ∧ decide ((ml : Int) < (acc.length : Int)) = false ∧ ¬ ml < acc.length) := by
                by_cases hmk : m + k < acc.length
                · refine .inl ⟨decide_eq_true (by omega), decide_eq_true (by omega), ?_, by omega⟩
                  rw [bne_eq_false_iff_eq]; omega
                · exact .inr ⟨decide_eq_false (by omega), decide_eq_false (by omega), by omega⟩
              have Hr := Lib.hid hr
              clear hml hmlr hPl hprog hr hpl
              rcases hcase with ⟨hmore, hq, hne, hqn⟩ | ⟨hmore, hq, hqn⟩
              all_goals
                rw [hmore]
                go_wp2_with (at_builtin; go_must (refine wpList_append_rd rfl _ _ 37 rfl 40 (.agg #[.int .i64 0, .int .i64 0, .int .i64 0]) 3 24 Tryd.underlying37 rowInf rfl (by decide) (wz.heap.size + 1) _ _ _ w6 _ hownG rfl (Below.refl _ _) hsz6 A6 pl c6 (P.flatMap rowCells) rfl hrd6 hone (by unfold maxLen; omega) (by omega) ?_); intro v' w7 hown7 hbel7 hsz7 hle7 hgr7; rw [← Hml.out] at hown7; obtain ⟨O7, c7, rfl⟩ := own_form hown7; have hp7 := Hown6.out.kept hgr7 Hap.out; obtain ⟨A7, c7', hv7, hrd7⟩ := Rd.of_own hp7; obtain ⟨rfl, rfl⟩ : A6 = A7 ∧ c6 = c7' := (by simpa using hv7); obtain ⟨b7, off7, rfl, hb7, y0, y1, y2⟩ := row_at hrd7 (i := r) hrp; have hnb := Hne6.out b7 off7 rfl; have y1' := fun v => (cell_set_ne (w := w7) (j := 1) (v := v) hnb).trans y1; have hk7 := (hbel7.block _ (Nat.lt_succ_self _)).trans Hk6.out; obtain ⟨⟨p0, p1, p2⟩, f0, f1, f2⟩ := three_cells hk7; clear hp7 hv7 hrd7)
                go_roundw
                case rel =>
                  refine ⟨i + 1, ml, P[r].T, P[r].ID, O7, c7, by go_num, by omega, hmlb, Hprog.out, by rw [Hmlr.out]; exact HLr.out, rfl, own_set (own_set ?_ (by omega) _ _) (by omega) _ _, set_two hk7, ((HbelW.out.trans (hbel7.mono (by omega))).setCell (p := ⟨wz.heap.size, 1, none⟩) (Nat.le_refl _) _).setCell (p := ⟨wz.heap.size, 2, none⟩) (Nat.le_refl _) _⟩
                  rw [← List.flatMap_append, HT.out, ← Hml.out] at hown7
                  exact hown7
                case measure => simp [intOf]; omega
          · have hz' : decide ((i : Int) < (sizes.length : Int)) = false := by simp; omega
            obtain ⟨k, hk1, hk5, hke⟩ : ∃ k : Nat, 1 ≤ k ∧ k ≤ 5 ∧ k = 1 := ⟨1, by omega, by omega, rfl⟩
            have Hke := Lib.hid hke
            clear hke
            go_wp2_with fail
            obtain ⟨P, hP⟩ : ∃ P, P = (acc.drop m).take k := ⟨_, rfl⟩
            have PG := Lib.hid (fun w hr => page_told O co acc P s T ID m k (1 : Int) (by rw [Hke.out]; rfl) HG.out hm Hcur.out hP w hr (by omega))
            have hPl : P.length = min k (acc.length - m) := by rw [hP, List.length_take, List.length_drop]
            have HT : Hid (acc.take m ++ P = acc.take (m + P.length)) := by
              rw [hP, told_next, ← hP, hPl]; congr 1; omega
            have HL : Hid (∀ (r : Nat) (hr : r < P.length), curAt s acc (m + (r + 1)) = ⟨s, P[r].T, P[r].ID⟩) := fun r hr => by
              rw [← Nat.add_assoc, curAt_some (by omega)]
              have : P[r] = acc[m + r]'(by omega) := by
                simp only [hP, List.getElem_take, List.getElem_drop]
              rw [this]
            clear hP
            refine (E1.out _ HtL.out).mono ?_
            rintro e w3 ⟨rfl, hb3⟩
            go_wp2_with fail
            refine (D.out _ (HtL.out.below hb3)).mono ?_
            rintro e w4 ⟨rfl, hb4⟩
            go_wp2_with fail
            with_reducible refine (PG.out _ (Hrd'.out.below ((hb3.then hb4).then (Below.one _ _)))).mono ?_
            rintro e w6 ⟨A6, c6, rfl, hown6, hb6⟩
            obtain ⟨pl, hpl⟩ : ∃ pl, pl = P.length := ⟨_, rfl⟩
            rw [← hpl] at hown6 hPl HT ⊢
            have hb36 := (hb3.then hb4).then hb6.allocl
            have hownG := own_below Hown.out hb36
            have hk6 := block_kept hb36 Hk.out
            have hap := own_apart Hown.out hown6 (by have := hb3.size; have := hb4.size; simp; omega)
            obtain ⟨A6', c6', hv6, hrd6⟩ := Rd.of_own hown6
            obtain ⟨rfl, rfl⟩ : A6 = A6' ∧ c6 = c6' := by simpa using hv6
            have hsz6 : wz.heap.size + 1 ≤ w6.heap.size := (Array.getElem?_eq_some_iff.1 hk6).1
            have Hne6 := Lib.hid (own_block_ne (b := wz.heap.size) hown6 (by have := hb3.size; have := hb4.size; have := (Array.getElem?_eq_some_iff.1 Hk.out).1; simp; omega))
            have Hk6 := Lib.hid hk6
            have Hap := Lib.hid hap
            have Hown6 := Lib.hid hown6
            have HbelW := Lib.hid (HbelL.out.trans (hb36.mono (HbelL.out.size)))
            have HPl := Lib.hid hPl
            have hone := row_one P
            clear hb3 hb4 hb6 hb36 hk6 hap hown6 hv6
            have hpb : pl ≤ 5 := by omega
            have hpm : m + pl ≤ acc.length := by omega
            rcases Nat.eq_zero_or_pos pl with hp0 | hp0
            · have hml0 : m = acc.length := by omega
              obtain ⟨ml, hml⟩ : ∃ ml, ml = m + pl := ⟨_, rfl⟩
              have Hml := Lib.hid hml
              have hq : decide ((ml : Int) < (acc.length : Int)) = false := decide_eq_false (by omega)
              have hd0 : decide ((0 : Int) < (pl : Int)) = false := decide_eq_false (by omega)
              have hd1 : ¬ 0 < pl := by omega
              have hqn : ¬ ml < acc.length := by omega
              have hmore : decide (m + k < acc.length) = false := decide_eq_false (by omega)
              have hmlm : ml = m := by omega
              have Hmlm := Lib.hid hmlm
              have hmlb : ml ≤ 100 := by omega
              have Hml0 := Lib.hid hml0
              have Hp0 := Lib.hid hp0
              clear hml hmlm hml0 hPl hp0 hpl
              rw [hmore]
              go_wp2_with (at_builtin; go_must (refine wpList_append_rd rfl _ _ 37 rfl 40 (.agg #[.int .i64 0, .int .i64 0, .int .i64 0]) 3 24 Tryd.underlying37 rowInf rfl (by decide) (wz.heap.size + 1) _ _ _ w6 _ hownG rfl (Below.refl _ _) hsz6 A6 pl c6 (P.flatMap rowCells) rfl hrd6 hone (by unfold maxLen; omega) (by omega) ?_); intro v' w7 hown7 hbel7 hsz7 hle7 hgr7; rw [← Hml.out] at hown7; obtain ⟨O7, c7, rfl⟩ := own_form hown7)
              go_roundw
              case rel =>
                refine ⟨i + 1, ml, T, ID, O7, c7, by go_num, by omega, by have := Hmlm.out; omega, .inr (by have := Hmlm.out; have := Hml0.out; omega), by rw [Hmlm.out]; exact Hcur.out, rfl, ?_, (hbel7.block _ (by omega)).trans Hk6.out, HbelW.out.trans (hbel7.mono (by omega))⟩
                rw [← List.flatMap_append, HT.out, ← Hml.out] at hown7
                exact hown7
              case measure => simp [intOf]; omega
            · obtain ⟨r, hr⟩ : ∃ r, pl = r + 1 := ⟨pl - 1, by omega⟩
              obtain ⟨ml, hml⟩ : ∃ ml, ml = m + pl := ⟨_, rfl⟩
              have Hml := Lib.hid hml
              have hd0 : decide ((0 : Int) < (pl : Int)) = true := decide_eq_true (by omega)
              have hd1 : 0 < pl := hp0
              have hri : (pl : Int) - 1 = (r : Int) := by omega
              have hrw : IntKind.i64.wrap (r : Int) = (r : Int) := IntWalk.i64_in _ (by omega)
              have hrl : (r : Int) < (pl : Int) := by omega
              have hrp : r < P.length := by omega
              have HLr := Lib.hid (HL.out r hrp)
              have hmlr : ml = m + (r + 1) := by omega
              have Hmlr := Lib.hid hmlr
              have hmlb : ml ≤ acc.length := by omega
              have hprog : i + 1 ≤ ml ∨ ml = acc.length := by omega
              have Hprog := Lib.hid hprog
              have hcase : (decide (m + k < acc.length) = true ∧ decide ((ml : Int) < (acc.length : Int)) = true ∧ ((pl : Int) != 1) = false ∧ ml < acc.length) ∨ (decide (m + k < acc.length) = false ∧ decide ((ml : Int) < (acc.length : Int)) = false ∧ ¬ ml < acc.length) := by
                by_cases hmk : m + k < acc.length
                · refine .inl ⟨decide_eq_true (by omega), decide_eq_true (by omega), ?_, by omega⟩
                  rw [bne_eq_false_iff_eq]; have := Hke.out; omega
                · exact .inr ⟨decide_eq_false (by omega), decide_eq_false (by omega), by omega⟩
              have Hr := Lib.hid hr
              clear hml hmlr hPl hprog hr hpl
              rcases hcase with ⟨hmore, hq, hne, hqn⟩ | ⟨hmore, hq, hqn⟩
              all_goals
                rw [hmore]
                go_wp2_with (at_builtin; go_must (refine wpList_append_rd rfl _ _ 37 rfl 40 (.agg #[.int .i64 0, .int .i64 0, .int .i64 0]) 3 24 Tryd.underlying37 rowInf rfl (by decide) (wz.heap.size + 1) _ _ _ w6 _ hownG rfl (Below.refl _ _) hsz6 A6 pl c6 (P.flatMap rowCells) rfl hrd6 hone (by unfold maxLen; omega) (by omega) ?_); intro v' w7 hown7 hbel7 hsz7 hle7 hgr7; rw [← Hml.out] at hown7; obtain ⟨O7, c7, rfl⟩ := own_form hown7; have hp7 := Hown6.out.kept hgr7 Hap.out; obtain ⟨A7, c7', hv7, hrd7⟩ := Rd.of_own hp7; obtain ⟨rfl, rfl⟩ : A6 = A7 ∧ c6 = c7' := (by simpa using hv7); obtain ⟨b7, off7, rfl, hb7, y0, y1, y2⟩ := row_at hrd7 (i := r) hrp; have hnb := Hne6.out b7 off7 rfl; have y1' := fun v => (cell_set_ne (w := w7) (j := 1) (v := v) hnb).trans y1; have hk7 := (hbel7.block _ (Nat.lt_succ_self _)).trans Hk6.out; obtain ⟨⟨p0, p1, p2⟩, f0, f1, f2⟩ := three_cells hk7; clear hp7 hv7 hrd7)
                go_roundw
                case rel =>
                  refine ⟨i + 1, ml, P[r].T, P[r].ID, O7, c7, by go_num, by omega, hmlb, Hprog.out, by rw [Hmlr.out]; exact HLr.out, rfl, own_set (own_set ?_ (by omega) _ _) (by omega) _ _, set_two hk7, ((HbelW.out.trans (hbel7.mono (by omega))).setCell (p := ⟨wz.heap.size, 1, none⟩) (Nat.le_refl _) _).setCell (p := ⟨wz.heap.size, 2, none⟩) (Nat.le_refl _) _⟩
                  rw [← List.flatMap_append, HT.out, ← Hml.out] at hown7
                  exact hown7
                case measure => simp [intOf]; omega
        · have hml : m = acc.length := by omega
          subst hml
          have ha : acc.take acc.length = acc := List.take_length
          rw [ha] at hown
          have hni : decide ((i : Int) ≤ (acc.length : Int)) = false := by simp; omega
          have Hrd2 := Lib.hid (Hrd.out.below hbel)
          obtain ⟨A3, c3, hv3, hrd3⟩ := Rd.of_own hown
          obtain ⟨rfl, rfl⟩ : O2 = A3 ∧ co2 = c3 := by simpa using hv3
          have EQ := Lib.hid (equal_any O2 O co2 co acc acc _ hrd3 Hrd2.out (by omega))
          rw [rowsEq_self] at EQ
          have HbelE := Lib.hid (Hbel.out.trans (hbel.mono (Hbel.out.size)))
          clear hown hrd3 hv3 ha hk hcur hbel
          go_wp2_with fail
          refine EQ.out.mono ?_
          rintro e w8 ⟨rfl, hb8⟩
          go_wp2_with fail
          go_ret
          exact ⟨rfl, HbelE.out.then hb8⟩
end Go.Proofs.YtfhgjangeicbjaaDoor
