/-
  The walk of the law 'FrameBack'.
-/
import Derived.Test.YtgfchhbekbmlcaaDoorLawFrameJ
import Derived.Test.YtgfchhbekbmlcaaDoorLawFrameC
namespace Go.Proofs.YtgfchhbekbmlcaaDoor
open Go Go.RowKit Go.Deep Go.ChangeShapes Go.WideShapes

/-- where the first k frames end -/
def endAt (ts : List (List UInt8)) (k : Nat) : Nat := ((ts.take k).flatMap frame).length
def endList (ts : List (List UInt8)) (k : Nat) : List Value := (List.range (k + 1)).map fun j => .int .i64 (endAt ts j : Nat)
theorem endList_length (ts : List (List UInt8)) (k : Nat) : (endList ts k).length = k + 1 := by simp [endList]
theorem endList_succ (ts : List (List UInt8)) (k : Nat) : endList ts (k + 1) = endList ts k ++ [.int .i64 (endAt ts (k + 1) : Nat)] := by
  rw [endList, List.range_succ, List.map_append]; rfl
theorem endAt_zero (ts : List (List UInt8)) : endAt ts 0 = 0 := by simp [endAt]
theorem endAt_succ (ts : List (List UInt8)) (k : Nat) (h : k < ts.length) : endAt ts (k + 1) = endAt ts k + (frame ts[k]).length := by
  rw [endAt, List.take_succ_eq_append_getElem h, List.flatMap_append, List.flatMap_singleton, List.length_append]; rfl

/-- a cut of frames in a row holds those that are whole -/
theorem cut_scanned {ts : List (List UInt8)} {m k : Nat} (hm : m ≤ ts.length) (h1 : endAt ts m ≤ k) (h2 : m < ts.length → k < endAt ts (m + 1)) (hs : ∀ t ∈ ts, t.length < 1099511627776) :
    Scanned ((ts.flatMap frame).take k) (ts.take m) := by
  have e : ts.flatMap frame = (ts.take m).flatMap frame ++ (ts.drop m).flatMap frame := by rw [← List.flatMap_append, List.take_append_drop]
  refine ⟨((ts.drop m).flatMap frame).take (k - endAt ts m), ?_, ?_⟩
  · rw [e, List.take_append, List.take_of_length_le (by exact h1)]; rfl
  · intro t r' h
    by_cases hml : m < ts.length
    · have h3 := h2 hml
      rw [endAt_succ ts m hml] at h3
      rw [List.drop_eq_getElem_cons hml, List.flatMap_cons, List.take_append_of_le_length (by omega)] at h
      -- a beginning of a frame that is a frame is the whole
      have hle := congrArg List.length h
      rw [List.length_take, List.length_append] at hle
      have hfe : frame ts[m] = frame t ++ (r' ++ (frame ts[m]).drop (k - endAt ts m)) := by
        rw [← List.append_assoc, ← h, List.take_append_drop]
      have h4 : frame ts[m] ++ [] = frame t ++ (r' ++ (frame ts[m]).drop (k - endAt ts m)) := by rw [List.append_nil]; exact hfe
      have hlt : t.length < 18446744073709551616 := by
        have := frame_len_pos t
        have h5 := hs ts[m] (List.getElem_mem hml)
        have h6 := uint_len_ten (n := ts[m].length) (by omega)
        have h7 : (frame ts[m]).length = (uint ts[m].length).length + ts[m].length + 2 := by simp [frame, text, sumBytes]; omega
        omega
      obtain ⟨_, h5⟩ := frame_append_inj (by have := hs ts[m] (List.getElem_mem hml); omega) hlt h4
      have h6 := congrArg List.length h5
      rw [List.length_nil, List.length_append, List.length_drop] at h6
      omega
    · rw [List.drop_of_length_le (by omega)] at h
      have := congrArg List.length h
      have h2 := frame_len_pos t
      rw [List.flatMap_nil, List.take_nil, List.length_nil, List.length_append] at this
      omega

theorem le_total : ∀ (ts : List (List UInt8)) t, t ∈ ts → t.length ≤ total ts := by
  intro ts
  induction ts with
  | nil => intro t h; cases h
  | cons a ts ih =>
    intro t h
    have e : total (a :: ts) = a.length + total ts := by simp [total]
    rcases List.mem_cons.1 h with rfl | h
    · omega
    · have := ih t h; omega

theorem str_take {w : World} {A : Option Addr} {ts : List (List UInt8)} (h : Rd w 1 A ts.length (strCells ts)) {m : Nat} (hm : m ≤ ts.length) : Rd w 1 A (ts.take m).length (strCells (ts.take m)) := by
  refine ⟨by rw [strCells_length, Nat.mul_one], fun h0 => ?_⟩
  obtain ⟨b, off, e, hb, hc⟩ := h.2 (by rw [List.length_take] at h0; omega)
  refine ⟨b, off, e, hb, fun j u hu => hc j u ?_⟩
  rw [strCells, List.map_take, List.getElem?_take] at hu
  split at hu
  · exact hu
  · cases hu

theorem intInf : (Tryd.prog.info? 3).map (fun i => (i.zero, i.size, i.bytes)) = some (some (.int .i64 0), 1, 8) := by kernel_rfl

set_option maxRecDepth 100000 in
set_option maxHeartbeats 1000000 in
theorem frameBack_walk (v : Value) (cut : Int) (w : World) (hv : ∃ A c, ∃ ts : List (List UInt8), v = .slice A ts.length c ∧ Rd w 1 A ts.length (strCells ts) ∧ (∀ x ∈ ts, x.length ≤ maxLen) ∧ ts.length ≤ c ∧ c ≤ maxLen) (_h0 : -9223372036854775808 ≤ cut) (_h1 : cut ≤ 9223372036854775807) (ht : Tab w) :
    Calls Tryd.prog 6 #[v, .int .i64 cut] w fun e w' => e = .returned (.bool true) ∧ Below w.heap.size w w' := by
  have Ht := Lib.hid ht
  clear ht
  obtain ⟨A, ca, ts, rfl, hrd, _, hlc, hcm⟩ := hv
  have Hrd := Lib.hid hrd
  have C := Lib.hid (long_any A ca ts w hrd (Nat.le_trans hlc hcm))
  have Hlc := Lib.hid (And.intro hlc hcm)
  clear hrd hlc hcm
  go_enter Tryd.func6, Tryd.ntmps6
  go_wp2_with fail
  refine C.out.mono ?_
  rintro e w1 ⟨b, rfl, hb1, hlen⟩
  cases b with
  | true =>
    go_wp2
    go_ret
    exact ⟨rfl, hb1⟩
  | false =>
    have hlen := hlen rfl
    have F := Lib.hid (fun k (hk : k < ts.length) w ht => frame_any (S ts[k]) w ht (by
      have h1 := total_take_le ts (k + 1)
      rw [List.take_succ_eq_append_getElem hk, total_snoc] at h1
      rw [S_size]; omega))
    have hfl : ∀ k, (S ((ts.take k).flatMap frame)).size ≤ 26624 := by
      intro k
      have h1 := total_take_le ts k
      have h2 := frames_len (ts.take k) (by omega)
      rw [List.length_take] at h2
      rw [S_size]; omega
    have Ht1 := Lib.hid (Ht.out.below hb1)
    have Hrd1 := Lib.hid (Hrd.out.below hb1)
    have C0 := Lib.hid (fun w ht => frame_any ⟨#[]⟩ w ht (by decide))
    have hf3 := frame_nil_len
    go_wp2_with fail
    go_loopw [5, 6, 7] (fun acc en i wr => ∃ (k : Nat) (O : Option Addr) (co : Nat), acc = .string (S ((ts.take k).flatMap frame)) ∧ en = .slice O (k + 1) co ∧ i = .int .i64 k ∧ k ≤ ts.length ∧ wr.ownsRow w1.heap.size 3 1 (.slice O (k + 1) co) (k + 1) (endList ts k) ∧ Below w1.heap.size w1 wr) (fun _ _ i _ => ts.length - (intOf i).toNat)
    case atStart => exact ⟨0, _, 1, by simp [S], rfl, rfl, by omega, World.ownsRow_lit _ #[.int .i64 0] 1 (Nat.le_refl _) (by decide) rfl, Below.one _ _⟩
    case round =>
      obtain ⟨k, O, co, rfl, rfl, rfl, hk, hown, hbel⟩ := hrel
      by_cases hkl : k < ts.length
      · obtain ⟨b, off, rfl, hba, e0⟩ := str_at (Hrd1.out.below hbel) hkl
        have hf0 := hfl k
        have hf1 := hfl (k + 1)
        have happ : S ((ts.take (k + 1)).flatMap frame) = S ((ts.take k).flatMap frame) ++ S (frame ts[k]) := by
          rw [S_append, List.take_succ_eq_append_getElem hkl, List.flatMap_append, List.flatMap_singleton]
        have hend : ((S ((ts.take k).flatMap frame)).size : Int) + ((S (frame ts[k])).size : Int) = (endAt ts (k + 1) : Nat) := by
          rw [endAt_succ ts k hkl, S_size, S_size, endAt]; omega
        rw [happ, ByteArray.size_append] at hf1
        have G := Lib.hid (F.out k hkl)
        rw [S_toList] at G
        have Happ := Lib.hid happ
        have Hfl := Lib.hid hfl
        have Hend := Lib.hid hend
        clear happ hfl hend
        go_wp2_with fail
        refine (G.out _ (Ht1.out.below hbel)).mono ?_
        rintro e w2 ⟨rfl, hb2⟩
        have hbel2 := hbel.trans (hb2.mono hbel.size)
        have hown2 := own_below hown hb2
        go_wp2_with (at_builtin; go_must (refine wpList_append_elem rfl _ _ 31 rfl 3 (.int .i64 0) 1 8 Tryd.underlying31 intInf rfl (by decide) w1.heap.size _ _ _ _ w2 _ rfl (by intro u hu; simp at hu; subst hu; rfl) hown2 rfl hbel2 hbel2.size rfl (by unfold maxLen; omega) (by omega) ?_); intro v' w3 hown3 hgr3 hbel3 hsz3 hlt3 hnn3)
        go_roundw
        case rel =>
          obtain ⟨O', co', rfl⟩ := own_form hown3
          refine ⟨k + 1, O', co', by rw [Happ.out], rfl, by go_num, by omega, ?_, hbel3⟩
          rw [endList_succ, ← Hend.out]
          exact hown3
        case measure => simp [intOf]; omega
      · have hk' : k = ts.length := by omega
        subst hk'
        have hf0 := hfl ts.length
        rw [List.take_length] at hf0 ⊢
        have hs1 : Scanned (ts.flatMap frame) ts := ⟨[], by simp, noframe_nil⟩
        obtain ⟨f, hf⟩ : ∃ f, f = S (ts.flatMap frame) := ⟨_, rfl⟩
        have hflen : (ts.flatMap frame).length = f.size := by rw [hf, S_size]
        rw [← hf] at hf0 ⊢
        have D1 := Lib.hid (fun w ht => scan_any f w ht (by omega))
        have hfd : f.data.toList = ts.flatMap frame := by rw [hf, S_toList]
        rw [hfd] at D1
        have Hf := Lib.hid hf
        have Hfd := Lib.hid hfd
        have Hs1 := Lib.hid hs1
        have Hflen := Lib.hid hflen
        have Hfl := Lib.hid hfl
        have Hown := Lib.hid hown
        clear hf hfd hs1 hflen hfl hown
        go_wp2_with fail
        refine (D1.out _ (Ht1.out.below hbel)).mono ?_
        rintro e w2 ⟨A1, c1, ts1, rfl, hsc1, rd1, hb2⟩
        have heq : ts1 = ts := scanned_inj _ _ _ (by rw [Hflen.out]; omega) hsc1 Hs1.out
        subst heq
        rw [Hflen.out]
        have hbel2 := hbel.then hb2
        have Sm1 := Lib.hid (same_any A1 A c1 ca ts1 ts1 w2 rd1 (Hrd1.out.below hbel2) (by omega))
        clear rd1 hsc1
        go_wp2_with fail
        refine Sm1.out.mono ?_
        rintro e w3 ⟨rfl, hb3⟩
        first | rw [decide_eq_true rfl] | rw [decide_true]
        have hbel3 := hbel2.then hb3
        go_wp2_with fail
        refine (C0.out _ (Ht1.out.below hbel3)).mono ?_
        rintro e w4 ⟨rfl, hb4⟩
        have hbel4 := hbel3.then hb4
        obtain ⟨M, hM⟩ : ∃ M : Nat, (wrap64 (wrap64 (cut.tmod (f.size + 1) + f.size) + 1)).tmod (f.size + 1) = (M : Int) ∧ M < f.size + 1 := by
          have h2 := Int.lt_tmod_of_pos cut (b := (f.size : Int) + 1) (by omega)
          have h3 := Int.tmod_lt_of_pos cut (b := (f.size : Int) + 1) (by omega)
          have e1 : wrap64 (cut.tmod (f.size + 1) + f.size) = cut.tmod (f.size + 1) + f.size := by unfold wrap64; omega
          rw [e1]
          have e2 : wrap64 (cut.tmod (f.size + 1) + f.size + 1) = cut.tmod (f.size + 1) + f.size + 1 := by unfold wrap64; omega
          rw [e2]
          have h4 := Int.tmod_nonneg (a := cut.tmod ((f.size : Int) + 1) + f.size + 1) ((f.size : Int) + 1) (by omega)
          have h5 := Int.tmod_lt_of_pos (cut.tmod ((f.size : Int) + 1) + f.size + 1) (b := (f.size : Int) + 1) (by omega)
          exact ⟨((cut.tmod ((f.size : Int) + 1) + f.size + 1).tmod ((f.size : Int) + 1)).toNat, by omega, by omega⟩
        obtain ⟨O', co', hO, rdE⟩ := Rd.of_own Hown.out
        obtain ⟨rfl, rfl⟩ : O = O' ∧ co = co' := by simpa using hO
        have hE : ∃ b off, O = some ⟨b, off, none⟩ ∧ b < wr.heap.size ∧ ∀ j, j ≤ ts1.length → wr.cell? ⟨b, off + j, none⟩ = some (.int .i64 (endAt ts1 j : Nat)) := by
          obtain ⟨b, off, e, hb, hc⟩ := rdE.2 (by omega)
          exact ⟨b, off, e, hb, fun j hj => hc j _ (by rw [endList, List.getElem?_map, List.getElem?_range (by omega)]; rfl)⟩
        obtain ⟨eb, eo, rfl, hel, hec⟩ := hE
        have hb24 := (hb2.then hb3).then hb4
        have Hec := Lib.hid fun W (h : Below w4.heap.size w4 W) j (hj : j ≤ ts1.length) => ((hb24.then h).cell (p := ⟨eb, eo + j, none⟩) hel).trans (hec j hj)
        clear hec rdE hO
        have hsm : ∀ t ∈ ts1, t.length < 1099511627776 := by
          intro t ht
          have h1 := le_total ts1 t ht
          omega
        have Hsm := Lib.hid hsm
        clear hsm
        go_wp2_with fail
        go_loopw [11] (fun i wx => ∃ m : Nat, i = .int .i64 m ∧ m ≤ ts1.length ∧ endAt ts1 m ≤ M ∧ Below w4.heap.size w4 wx) (fun i _ => ts1.length - (intOf i).toNat)
        case atStart => exact ⟨0, rfl, by omega, by rw [endAt_zero]; omega, Below.refl _ _⟩
        case round =>
          obtain ⟨m, rfl, hm, hme, hbx⟩ := hrel
          by_cases hml : m < ts1.length
          · have hec := Hec.out _ hbx (m + 1) (by omega)
            have hcast : ((m : Int) + 1).toNat = m + 1 := by omega
            have hcap : (ts1.length : Int) + 1 ≤ 4096 := by omega
            by_cases hle : endAt ts1 (m + 1) ≤ M
            · go_wp2_with fail
              go_roundw
              case rel => exact ⟨m + 1, by go_num, by omega, hle, hbx⟩
              case measure => simp [intOf]; omega
            · have hnext : m < ts1.length → M < endAt ts1 (m + 1) := fun _ => by omega
              have hsc := cut_scanned hm hme hnext Hsm.out
              have hfm : (f.extract 0 M).data.toList = (ts1.flatMap frame).take M := by rw [Lib.extract_data, Hfd.out, List.drop_zero, Nat.sub_zero]
              rw [← hfm] at hsc
              have D2 := scan_any (f.extract 0 M) wr ((Ht1.out.below hbel4).below hbx) (by rw [ByteArray.size_extract]; omega)
              have D2s : (f.extract 0 M).data.toList.length < 18446744073709551616 := by rw [← Lib.size_eq, ByteArray.size_extract]; omega
              go_wp2_with fail
              refine D2.mono ?_
              rintro e w5 ⟨A2, c2, ts2, rfl, hsc2, rd2, hb5⟩
              have heq2 : ts2 = ts1.take m := scanned_inj _ _ _ D2s hsc2 hsc
              have hl2 : ts2.length = m := by rw [heq2, List.length_take]; omega
              have hN : (ts2.flatMap frame).length = endAt ts1 m := by rw [heq2]; rfl
              rw [hl2, hN]
              rw [hl2] at rd2
              have hec2 := Hec.out _ (hbx.then hb5) m hm
              have hcap2 := Hlc.out.1
              have hcap3 : ca ≤ 9223372036854775807 := Hlc.out.2
              have hmc : (m : Int) ≤ (ca : Int) := by omega
              have hlm : (ts1.take m).length = m := by rw [List.length_take]; omega
              have Sm2 := same_any A2 A c2 ca (ts1.take m) (ts1.take m) w5 (by rw [hlm, ← heq2]; exact rd2) (str_take (Hrd1.out.below (hbel4.then (hbx.then hb5))) hm) (by omega)
              rw [hlm] at Sm2
              have Sm3 := Lib.hid Sm2
              clear Sm2 hlm heq2 hl2 hN hsc2 hsc hfm D2s rd2
              go_wp2_with fail
              refine Sm3.out.mono ?_
              rintro e w6 ⟨rfl, hb6⟩
              first | rw [decide_eq_true rfl] | rw [decide_true]
              go_wp2_with fail
              go_ret
              exact ⟨rfl, hb1.then (hbel4.then (hbx.then (hb5.then hb6)))⟩
          · have hnext : m < ts1.length → M < endAt ts1 (m + 1) := fun h => absurd h hml
            have hsc := cut_scanned hm hme hnext Hsm.out
            have hfm : (f.extract 0 M).data.toList = (ts1.flatMap frame).take M := by rw [Lib.extract_data, Hfd.out, List.drop_zero, Nat.sub_zero]
            rw [← hfm] at hsc
            have D2 := scan_any (f.extract 0 M) wr ((Ht1.out.below hbel4).below hbx) (by rw [ByteArray.size_extract]; omega)
            have D2s : (f.extract 0 M).data.toList.length < 18446744073709551616 := by rw [← Lib.size_eq, ByteArray.size_extract]; omega
            go_wp2_with fail
            refine D2.mono ?_
            rintro e w5 ⟨A2, c2, ts2, rfl, hsc2, rd2, hb5⟩
            have heq2 : ts2 = ts1.take m := scanned_inj _ _ _ D2s hsc2 hsc
            have hl2 : ts2.length = m := by rw [heq2, List.length_take]; omega
            have hN : (ts2.flatMap frame).length = endAt ts1 m := by rw [heq2]; rfl
            rw [hl2, hN]
            rw [hl2] at rd2
            have hec2 := Hec.out _ (hbx.then hb5) m hm
            have hcap2 := Hlc.out.1
            have hcap3 : ca ≤ 9223372036854775807 := Hlc.out.2
            have hmc : (m : Int) ≤ (ca : Int) := by omega
            have hlm : (ts1.take m).length = m := by rw [List.length_take]; omega
            have Sm2 := same_any A2 A c2 ca (ts1.take m) (ts1.take m) w5 (by rw [hlm, ← heq2]; exact rd2) (str_take (Hrd1.out.below (hbel4.then (hbx.then hb5))) hm) (by omega)
            rw [hlm] at Sm2
            have Sm3 := Lib.hid Sm2
            clear Sm2 hlm heq2 hl2 hN hsc2 hsc hfm D2s rd2
            go_wp2_with fail
            refine Sm3.out.mono ?_
            rintro e w6 ⟨rfl, hb6⟩
            first | rw [decide_eq_true rfl] | rw [decide_true]
            go_wp2_with fail
            go_ret
            exact ⟨rfl, hb1.then (hbel4.then (hbx.then (hb5.then hb6)))⟩
end Go.Proofs.YtgfchhbekbmlcaaDoor
