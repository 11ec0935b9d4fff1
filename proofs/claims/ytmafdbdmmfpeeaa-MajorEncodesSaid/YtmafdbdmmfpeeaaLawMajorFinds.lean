/-
  The walk of the law 'MajorFinds'.
-/
import Derived.Test.YtmafdbdmmfpeeaaRMajFind
import Derived.Test.YtmafdbdmmfpeeaaSame13
import Derived.BigQuiet
namespace Go.Proofs.Ytmafdbdmmfpeeaa
open Go Go.RowKit

def idsL (l : List UInt8) : List (Nat × List UInt8) := (tableR l).getD []
def idsE (l : List UInt8) : Nat := if tableR l = none then 11 else 0
/-- the numbers, and the error -/
def IdsV (s : ByteArray) (w : World) (e : Ending) (w' : World) : Prop :=
  ∃ A c, e = .returned (.tuple #[.slice A (idsL s.data.toList).length c, .int .i64 (idsE s.data.toList)]) ∧ Rd w' 1 A (idsL s.data.toList).length ((idsL s.data.toList).flatMap idCells) ∧ (idsL s.data.toList).length ≤ 200 ∧ Below w.heap.size w w'
theorem ids_v {s : ByteArray} {w : World} {e : Ending} {w' : World} (h : IdsPost s w.heap.size w e w') : IdsV s w e w' := by
  unfold IdsV idsL idsE
  rcases h with ⟨h, rfl, hb⟩ | ⟨ps, v, h, rfl, h1, hl, hb⟩
  · rw [h]; exact ⟨none, 0, rfl, Rd.nil _ _ _, by simp, hb⟩
  · obtain ⟨A, c, rfl⟩ := h1.form
    rw [h]; exact ⟨A, c, rfl, h1.rd, hl, hb⟩
theorem ids_u (s : ByteArray) (w : World) (hs : s.size ≤ 1000000) : Calls Try.prog 8 #[.string s] w (IdsV s w) := (ids_at s w.heap.size w rfl hs).mono fun _ _ h => ids_v h
theorem rids_u (s : ByteArray) (w : World) (hs : s.size ≤ 1000000) : Calls Try.prog 9 #[.string s] w (IdsV s w) := (rids_at s w.heap.size w rfl hs).mono fun _ _ h => ids_v h
theorem partV_len (c : List UInt8) : (partV c).1.length ≤ 5000 := by
  unfold partV partR
  have := (decL_ok c).2.2.1
  split
  · rename_i h; simp
  · rename_i x h
    split at h
    · simp only [Option.some.injEq] at h; subst h; exact this
    · cases h
theorem findT_len : ∀ (ps : List (Nat × List UInt8)) (id : Int), ((findT ps id).1.getD []).length ≤ 5000
  | [], _ => by simp [findT]
  | p :: ps, id => by
    unfold findT
    have := partV_len p.2
    unfold partV at this
    split
    · revert this
      cases partR p.2 <;> simp
    · exact findT_len ps id
theorem findV_len (l : List UInt8) (id : Int) : (findV l id).1.length ≤ 5000 := by
  unfold findV
  split
  · simp
  · exact findT_len _ _
theorem find_empty (id : Int) : findV [] id = ([], 11) := by
  unfold findV
  rw [show tableR [] = none by decide]

set_option linter.unusedSimpArgs false in
set_option maxRecDepth 100000 in
set_option maxHeartbeats 1000000 in
theorem majorFinds_walk (s : ByteArray) (id : Int) (_hs : s.size ≤ maxLen) (_h1 : -9223372036854775808 ≤ id) (_h2 : id ≤ 9223372036854775807) (w : World) :
    Calls Try.prog 3 #[.string s, .int .i64 id] w fun e w' => e = .returned (.bool true) ∧ Below w.heap.size w w' := by
  clear _h1 _h2
  by_cases h : 1024 < s.size
  · have hd : decide ((1024 : Int) < (s.size : Int)) = true := decide_eq_true (by omega)
    go_enter Try.func3, Try.ntmps3
    go_wp2_with fail
    go_ret
    exact ⟨rfl, Below.refl _ _⟩
  · have hd : decide ((1024 : Int) < (s.size : Int)) = false := decide_eq_false (by omega)
    have D1 := Lib.hid (ids_u s w (by omega))
    have D2 := Lib.hid (fun w => rids_u s w (by omega))
    have D3 := Lib.hid (fun w => find_any s id w (by omega))
    have D4 := Lib.hid (fun w => rfind_any s id w (by omega))
    have D5 := fun w => find_any (⟨#[]⟩ : ByteArray) 0 w (by decide)
    have hF := findV_len s.data.toList id
    simp only [show (⟨#[]⟩ : ByteArray).data.toList = [] from rfl, find_empty] at D5
    have HD5 := Lib.hid D5
    have D1' := D1.out
    have D2' := D2.out
    have D3' := D3.out
    have D4' := D4.out
    unfold IdsV at D1' D2'
    generalize findV s.data.toList id = v at *
    generalize idsL s.data.toList = ps at *
    generalize idsE s.data.toList = E at *
    obtain ⟨L, F⟩ := v
    unfold FindPost at D3' D4'
    simp only at D3' D4' hF
    obtain ⟨m, hm⟩ : ∃ m, L.length = m := ⟨_, rfl⟩
    obtain ⟨n, hn⟩ : ∃ n, ps.length = n := ⟨_, rfl⟩
    rw [hn] at D1' D2'
    rw [hm] at D3' D4'
    have H1 := Lib.hid D1'
    have H2 := Lib.hid D2'
    have H3 := Lib.hid D3'
    have H4 := Lib.hid D4'
    have HF := Lib.hid hF
    have Hm := Lib.hid hm
    have Hn := Lib.hid hn
    clear D1 D2 D3 D4 D5 D1' D2' D3' D4' hF hm hn h _hs
    go_enter Try.func3, Try.ntmps3
    go_wp2_with fail
    refine H1.out.mono ?_
    rintro e w1 ⟨A1, c1, rfl, hr1, hn2, hb1⟩
    have Hr1 := Lib.hid hr1
    have Hb1 := Lib.hid hb1
    clear hr1 hb1
    go_wp2_with fail
    refine (H2.out _).mono ?_
    rintro e w2 ⟨A2, c2, rfl, hr2, -, hb2⟩
    have Hr21 := Lib.hid (Hr1.out.below hb2)
    have Hr22 := Lib.hid hr2
    have Hb2 := Lib.hid (Hb1.out.trans (hb2.mono Hb1.out.size))
    clear hr2 hb2
    go_wp2_with fail
    refine (H3.out _).mono ?_
    rintro e w3 ⟨A3, c3, rfl, hr3, hb3⟩
    have Hr31 := Lib.hid (Hr21.out.below hb3)
    have Hr32 := Lib.hid (Hr22.out.below hb3)
    have Hr33 := Lib.hid hr3
    have Hb3 := Lib.hid (Hb2.out.trans (hb3.mono Hb2.out.size))
    clear hr3 hb3
    go_wp2_with fail
    refine (H4.out _).mono ?_
    rintro e w4 ⟨A4, c4, rfl, hr4, hb4⟩
    have Hr41 := Lib.hid (Hr31.out.below hb4)
    have Hr42 := Lib.hid (Hr32.out.below hb4)
    have Hr43 := Lib.hid (Hr33.out.below hb4)
    have Hr44 := Lib.hid hr4
    have Hb4 := Lib.hid (Hb3.out.trans (hb4.mono Hb3.out.size))
    clear hr4 hb4
    go_wp2_with fail
    refine (HD5.out _).mono ?_
    rintro e w5 ⟨A5, c5, rfl, -, hb5⟩
    have Hr51 := Lib.hid (Hr41.out.below hb5)
    have Hr52 := Lib.hid (Hr42.out.below hb5)
    have Hr53 := Lib.hid (Hr43.out.below hb5)
    have Hr54 := Lib.hid (Hr44.out.below hb5)
    have Hb5 := Lib.hid (Hb4.out.trans (hb5.mono Hb4.out.size))
    clear hb5 H1 H2 H3 H4 HD5 Hr1 Hr21 Hr22 Hr31 Hr32 Hr33 Hr41 Hr42 Hr43 Hr44 Hb1 Hb2 Hb3 Hb4
    have S1 := same13_any A3 A4 c3 c4 L L w5 (by rw [Hm.out]; exact Hr53.out) (by rw [Hm.out]; exact Hr54.out) (by have := HF.out; omega)
    rw [samesB_self, Hm.out] at S1
    have HS := Lib.hid S1
    clear S1
    go_wp2_with fail
    refine HS.out.mono ?_
    rintro e w6 ⟨rfl, hb6⟩
    have Hr61 := Lib.hid (Hr51.out.below hb6)
    have Hr62 := Lib.hid (Hr52.out.below hb6)
    have Hb6 := Lib.hid (Hb5.out.trans (hb6.mono Hb5.out.size))
    clear hb6 HS Hr51 Hr52 Hr53 Hr54 Hb5
    go_wp2_with fail
    go_loopw [15] (fun ix wr => ∃ (i m : Nat), ix = .int .i64 i ∧ i ≤ n ∧ wr = w6.drewN m) (fun ix _ => n - (intOf ix).toNat)
    case atStart => exact ⟨0, 0, rfl, by omega, rfl⟩
    case round =>
      obtain ⟨i, m, rfl, hi, rfl⟩ := hrel
      by_cases hlt : i < n
      · have hlp : i < ps.length := by have := Hn.out; omega
        obtain ⟨g1, o1, rfl, hg1, hf1⟩ := Hr61.out.elem idCells_length (by decide) hlp
        obtain ⟨g2, o2, rfl, hg2, hf2⟩ := Hr62.out.elem idCells_length (by decide) hlp
        have f1 := hf1 0 _ rfl
        have f2 := hf2 0 _ rfl
        simp only [Nat.mul_one, Nat.add_zero] at f1 f2
        have hk1 : (i : Int) < n := by omega
        generalize (ps[i]).1 = p at *
        clear hf1 hf2
        go_wp2_with fail
        go_quiet (fail)
        go_wp2_with fail
        go_roundw
        case rel => exact ⟨i + 1, _, by go_num, by omega, rfl⟩
        case measure => simp [intOf]; omega
      · obtain rfl : i = n := by omega
        go_wp2_with fail
        go_ret
        exact ⟨rfl, below_drewN Hb6.out _⟩
end Go.Proofs.Ytmafdbdmmfpeeaa
