/-
  The document's number of a file's name.
-/
import Derived.Test.YtbheoahpaidpmaaDoorManNumP
import Derived.Test.YtbheoahpaidpmaaDoorPackD
namespace Go.Proofs.YtbheoahpaidpmaaDoor
open Go Go.RowKit

set_option linter.unusedSimpArgs false in
set_option maxRecDepth 100000 in
set_option maxHeartbeats 4000000 in
theorem rnumber_any (s : ByteArray) (w : World) (hs : s.size ≤ 1000000000) :
    Calls Tryd.prog 24 #[.string s] w fun e w' => e = .returned (.int .i64 (numF s.data.toList)) ∧ w = w' := by
  have hlen : s.data.toList.length = s.size := (Lib.size_eq s).symm
  by_cases h2 : s.size < 2
  · have hF := Lib.hid (numF_len (l := s.data.toList) (.inl (by omega)))
    have t1 : decide ((s.size : Int) < 2) = true := decide_eq_true (by omega)
    have t2 : decide (s.size < 2) = true := decide_eq_true h2
    clear h2 hlen
    go_enter Tryd.func24, Tryd.ntmps24
    go_wp2_with fail
    go_ret
    exact ⟨by rw [hF.out]; rfl, rfl⟩
  have t1 : decide ((s.size : Int) < 2) = false := decide_eq_false (by omega)
  have t2 : decide (s.size < 2) = false := decide_eq_false h2
  by_cases h15 : 15 < s.size
  · have hF := Lib.hid (numF_len (l := s.data.toList) (.inr (by omega)))
    have t3 : decide ((15 : Int) < (s.size : Int)) = true := decide_eq_true (by omega)
    have t4 : decide (15 < s.size) = true := decide_eq_true h15
    clear h2 h15 hlen
    go_enter Tryd.func24, Tryd.ntmps24
    go_wp2_with fail
    go_ret
    exact ⟨by rw [hF.out]; rfl, rfl⟩
  have t3 : decide ((15 : Int) < (s.size : Int)) = false := decide_eq_false (by omega)
  have t4 : decide (15 < s.size) = false := decide_eq_false h15
  have h0 : 0 < s.size := by omega
  have hget0 : s.data.toList.head? = some s[0] := by
    rw [List.head?_eq_getElem?, List.getElem?_eq_getElem (by omega)]; rfl
  have hcl := (s[0]).toNat_lt
  by_cases h102 : s[0] = 102
  · have hb : s[0].toNat = 102 := by rw [h102]; rfl
    have t5 : ((s[0].toNat : Int) != 102) = false := by rw [hb]; rfl
    have t6 : ((s[0].toNat) != 102) = false := by rw [hb]; rfl
    obtain ⟨n, hn⟩ : ∃ n, s.size = n := ⟨_, rfl⟩
    have Hn := Lib.hid hn
    have HL := Lib.hid hlen
    have H102 := Lib.hid h102
    clear hget0 hlen h102 hb hcl
    go_enter Tryd.func24, Tryd.ntmps24
    go_wp2_with fail
    obtain ⟨q, hq⟩ : ∃ q, s.data.toList.tail = q := ⟨_, rfl⟩
    have hql : q.length + 1 = n := by rw [← hq, List.length_tail, HL.out, Hn.out]; omega
    have Hq := Lib.hid hq
    have Hql := Lib.hid hql
    clear hq hql
    go_loopw [3, 4] (fun nv iv wr => ∃ i : Nat, iv = .int .i64 ((i : Int) + 1) ∧ nv = .int .i64 (numD (q.take i) : Nat) ∧ i + 1 ≤ n ∧ (∀ b ∈ q.take i, b.toNat ≤ 57) ∧ w = wr) (fun _ iv _ => n - (intOf iv).toNat)
    case atStart => exact ⟨0, rfl, rfl, by omega, by simp, rfl⟩
    case round =>
      obtain ⟨i, rfl, rfl, hi, hall, rfl⟩ := hrel
      obtain ⟨N, hN⟩ : ∃ N, numD (q.take i) = N := ⟨_, rfl⟩
      have hNb : N < 10 ^ 13 ∨ n ≤ i + 1 := by
        by_cases hc : n ≤ i + 1
        · exact .inr hc
        · refine .inl ?_
          have h1 := numD_lt hall
          rw [hN] at h1
          refine Nat.lt_of_lt_of_le h1 (Nat.pow_le_pow_right (by decide) ?_)
          rw [List.length_take]
          omega
      have HN := Lib.hid hN
      have Hall := Lib.hid hall
      rw [hN]
      by_cases hlt : i + 1 < n
      · have hlt' : i + 1 < s.size := by omega
        have hN13 : N < 10 ^ 13 := by
          rcases hNb with h | h
          · exact h
          · omega
        have hgi : s.data.toList[i + 1]? = some s[i + 1] := by
          rw [List.getElem?_eq_getElem (by rw [HL.out]; exact hlt')]; rfl
        have hqi : q[i]? = some s[i + 1] := by rw [← Hq.out, List.getElem?_tail]; exact hgi
        have htk : q.take (i + 1) = q.take i ++ [s[i + 1]] := by
          rw [List.take_add_one, hqi]; rfl
        have k1 : (i : Int) + 1 < n := by omega
        have a1 : IntKind.i64.wrap ((i : Int) + 1 + 1) = (i : Int) + 1 + 1 := by rw [IntKind.wrap_i64]; omega
        obtain ⟨b, hb⟩ : ∃ b, s[i + 1].toNat = b := ⟨_, rfl⟩
        have hb256 : b < 256 := by rw [← hb]; exact (s[i + 1]).toNat_lt
        have Hb := Lib.hid hb
        have Htk := Lib.hid htk
        have Hgi := Lib.hid hgi
        by_cases c1 : b < 48
        · have hF := Lib.hid (numF_digit hgi (by omega) (.inl (by rw [hb]; exact c1)))
          have u1 : decide (b < 48) = true := decide_eq_true c1
          have u2 : decide ((b : Int) < 48) = true := decide_eq_true (by omega)
          clear hgi hqi htk hN hNb hN13 hall
          go_wp2_with fail
          go_ret
          exact ⟨by rw [hF.out]; rfl, rfl⟩
        have u1 : decide (b < 48) = false := decide_eq_false c1
        have u2 : decide ((b : Int) < 48) = false := decide_eq_false (by omega)
        by_cases c2 : 57 < b
        · have hF := Lib.hid (numF_digit hgi (by omega) (.inr (by rw [hb]; exact c2)))
          have u3 : decide (57 < b) = true := decide_eq_true c2
          have u4 : decide ((57 : Int) < (b : Int)) = true := decide_eq_true (by omega)
          clear hgi hqi htk hN hNb hN13 hall
          go_wp2_with fail
          go_ret
          exact ⟨by rw [hF.out]; rfl, rfl⟩
        have u3 : decide (57 < b) = false := decide_eq_false c2
        have u4 : decide ((57 : Int) < (b : Int)) = false := decide_eq_false (by omega)
        have m1 : IntKind.i64.wrap ((N : Int) * 10) = (N : Int) * 10 := by rw [IntKind.wrap_i64]; omega
        have m2 : IntKind.u8.wrap ((b : Int) - 48) = (b : Int) - 48 := by rw [IntKind.wrap_u8]; omega
        have m3 : IntKind.i64.wrap ((N : Int) * 10 + ((b : Int) - 48)) = (N : Int) * 10 + ((b : Int) - 48) := by rw [IntKind.wrap_i64]; omega
        have HNext := Lib.hid (show ((N : Int) * 10 + ((b : Int) - 48)) = ((numD (q.take (i + 1)) : Nat) : Int) by rw [htk, numD_snoc, hN, hb]; omega)
        have HAll := Lib.hid (show ∀ x ∈ q.take (i + 1), x.toNat ≤ 57 by
          rw [htk]
          intro x hx
          rcases List.mem_append.1 hx with hx | hx
          · exact hall x hx
          · rw [List.mem_singleton] at hx; subst hx; omega)
        clear hgi hqi htk hN hNb hN13 hall c1 c2
        go_wp2_with fail
        go_roundw
        case rel => exact ⟨i + 1, by push_cast; rfl, by rw [← HNext.out], by omega, HAll.out, trivial⟩
        case measure => simp [intOf]; omega
      · have hin : i + 1 = n := by omega
        have hqq : q.take i = q := List.take_of_length_le (by have := Hql.out; omega)
        rw [hqq] at hN hall
        have hN14 : N < 100000000000000 := by
          have h1 := numD_lt hall
          rw [hN] at h1
          refine Nat.lt_of_lt_of_le h1 (Nat.le_trans (Nat.pow_le_pow_right (by decide) (show q.length ≤ 14 by have := Hql.out; omega)) (by decide))
        have HFI := Lib.hid (fun w => rfile_any N (by omega) w)
        have k1 : ¬ ((i : Int) + 1 < n) := by omega
        by_cases hfe : s.data.toList = fileB N
        · have hF := Lib.hid (show numF s.data.toList = N by unfold numF; rw [Hq.out, hN, if_pos ⟨hfe, hN14⟩])
          have hcmp : ((S (fileB N)).toList == s.toList) = true := by rw [Lib.toList_data, Lib.toList_data, S_toList, hfe]; simp
          clear hfe hN hall hN14 hNb hqq HN Hall
          go_wp2_with fail
          refine (HFI.out _).mono ?_
          rintro e w4 ⟨rfl, rfl⟩
          go_wp2_with fail
          go_ret
          exact ⟨by rw [hF.out]; rfl, rfl⟩
        · have hF := Lib.hid (show numF s.data.toList = -1 by unfold numF; rw [Hq.out, hN, if_neg (fun h => hfe h.1)])
          have hcmp : ((S (fileB N)).toList == s.toList) = false := by
            rw [Lib.toList_data, Lib.toList_data, S_toList]
            exact beq_eq_false_iff_ne.2 fun e => hfe e.symm
          clear hfe hN hall hN14 hNb hqq HN Hall
          go_wp2_with fail
          refine (HFI.out _).mono ?_
          rintro e w4 ⟨rfl, rfl⟩
          go_wp2_with fail
          go_ret
          exact ⟨by rw [hF.out]; rfl, rfl⟩
  · have hF := Lib.hid (numF_head (l := s.data.toList) (fun x hx => by rw [hget0] at hx; cases hx; exact h102))
    have hb : s[0].toNat ≠ 102 := fun e => h102 (UInt8.toNat_inj.1 (by rw [e]; rfl))
    have t5 : ((s[0].toNat : Int) != 102) = true := by simp; omega
    have t6 : ((s[0].toNat) != 102) = true := by simp; omega
    clear hget0 hlen h102 hb
    go_enter Tryd.func24, Tryd.ntmps24
    go_wp2_with fail
    go_ret
    exact ⟨by rw [hF.out]; rfl, rfl⟩
end Go.Proofs.YtbheoahpaidpmaaDoor
