/-
  The walks of the document's low, Code, Cost.
-/
import Derived.Test.YtjendmojkdkipaaRiceCost
import Derived.Test.YtjendmojkdkipaaAppend
namespace Go.Proofs.Ytjendmojkdkipaa
open Go Go.RowKit

theorem boolInf : (Try.prog.info? 4).map (fun i => (i.zero, i.size, i.bytes)) = some (some (.bool false), 1, 1) := by kernel_rfl

theorem boolCells_snoc (l : List Bool) (b : Bool) : boolCells (l ++ [b]) = boolCells l ++ [.bool b] := by simp [boolCells]
theorem boolCells_append (l m : List Bool) : boolCells (l ++ m) = boolCells l ++ boolCells m := by simp [boolCells]
theorem bit_at (n t : Nat) : (((n / 2 ^ t : Nat) : Int) % 2 == 1) = n.testBit t := by
  rw [Nat.testBit_eq_decide_div_mod_eq]
  by_cases h : n / 2 ^ t % 2 = 1
  · rw [decide_eq_true h, beq_iff_eq]; omega
  · rw [decide_eq_false h, beq_eq_false_iff_ne]; omega

/-- a call that answers bits, in a row of its own -/
def RetBits (l : List Bool) (w : World) (e : Ending) (w' : World) : Prop :=
  ∃ O c, e = .returned (.slice O l.length c) ∧ w'.ownsRow w.heap.size 4 1 (.slice O l.length c) l.length (boolCells l) ∧ Below w.heap.size w w'

set_option maxRecDepth 100000 in
set_option maxHeartbeats 1000000 in
theorem low_any (n b : Nat) (w : World) (hn : n < 18446744073709551616) (hb : b ≤ 64) :
    Calls Try.prog 51 #[.int .u64 n, .int .i64 b] w (RetBits (lowL n b) w) := by
  have hbi : (b : Int) ≤ 64 := by omega
  have Hn := Lib.hid hn
  clear hn
  go_enter Try.func51, Try.ntmps51
  go_wp2
  go_loopw [5, 6] (fun out ix wr => ∃ (j : Nat) (O : Option Addr) (c : Nat), ix = .int .i64 ((b : Int) - 1 - j) ∧ j ≤ b ∧ out = .slice O j c ∧
      wr.ownsRow w.heap.size 4 1 (.slice O j c) j (boolCells ((lowL n b).take j)) ∧ Below w.heap.size w wr) (fun _ ix _ => (intOf ix + 1).toNat)
  case atStart => exact ⟨0, _, 0, by go_num, by omega, rfl, made0' _ _ _, Below.one _ _⟩
  case round =>
    obtain ⟨j, O, c, rfl, hj, rfl, hown, hbel⟩ := hrel
    by_cases hlt : j < b
    · obtain ⟨t, ht⟩ : ∃ t : Nat, t = b - 1 - j := ⟨_, rfl⟩
      have hti : (b : Int) - 1 - j = (t : Int) := by omega
      have ht64 : (t : Int) < 64 := by omega
      have Hsn := Lib.hid (lowL_take (n := n) hlt)
      rw [← ht] at Hsn
      have hsh := shr_nat n t
      have hbit := bit_at n t
      generalize n.testBit t = bt at *
      generalize n / 2 ^ t = q at *
      have Ht := Lib.hid ht
      rw [hti]
      clear hti ht
      have hjb : (j : Int) < 64 := by omega
      go_wp2_with (at_builtin; go_must (refine wpList_append_elem rfl _ _ 73 rfl 4 (.bool false) 1 1 Try.underlying73 boolInf rfl (by decide) w.heap.size _ _ _ _ wr #[.bool bt] rfl (by intro u hu; simp at hu; subst hu; rfl) hown rfl hbel (by have := hbel.size; omega) rfl (by unfold maxLen; omega) (by omega) ?_); intro v' w3 hown3 hgr3 hbel3 hsz3 hlt3 hnn3)
      go_roundw
      case rel =>
        obtain ⟨O', c', rfl⟩ := own_form hown3
        have := Ht.out
        exact ⟨j + 1, O', c', by congr 1; omega, by omega, rfl, by rw [Hsn.out, boolCells_snoc]; exact hown3, hbel3⟩
      case measure => simp [intOf]
    · obtain rfl : j = b := by omega
      have ha : (lowL n j).take j = lowL n j := List.take_of_length_le (by rw [lowL_length]; exact Nat.le_refl _)
      rw [ha] at hown
      have hneg : decide ((0 : Int) ≤ (j : Int) - 1 - j) = false := decide_eq_false (by omega)
      have hneg2 : ((j : Int) - 1 - j) = -1 := by omega
      clear ha
      go_wp2_with fail
      go_ret
      refine ⟨O, c, by rw [lowL_length]; rfl, by rw [lowL_length]; exact hown, hbel⟩

theorem bool_one (l : List Bool) : ∀ u ∈ boolCells l, u.oneCell' = true := by
  intro u hu
  obtain ⟨b, _, rfl⟩ := List.mem_map.1 hu
  rfl
theorem rep_snoc (j : Nat) : List.replicate (j + 1) true = List.replicate j true ++ [true] := List.replicate_succ'
theorem code_big {n k : Nat} (h : ¬ n / 2 ^ k < 24) : codeL n k = List.replicate 24 true ++ lowL n 64 := by unfold codeL; rw [if_pos (by omega)]
theorem code_small {n k : Nat} (h : n / 2 ^ k < 24) : codeL n k = List.replicate (n / 2 ^ k) true ++ [false] ++ lowL n k := by unfold codeL; rw [if_neg (by omega)]

set_option maxRecDepth 100000 in
set_option maxHeartbeats 1000000 in
theorem code_any (n k : Nat) (w : World) (hn : n < 18446744073709551616) (hk : k ≤ 40) :
    Calls Try.prog 40 #[.int .u64 n, .int .i64 k] w (RetBits (codeL n k) w) := by
  have hki : (k : Int) ≤ 40 := by omega
  have L1 := Lib.hid (fun w => low_any n 64 w hn (by omega))
  have L2 := Lib.hid (fun w => low_any n k w hn (by omega))
  have hsh := shr_nat n k
  clear hn
  by_cases hq : n / 2 ^ k < 24
  · have Hq := Lib.hid (code_small hq)
    generalize n / 2 ^ k = q at *
    have hqi : (q : Int) < 24 := by omega
    go_enter Try.func40, Try.ntmps40
    go_wp2_with fail
    go_loopw [5, 8] (fun out ix wr => ∃ (j : Nat) (O : Option Addr) (c : Nat), ix = .int .u64 j ∧ j ≤ q ∧ out = .slice O j c ∧
        wr.ownsRow w.heap.size 4 1 (.slice O j c) j (boolCells (List.replicate j true)) ∧ Below w.heap.size w wr) (fun _ ix _ => q - (intOf ix).toNat)
    case atStart => exact ⟨0, _, 0, rfl, by omega, rfl, made0' _ _ _, Below.one _ _⟩
    case round =>
      obtain ⟨j, O, c, rfl, hj, rfl, hown, hbel⟩ := hrel
      by_cases hlt : j < q
      · have Hsn := Lib.hid (rep_snoc j)
        go_wp2_with (at_builtin; go_must (refine wpList_append_elem rfl _ _ 73 rfl 4 (.bool false) 1 1 Try.underlying73 boolInf rfl (by decide) w.heap.size _ _ _ _ wr #[.bool true] rfl (by intro u hu; simp at hu; subst hu; rfl) hown rfl hbel (by have := hbel.size; omega) rfl (by unfold maxLen; omega) (by omega) ?_); intro v' w3 hown3 hgr3 hbel3 hsz3 hlt3 hnn3)
        go_roundw
        case rel =>
          obtain ⟨O', c', rfl⟩ := own_form hown3
          exact ⟨j + 1, O', c', by go_num, by omega, rfl, by rw [Hsn.out, boolCells_snoc]; exact hown3, hbel3⟩
        case measure => simp [intOf]; omega
      · obtain rfl : j = q := by omega
        go_wp2_with (at_builtin; go_must (refine wpList_append_elem rfl _ _ 73 rfl 4 (.bool false) 1 1 Try.underlying73 boolInf rfl (by decide) w.heap.size _ _ _ _ wr #[.bool false] rfl (by intro u hu; simp at hu; subst hu; rfl) hown rfl hbel (by have := hbel.size; omega) rfl (by unfold maxLen; omega) (by omega) ?_); intro v' w3 hown3 hgr3 hbel3 hsz3 hlt3 hnn3)
        obtain ⟨O3, c3, rfl⟩ := own_form hown3
        go_wp2_with fail
        refine (L2.out _).mono ?_
        rintro e w4 ⟨A2, c2, rfl, hown4, hb4⟩
        obtain ⟨A2', c2', hv, hrd2⟩ := Rd.of_own hown4
        obtain ⟨rfl, rfl⟩ : A2 = A2' ∧ c2 = c2' := by simpa using hv
        have ho3 := own_below hown3 hb4
        have hb34 := hbel3.trans (hb4.mono hbel3.size)
        go_wp2_with (at_builtin; go_must (refine wpList_append_rd rfl _ _ 73 rfl 4 (.bool false) 1 1 Try.underlying73 boolInf rfl (by decide) w.heap.size _ _ _ w _ ho3 rfl hb34 (by have := (hb34).size; omega) A2 (lowL n k).length c2 (boolCells (lowL n k)) rfl hrd2 (bool_one _) (by rw [lowL_length]; unfold maxLen; omega) (by rw [lowL_length]; omega) ?_); intro v' w5 hown5 hbel5 hsz5 hle5 hgr5)
        obtain ⟨O5, c5, rfl⟩ := own_form hown5
        go_ret
        have e : (codeL n k).length = j + 1 + (lowL n k).length := by rw [Hq.out]; simp; omega
        refine ⟨O5, c5, by rw [e]; rfl, ?_, hbel5⟩
        rw [e, Hq.out, boolCells_append, boolCells_append]
        simpa [boolCells] using hown5
  · have Hq := Lib.hid (code_big hq)
    generalize n / 2 ^ k = q at *
    have hq' : decide ((24 : Int) ≤ (q : Int)) = true := decide_eq_true (by omega)
    go_enter Try.func40, Try.ntmps40
    go_wp2_with fail
    go_loopw [5, 7] (fun out ix wr => ∃ (j : Nat) (O : Option Addr) (c : Nat), ix = .int .i64 j ∧ j ≤ 24 ∧ out = .slice O j c ∧
        wr.ownsRow w.heap.size 4 1 (.slice O j c) j (boolCells (List.replicate j true)) ∧ Below w.heap.size w wr) (fun _ ix _ => 24 - (intOf ix).toNat)
    case atStart => exact ⟨0, _, 0, rfl, by omega, rfl, made0' _ _ _, Below.one _ _⟩
    case round =>
      obtain ⟨j, O, c, rfl, hj, rfl, hown, hbel⟩ := hrel
      by_cases hlt : j < 24
      · have Hsn := Lib.hid (rep_snoc j)
        go_wp2_with (at_builtin; go_must (refine wpList_append_elem rfl _ _ 73 rfl 4 (.bool false) 1 1 Try.underlying73 boolInf rfl (by decide) w.heap.size _ _ _ _ wr #[.bool true] rfl (by intro u hu; simp at hu; subst hu; rfl) hown rfl hbel (by have := hbel.size; omega) rfl (by unfold maxLen; omega) (by omega) ?_); intro v' w3 hown3 hgr3 hbel3 hsz3 hlt3 hnn3)
        go_roundw
        case rel =>
          obtain ⟨O', c', rfl⟩ := own_form hown3
          exact ⟨j + 1, O', c', by go_num, by omega, rfl, by rw [Hsn.out, boolCells_snoc]; exact hown3, hbel3⟩
        case measure => simp [intOf]; omega
      · obtain rfl : j = 24 := by omega
        go_wp2_with fail
        refine (L1.out _).mono ?_
        rintro e w4 ⟨A2, c2, rfl, hown4, hb4⟩
        obtain ⟨A2', c2', hv, hrd2⟩ := Rd.of_own hown4
        obtain ⟨rfl, rfl⟩ : A2 = A2' ∧ c2 = c2' := by simpa using hv
        have ho3 := own_below hown hb4
        have hb34 := hbel.trans (hb4.mono hbel.size)
        go_wp2_with (at_builtin; go_must (refine wpList_append_rd rfl _ _ 73 rfl 4 (.bool false) 1 1 Try.underlying73 boolInf rfl (by decide) w.heap.size _ _ _ w _ ho3 rfl hb34 (by have := (hb34).size; omega) A2 (lowL n 64).length c2 (boolCells (lowL n 64)) rfl hrd2 (bool_one _) (by rw [lowL_length]; unfold maxLen; omega) (by rw [lowL_length]; omega) ?_); intro v' w5 hown5 hbel5 hsz5 hle5 hgr5)
        obtain ⟨O5, c5, rfl⟩ := own_form hown5
        go_ret
        have e : (codeL n k).length = 24 + (lowL n 64).length := by rw [Hq.out, List.length_append, List.length_replicate]
        refine ⟨O5, c5, by rw [e]; rfl, ?_, hbel5⟩
        rw [e, Hq.out, boolCells_append]
        exact hown5

set_option maxRecDepth 100000 in
set_option maxHeartbeats 1000000 in
theorem rcost_in (A : Option Addr) (c : Nat) (l : List Nat) (k : Nat) (w : World) (hr : Rd w 1 A l.length (u64Cells l)) (hl : l.length ≤ 5000) (hk : k ≤ 40) (hx : ∀ x ∈ l, x < 18446744073709551616) :
    Calls Try.prog 39 #[.slice A l.length c, .int .i64 k] w fun e w' => e = .returned (.int .i64 (costN l k)) ∧ Below w.heap.size w w' := by
  have hk1 : decide ((k : Int) < 0) = false := decide_eq_false (by omega)
  have hk2 : decide ((40 : Int) < (k : Int)) = false := decide_eq_false (by omega)
  have Hx := Lib.hid hx
  have C := Lib.hid (fun n w hn => code_any n k w hn hk)
  clear hx
  go_enter Try.func39, Try.ntmps39
  go_wp2
  go_loopw [5, 6] (fun n i wr => ∃ j : Nat, i = .int .i64 j ∧ j ≤ l.length ∧ n = .int .i64 (costN (l.take j) k : Nat) ∧ Below w.heap.size w wr) (fun _ i _ => l.length - (intOf i).toNat)
  case atStart => exact ⟨0, rfl, by omega, rfl, Below.refl _ _⟩
  case round =>
    obtain ⟨j, rfl, hj, rfl, hbel⟩ := hrel
    by_cases hlt : j < l.length
    · obtain ⟨b, off, rfl, hb, e0⟩ := u64_at (hr.below hbel) hlt
      have hsn := costN_snoc (l.take j) l[j] k
      rw [← nat_take hlt] at hsn
      have Hsn := Lib.hid hsn
      have hcn := costN_le hk (l.take j)
      have hxj := Lib.hid (Hx.out _ (List.getElem_mem hlt))
      rw [List.length_take] at hcn
      have hcb : costN (l.take j) k ≤ 440000 := by omega
      have hlen := codeL_length l[j] k
      have hco := costOne_le (n := l[j]) hk
      generalize costN (l.take j) k = n at *
      have Cx := Lib.hid (fun w => C.out l[j] w hxj.out)
      generalize l[j] = x at *
      go_wp2_with fail
      refine (Cx.out _).mono ?_
      rintro e w1 ⟨O, co, rfl, hown, hb1⟩
      rw [hlen]
      clear hlen hcn hown
      generalize costOne x k = y at *
      go_wp2_with fail
      go_roundw
      case rel => exact ⟨j + 1, by go_num, by omega, by rw [Hsn.out]; go_num, hbel.then hb1⟩
      case measure => simp [intOf]; omega
    · obtain rfl : j = l.length := by omega
      rw [List.take_length]
      go_wp2_with fail
      go_ret
      exact ⟨rfl, hbel⟩

theorem rcost_any (A : Option Addr) (c : Nat) (l : List Nat) (k : Int) (w : World) (hr : Rd w 1 A l.length (u64Cells l)) (hl : l.length ≤ 5000) (hx : ∀ x ∈ l, x < 18446744073709551616) :
    Calls Try.prog 39 #[.slice A l.length c, .int .i64 k] w fun e w' => e = .returned (.int .i64 (costZ l k)) ∧ Below w.heap.size w w' := by
  by_cases hk : 0 ≤ k ∧ k ≤ 40
  · have h := rcost_in A c l k.toNat w hr hl (by omega) hx
    have e : costZ l k = costN l k.toNat := by unfold costZ; rw [if_neg (by omega)]
    rw [show ((k.toNat : Nat) : Int) = k by omega] at h
    rw [e]; exact h
  · have e : costZ l k = 0 := by unfold costZ; rw [if_pos (by omega)]
    rw [e]
    have hk' : k < 0 ∨ (decide (k < 0) = false ∧ decide (40 < k) = true) := by
      by_cases h : k < 0
      · exact .inl h
      · exact .inr ⟨decide_eq_false h, decide_eq_true (by omega)⟩
    clear hk e
    rcases hk' with hk | ⟨hk, hk2⟩
    all_goals
      go_enter Try.func39, Try.ntmps39
      go_wp2_with fail
      go_ret
      exact ⟨rfl, Below.refl _ _⟩
end Go.Proofs.Ytjendmojkdkipaa
