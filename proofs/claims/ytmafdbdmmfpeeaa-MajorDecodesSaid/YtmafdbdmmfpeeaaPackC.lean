/-
  What the walks of this claim stand on: RicePlain, RiceCost, RiceCode, RiceBest, one behind the other.
-/
import Derived.Test.YtmafdbdmmfpeeaaPackB
import Derived.Test.YtmafdbdmmfpeeaaPackA
/-! RicePlain -/
namespace Go.Proofs.Ytmafdbdmmfpeeaa
open Go Go.RowKit

/-- the low bits of a number, the highest one first -/
def lowL (n b : Nat) : List Bool := (List.range b).map fun i => n.testBit (b - 1 - i)
theorem lowL_length (n b : Nat) : (lowL n b).length = b := by simp [lowL]
theorem lowL_take {n b j : Nat} (h : j < b) : (lowL n b).take (j + 1) = (lowL n b).take j ++ [n.testBit (b - 1 - j)] := by
  have hl : j < (lowL n b).length := by rw [lowL_length]; exact h
  rw [List.take_succ_eq_append_getElem hl]
  simp [lowL]

/-- the code of a number -/
def codeL (n k : Nat) : List Bool := if 24 ≤ n / 2 ^ k then List.replicate 24 true ++ lowL n 64 else List.replicate (n / 2 ^ k) true ++ [false] ++ lowL n k
def costOne (n k : Nat) : Nat := if n / 2 ^ k < 24 then n / 2 ^ k + 1 + k else 88
theorem codeL_length (n k : Nat) : (codeL n k).length = costOne n k := by
  unfold codeL costOne
  split <;> split <;> simp [lowL_length] <;> omega
theorem costOne_le {n k : Nat} (hk : k ≤ 40) : costOne n k ≤ 88 := by unfold costOne; split <;> omega
theorem costOne_big {n k : Nat} (h : ¬ n / 2 ^ k < 24) : costOne n k = 88 := by unfold costOne; rw [if_neg h]
theorem costOne_small {n k : Nat} (h : n / 2 ^ k < 24) : costOne n k = n / 2 ^ k + 1 + k := by unfold costOne; rw [if_pos h]

def costN (l : List Nat) (k : Nat) : Nat := (l.map fun x => costOne x k).sum
theorem costN_snoc (l : List Nat) (x k : Nat) : costN (l ++ [x]) k = costN l k + costOne x k := by simp [costN]
theorem costN_le {k : Nat} (hk : k ≤ 40) : ∀ l : List Nat, costN l k ≤ 88 * l.length := by
  intro l
  induction l with
  | nil => simp [costN]
  | cons x l ih =>
    have := costOne_le (n := x) hk
    simp [costN] at ih ⊢; omega
/-- what numbers cost with any k -/
def costZ (l : List Nat) (k : Int) : Nat := if k < 0 ∨ 40 < k then 0 else costN l k.toNat

/-- the best k of those up to one -/
def bestN (l : List Nat) : Nat → Nat
  | 0 => 0
  | j + 1 => if costN l (j + 1) < costN l (bestN l j) then j + 1 else bestN l j
theorem bestN_le (l : List Nat) : ∀ j, bestN l j ≤ j := by
  intro j
  induction j with
  | zero => simp [bestN]
  | succ j ih => simp only [bestN]; split <;> omega
theorem bestN_least (l : List Nat) : ∀ j i, i ≤ j → costN l (bestN l j) ≤ costN l i ∧ (i < bestN l j → costN l (bestN l j) < costN l i) := by
  intro j
  induction j with
  | zero => intro i hi; obtain rfl : i = 0 := by omega
            simp [bestN]
  | succ j ih =>
    intro i hi
    have hle := bestN_le l j
    simp only [bestN]
    by_cases hc : costN l (j + 1) < costN l (bestN l j)
    · rw [if_pos hc]
      by_cases hij : i = j + 1
      · subst hij; exact ⟨Nat.le_refl _, fun h => absurd h (by omega)⟩
      · have := (ih i (by omega)).1
        exact ⟨by omega, fun _ => by omega⟩
    · rw [if_neg hc]
      by_cases hij : i = j + 1
      · subst hij; exact ⟨by omega, fun h => by omega⟩
      · exact ih i (by omega)

theorem shr_nat (x k : Nat) : (x : Int) / 2 ^ k = ((x / 2 ^ k : Nat) : Int) := by norm_cast

def u64Cells (l : List Nat) : List Value := l.map fun (x : Nat) => .int .u64 (x : Int)
def boolCells (l : List Bool) : List Value := l.map Value.bool
theorem u64_at {w : World} {A : Option Addr} {l : List Nat} (h : Rd w 1 A l.length (u64Cells l)) {i : Nat} (hi : i < l.length) :
    ∃ b off, A = some ⟨b, off, none⟩ ∧ b < w.heap.size ∧ w.cell? ⟨b, off + i, none⟩ = some (.int .u64 (l[i] : Int)) := by
  obtain ⟨b, off, e, hb, hc⟩ := h.2 (by omega)
  exact ⟨b, off, e, hb, hc i _ (by simp [u64Cells, hi])⟩
theorem nat_take {l : List Nat} {i : Nat} (hi : i < l.length) : l.take (i + 1) = l.take i ++ [l[i]] := by
  rw [List.take_succ_eq_append_getElem hi]
end Go.Proofs.Ytmafdbdmmfpeeaa

/-! RiceCost -/
namespace Go.Proofs.Ytmafdbdmmfpeeaa
open Go Go.RowKit

set_option maxRecDepth 100000 in
set_option maxHeartbeats 1000000 in
theorem cost_in (A : Option Addr) (c : Nat) (l : List Nat) (k : Nat) (w : World) (hr : Rd w 1 A l.length (u64Cells l)) (hl : l.length ≤ 5000) (hk : k ≤ 40) (hx : ∀ x ∈ l, x < 18446744073709551616) :
    Calls Try.prog 60 #[.slice A l.length c, .int .i64 k] w fun e w' => e = .returned (.int .i64 (costN l k)) ∧ Below w.heap.size w w' := by
  have hk1 : decide ((k : Int) < 0) = false := decide_eq_false (by omega)
  have hk2 : decide ((40 : Int) < (k : Int)) = false := decide_eq_false (by omega)
  have hki : (k : Int) ≤ 40 := by omega
  have Hx := Lib.hid hx
  clear hx
  go_enter Try.func60, Try.ntmps60
  go_wp2
  go_loopw [5, 17] (fun n i wr => ∃ j : Nat, i = .int .i64 j ∧ j ≤ l.length ∧ n = .int .i64 (costN (l.take j) k : Nat) ∧ Below w.heap.size w wr) (fun _ i _ => l.length - (intOf i).toNat)
  case atStart => exact ⟨0, rfl, by omega, rfl, Below.refl _ _⟩
  case round =>
    obtain ⟨j, rfl, hj, rfl, hbel⟩ := hrel
    by_cases hlt : j < l.length
    · obtain ⟨b, off, rfl, hb, e0⟩ := u64_at (hr.below hbel) hlt
      have hsn := costN_snoc (l.take j) l[j] k
      rw [← nat_take hlt] at hsn
      have Hsn := Lib.hid hsn
      have hcn := costN_le hk (l.take j)
      have hxj := Hx.out _ (List.getElem_mem hlt)
      rw [List.length_take] at hcn
      have hcb : costN (l.take j) k ≤ 440000 := by omega
      generalize costN (l.take j) k = n at *
      generalize l[j] = x at *
      have hqi := shr_nat x k
      by_cases hq : x / 2 ^ k < 24
      · have Hq := Lib.hid (costOne_small hq)
        generalize x / 2 ^ k = q at *
        go_wp2_with fail
        go_roundw
        case rel => exact ⟨j + 1, by go_num, by omega, by rw [Hsn.out, Hq.out]; go_num, hbel⟩
        case measure => simp [intOf]; omega
      · have Hq := Lib.hid (costOne_big hq)
        generalize x / 2 ^ k = q at *
        have hq' : decide ((q : Int) < 24) = false := decide_eq_false (by omega)
        go_wp2_with fail
        go_roundw
        case rel => exact ⟨j + 1, by go_num, by omega, by rw [Hsn.out, Hq.out]; go_num, hbel⟩
        case measure => simp [intOf]; omega
    · obtain rfl : j = l.length := by omega
      rw [List.take_length]
      go_wp2_with fail
      go_ret
      exact ⟨rfl, hbel⟩

theorem cost_any (A : Option Addr) (c : Nat) (l : List Nat) (k : Int) (w : World) (hr : Rd w 1 A l.length (u64Cells l)) (hl : l.length ≤ 5000) (hx : ∀ x ∈ l, x < 18446744073709551616) :
    Calls Try.prog 60 #[.slice A l.length c, .int .i64 k] w fun e w' => e = .returned (.int .i64 (costZ l k)) ∧ Below w.heap.size w w' := by
  by_cases hk : 0 ≤ k ∧ k ≤ 40
  · have h := cost_in A c l k.toNat w hr hl (by omega) hx
    have e : costZ l k = costN l k.toNat := by unfold costZ; rw [if_neg (by omega)]
    rw [show ((k.toNat : Nat) : Int) = k by omega] at h
    rw [e]; exact h
  · have e : costZ l k = 0 := by unfold costZ; rw [if_pos (by omega)]
    rw [e]
    have hk' : k < 0 ∨ (decide (k < 0) = false ∧ decide (40 < k) = true) := by
      by_cases h : k < 0
      · exact .inl h
      · exact .inr ⟨decide_eq_false h, decide_eq_true (by omega)⟩
    clear hk e
    rcases hk' with hk | ⟨hk, hk2⟩
    all_goals
      go_enter Try.func60, Try.ntmps60
      go_wp2_with fail
      go_ret
      exact ⟨rfl, Below.refl _ _⟩
end Go.Proofs.Ytmafdbdmmfpeeaa

/-! RiceCode -/
namespace Go.Proofs.Ytmafdbdmmfpeeaa
open Go Go.RowKit

theorem boolInf : (Try.prog.info? 4).map (fun i => (i.zero, i.size, i.bytes)) = some (some (.bool false), 1, 1) := by kernel_rfl

theorem boolCells_snoc (l : List Bool) (b : Bool) : boolCells (l ++ [b]) = boolCells l ++ [.bool b] := by simp [boolCells]
theorem boolCells_append (l m : List Bool) : boolCells (l ++ m) = boolCells l ++ boolCells m := by simp [boolCells]
theorem bit_at (n t : Nat) : (((n / 2 ^ t : Nat) : Int) % 2 == 1) = n.testBit t := by
  rw [Nat.testBit_eq_decide_div_mod_eq]
  by_cases h : n / 2 ^ t % 2 = 1
  · rw [decide_eq_true h, beq_iff_eq]; omega
  · rw [decide_eq_false h, beq_eq_false_iff_ne]; omega

/-- a call that answers bits, in a row of its own -/
def RetBits (l : List Bool) (w : World) (e : Ending) (w' : World) : Prop :=
  ∃ O c, e = .returned (.slice O l.length c) ∧ w'.ownsRow w.heap.size 4 1 (.slice O l.length c) l.length (boolCells l) ∧ Below w.heap.size w w'

set_option maxRecDepth 100000 in
set_option maxHeartbeats 1000000 in
theorem low_any (n b : Nat) (w : World) (hn : n < 18446744073709551616) (hb : b ≤ 64) :
    Calls Try.prog 73 #[.int .u64 n, .int .i64 b] w (RetBits (lowL n b) w) := by
  have hbi : (b : Int) ≤ 64 := by omega
  have Hn := Lib.hid hn
  clear hn
  go_enter Try.func73, Try.ntmps73
  go_wp2
  go_loopw [5, 6] (fun out ix wr => ∃ (j : Nat) (O : Option Addr) (c : Nat), ix = .int .i64 ((b : Int) - 1 - j) ∧ j ≤ b ∧ out = .slice O j c ∧
      wr.ownsRow w.heap.size 4 1 (.slice O j c) j (boolCells ((lowL n b).take j)) ∧ Below w.heap.size w wr) (fun _ ix _ => (intOf ix + 1).toNat)
  case atStart => exact ⟨0, _, 0, by go_num, by omega, rfl, made0' _ _ _, Below.one _ _⟩
  case round =>
    obtain ⟨j, O, c, rfl, hj, rfl, hown, hbel⟩ := hrel
    by_cases hlt : j < b
    · obtain ⟨t, ht⟩ : ∃ t : Nat, t = b - 1 - j := ⟨_, rfl⟩
      have hti : (b : Int) - 1 - j = (t : Int) := by omega
      have ht64 : (t : Int) < 64 := by omega
      have Hsn := Lib.hid (lowL_take (n := n) hlt)
      rw [← ht] at Hsn
      have hsh := shr_nat n t
      have hbit := bit_at n t
      generalize n.testBit t = bt at *
      generalize n / 2 ^ t = q at *
      have Ht := Lib.hid ht
      rw [hti]
      clear hti ht
      have hjb : (j : Int) < 64 := by omega
      go_wp2_with (at_builtin; go_must (refine wpList_append_elem rfl _ _ 111 rfl 4 (.bool false) 1 1 Try.underlying111 boolInf rfl (by decide) w.heap.size _ _ _ _ wr #[.bool bt] rfl (by intro u hu; simp at hu; subst hu; rfl) hown rfl hbel (by have := hbel.size; omega) rfl (by unfold maxLen; omega) (by omega) ?_); intro v' w3 hown3 hgr3 hbel3 hsz3 hlt3 hnn3)
      go_roundw
      case rel =>
        obtain ⟨O', c', rfl⟩ := own_form hown3
        have := Ht.out
        exact ⟨j + 1, O', c', by congr 1; omega, by omega, rfl, by rw [Hsn.out, boolCells_snoc]; exact hown3, hbel3⟩
      case measure => simp [intOf]
    · obtain rfl : j = b := by omega
      have ha : (lowL n j).take j = lowL n j := List.take_of_length_le (by rw [lowL_length]; exact Nat.le_refl _)
      rw [ha] at hown
      have hneg : decide ((0 : Int) ≤ (j : Int) - 1 - j) = false := decide_eq_false (by omega)
      have hneg2 : ((j : Int) - 1 - j) = -1 := by omega
      clear ha
      go_wp2_with fail
      go_ret
      refine ⟨O, c, by rw [lowL_length]; rfl, by rw [lowL_length]; exact hown, hbel⟩

theorem bool_one (l : List Bool) : ∀ u ∈ boolCells l, u.oneCell' = true := by
  intro u hu
  obtain ⟨b, _, rfl⟩ := List.mem_map.1 hu
  rfl
theorem rep_snoc (j : Nat) : List.replicate (j + 1) true = List.replicate j true ++ [true] := List.replicate_succ'
theorem code_big {n k : Nat} (h : ¬ n / 2 ^ k < 24) : codeL n k = List.replicate 24 true ++ lowL n 64 := by unfold codeL; rw [if_pos (by omega)]
theorem code_small {n k : Nat} (h : n / 2 ^ k < 24) : codeL n k = List.replicate (n / 2 ^ k) true ++ [false] ++ lowL n k := by unfold codeL; rw [if_neg (by omega)]

set_option maxRecDepth 100000 in
set_option maxHeartbeats 1000000 in
theorem code_any (n k : Nat) (w : World) (hn : n < 18446744073709551616) (hk : k ≤ 40) :
    Calls Try.prog 64 #[.int .u64 n, .int .i64 k] w (RetBits (codeL n k) w) := by
  have hki : (k : Int) ≤ 40 := by omega
  have L1 := Lib.hid (fun w => low_any n 64 w hn (by omega))
  have L2 := Lib.hid (fun w => low_any n k w hn (by omega))
  have hsh := shr_nat n k
  clear hn
  by_cases hq : n / 2 ^ k < 24
  · have Hq := Lib.hid (code_small hq)
    generalize n / 2 ^ k = q at *
    have hqi : (q : Int) < 24 := by omega
    go_enter Try.func64, Try.ntmps64
    go_wp2_with fail
    go_loopw [5, 8] (fun out ix wr => ∃ (j : Nat) (O : Option Addr) (c : Nat), ix = .int .u64 j ∧ j ≤ q ∧ out = .slice O j c ∧
        wr.ownsRow w.heap.size 4 1 (.slice O j c) j (boolCells (List.replicate j true)) ∧ Below w.heap.size w wr) (fun _ ix _ => q - (intOf ix).toNat)
    case atStart => exact ⟨0, _, 0, rfl, by omega, rfl, made0' _ _ _, Below.one _ _⟩
    case round =>
      obtain ⟨j, O, c, rfl, hj, rfl, hown, hbel⟩ := hrel
      by_cases hlt : j < q
      · have Hsn := Lib.hid (rep_snoc j)
        go_wp2_with (at_builtin; go_must (refine wpList_append_elem rfl _ _ 111 rfl 4 (.bool false) 1 1 Try.underlying111 boolInf rfl (by decide) w.heap.size _ _ _ _ wr #[.bool true] rfl (by intro u hu; simp at hu; subst hu; rfl) hown rfl hbel (by have := hbel.size; omega) rfl (by unfold maxLen; omega) (by omega) ?_); intro v' w3 hown3 hgr3 hbel3 hsz3 hlt3 hnn3)
        go_roundw
        case rel =>
          obtain ⟨O', c', rfl⟩ := own_form hown3
          exact ⟨j + 1, O', c', by go_num, by omega, rfl, by rw [Hsn.out, boolCells_snoc]; exact hown3, hbel3⟩
        case measure => simp [intOf]; omega
      · obtain rfl : j = q := by omega
        go_wp2_with (at_builtin; go_must (refine wpList_append_elem rfl _ _ 111 rfl 4 (.bool false) 1 1 Try.underlying111 boolInf rfl (by decide) w.heap.size _ _ _ _ wr #[.bool false] rfl (by intro u hu; simp at hu; subst hu; rfl) hown rfl hbel (by have := hbel.size; omega) rfl (by unfold maxLen; omega) (by omega) ?_); intro v' w3 hown3 hgr3 hbel3 hsz3 hlt3 hnn3)
        obtain ⟨O3, c3, rfl⟩ := own_form hown3
        go_wp2_with fail
        refine (L2.out _).mono ?_
        rintro e w4 ⟨A2, c2, rfl, hown4, hb4⟩
        obtain ⟨A2', c2', hv, hrd2⟩ := Rd.of_own hown4
        obtain ⟨rfl, rfl⟩ : A2 = A2' ∧ c2 = c2' := by simpa using hv
        have ho3 := own_below hown3 hb4
        have hb34 := hbel3.trans (hb4.mono hbel3.size)
        go_wp2_with (at_builtin; go_must (refine wpList_append_rd rfl _ _ 111 rfl 4 (.bool false) 1 1 Try.underlying111 boolInf rfl (by decide) w.heap.size _ _ _ w _ ho3 rfl hb34 (by have := (hb34).size; omega) A2 (lowL n k).length c2 (boolCells (lowL n k)) rfl hrd2 (bool_one _) (by rw [lowL_length]; unfold maxLen; omega) (by rw [lowL_length]; omega) ?_); intro v' w5 hown5 hbel5 hsz5 hle5 hgr5)
        obtain ⟨O5, c5, rfl⟩ := own_form hown5
        go_ret
        have e : (codeL n k).length = j + 1 + (lowL n k).length := by rw [Hq.out]; simp; omega
        refine ⟨O5, c5, by rw [e]; rfl, ?_, hbel5⟩
        rw [e, Hq.out, boolCells_append, boolCells_append]
        simpa [boolCells] using hown5
  · have Hq := Lib.hid (code_big hq)
    generalize n / 2 ^ k = q at *
    have hq' : decide ((24 : Int) ≤ (q : Int)) = true := decide_eq_true (by omega)
    go_enter Try.func64, Try.ntmps64
    go_wp2_with fail
    go_loopw [5, 7] (fun out ix wr => ∃ (j : Nat) (O : Option Addr) (c : Nat), ix = .int .i64 j ∧ j ≤ 24 ∧ out = .slice O j c ∧
        wr.ownsRow w.heap.size 4 1 (.slice O j c) j (boolCells (List.replicate j true)) ∧ Below w.heap.size w wr) (fun _ ix _ => 24 - (intOf ix).toNat)
    case atStart => exact ⟨0, _, 0, rfl, by omega, rfl, made0' _ _ _, Below.one _ _⟩
    case round =>
      obtain ⟨j, O, c, rfl, hj, rfl, hown, hbel⟩ := hrel
      by_cases hlt : j < 24
      · have Hsn := Lib.hid (rep_snoc j)
        go_wp2_with (at_builtin; go_must (refine wpList_append_elem rfl _ _ 111 rfl 4 (.bool false) 1 1 Try.underlying111 boolInf rfl (by decide) w.heap.size _ _ _ _ wr #[.bool true] rfl (by intro u hu; simp at hu; subst hu; rfl) hown rfl hbel (by have := hbel.size; omega) rfl (by unfold maxLen; omega) (by omega) ?_); intro v' w3 hown3 hgr3 hbel3 hsz3 hlt3 hnn3)
        go_roundw
        case rel =>
          obtain ⟨O', c', rfl⟩ := own_form hown3
          exact ⟨j + 1, O', c', by go_num, by omega, rfl, by rw [Hsn.out, boolCells_snoc]; exact hown3, hbel3⟩
        case measure => simp [intOf]; omega
      · obtain rfl : j = 24 := by omega
        go_wp2_with fail
        refine (L1.out _).mono ?_
        rintro e w4 ⟨A2, c2, rfl, hown4, hb4⟩
        obtain ⟨A2', c2', hv, hrd2⟩ := Rd.of_own hown4
        obtain ⟨rfl, rfl⟩ : A2 = A2' ∧ c2 = c2' := by simpa using hv
        have ho3 := own_below hown hb4
        have hb34 := hbel.trans (hb4.mono hbel.size)
        go_wp2_with (at_builtin; go_must (refine wpList_append_rd rfl _ _ 111 rfl 4 (.bool false) 1 1 Try.underlying111 boolInf rfl (by decide) w.heap.size _ _ _ w _ ho3 rfl hb34 (by have := (hb34).size; omega) A2 (lowL n 64).length c2 (boolCells (lowL n 64)) rfl hrd2 (bool_one _) (by rw [lowL_length]; unfold maxLen; omega) (by rw [lowL_length]; omega) ?_); intro v' w5 hown5 hbel5 hsz5 hle5 hgr5)
        obtain ⟨O5, c5, rfl⟩ := own_form hown5
        go_ret
        have e : (codeL n k).length = 24 + (lowL n 64).length := by rw [Hq.out, List.length_append, List.length_replicate]
        refine ⟨O5, c5, by rw [e]; rfl, ?_, hbel5⟩
        rw [e, Hq.out, boolCells_append]
        exact hown5

set_option maxRecDepth 100000 in
set_option maxHeartbeats 1000000 in
theorem rcost_in (A : Option Addr) (c : Nat) (l : List Nat) (k : Nat) (w : World) (hr : Rd w 1 A l.length (u64Cells l)) (hl : l.length ≤ 5000) (hk : k ≤ 40) (hx : ∀ x ∈ l, x < 18446744073709551616) :
    Calls Try.prog 63 #[.slice A l.length c, .int .i64 k] w fun e w' => e = .returned (.int .i64 (costN l k)) ∧ Below w.heap.size w w' := by
  have hk1 : decide ((k : Int) < 0) = false := decide_eq_false (by omega)
  have hk2 : decide ((40 : Int) < (k : Int)) = false := decide_eq_false (by omega)
  have Hx := Lib.hid hx
  have C := Lib.hid (fun n w hn => code_any n k w hn hk)
  clear hx
  go_enter Try.func63, Try.ntmps63
  go_wp2
  go_loopw [5, 6] (fun n i wr => ∃ j : Nat, i = .int .i64 j ∧ j ≤ l.length ∧ n = .int .i64 (costN (l.take j) k : Nat) ∧ Below w.heap.size w wr) (fun _ i _ => l.length - (intOf i).toNat)
  case atStart => exact ⟨0, rfl, by omega, rfl, Below.refl _ _⟩
  case round =>
    obtain ⟨j, rfl, hj, rfl, hbel⟩ := hrel
    by_cases hlt : j < l.length
    · obtain ⟨b, off, rfl, hb, e0⟩ := u64_at (hr.below hbel) hlt
      have hsn := costN_snoc (l.take j) l[j] k
      rw [← nat_take hlt] at hsn
      have Hsn := Lib.hid hsn
      have hcn := costN_le hk (l.take j)
      have hxj := Lib.hid (Hx.out _ (List.getElem_mem hlt))
      rw [List.length_take] at hcn
      have hcb : costN (l.take j) k ≤ 440000 := by omega
      have hlen := codeL_length l[j] k
      have hco := costOne_le (n := l[j]) hk
      generalize costN (l.take j) k = n at *
      have Cx := Lib.hid (fun w => C.out l[j] w hxj.out)
      generalize l[j] = x at *
      go_wp2_with fail
      refine (Cx.out _).mono ?_
      rintro e w1 ⟨O, co, rfl, hown, hb1⟩
      rw [hlen]
      clear hlen hcn hown
      generalize costOne x k = y at *
      go_wp2_with fail
      go_roundw
      case rel => exact ⟨j + 1, by go_num, by omega, by rw [Hsn.out]; go_num, hbel.then hb1⟩
      case measure => simp [intOf]; omega
    · obtain rfl : j = l.length := by omega
      rw [List.take_length]
      go_wp2_with fail
      go_ret
      exact ⟨rfl, hbel⟩

theorem rcost_any (A : Option Addr) (c : Nat) (l : List Nat) (k : Int) (w : World) (hr : Rd w 1 A l.length (u64Cells l)) (hl : l.length ≤ 5000) (hx : ∀ x ∈ l, x < 18446744073709551616) :
    Calls Try.prog 63 #[.slice A l.length c, .int .i64 k] w fun e w' => e = .returned (.int .i64 (costZ l k)) ∧ Below w.heap.size w w' := by
  by_cases hk : 0 ≤ k ∧ k ≤ 40
  · have h := rcost_in A c l k.toNat w hr hl (by omega) hx
    have e : costZ l k = costN l k.toNat := by unfold costZ; rw [if_neg (by omega)]
    rw [show ((k.toNat : Nat) : Int) = k by omega] at h
    rw [e]; exact h
  · have e : costZ l k = 0 := by unfold costZ; rw [if_pos (by omega)]
    rw [e]
    have hk' : k < 0 ∨ (decide (k < 0) = false ∧ decide (40 < k) = true) := by
      by_cases h : k < 0
      · exact .inl h
      · exact .inr ⟨decide_eq_false h, decide_eq_true (by omega)⟩
    clear hk e
    rcases hk' with hk | ⟨hk, hk2⟩
    all_goals
      go_enter Try.func63, Try.ntmps63
      go_wp2_with fail
      go_ret
      exact ⟨rfl, Below.refl _ _⟩
end Go.Proofs.Ytmafdbdmmfpeeaa

/-! RiceBest -/
namespace Go.Proofs.Ytmafdbdmmfpeeaa
open Go Go.RowKit

theorem costZ_nat {l : List Nat} {k : Nat} (h : k ≤ 40) : costZ l k = costN l k := by
  unfold costZ; rw [if_neg (by omega), Int.toNat_natCast]

set_option maxRecDepth 100000 in
set_option maxHeartbeats 1000000 in
theorem rbest_any (A : Option Addr) (c : Nat) (l : List Nat) (w : World) (hr : Rd w 1 A l.length (u64Cells l)) (hl : l.length ≤ 5000) (hx : ∀ x ∈ l, x < 18446744073709551616) :
    Calls Try.prog 47 #[.slice A l.length c] w fun e w' => e = .returned (.int .i64 (bestN l 40)) ∧ Below w.heap.size w w' := by
  have C := Lib.hid (fun k w hk hr => rcost_in A c l k w hr hl hk hx)
  have Hr := Lib.hid hr
  clear hx hr
  go_enter Try.func47, Try.ntmps47
  go_wp2
  go_loopw [3, 4] (fun b i wr => ∃ j : Nat, i = .int .i64 (j + 1 : Nat) ∧ j ≤ 40 ∧ b = .int .i64 (bestN l j : Nat) ∧ Below w.heap.size w wr) (fun _ i _ => 41 - (intOf i).toNat)
  case atStart => exact ⟨0, rfl, by omega, rfl, Below.refl _ _⟩
  case round =>
    obtain ⟨j, rfl, hj, rfl, hbel⟩ := hrel
    by_cases hlt : j < 40
    · have hbj := bestN_le l j
      have C1 := Lib.hid (fun w hr => C.out (j + 1) w (by omega) hr)
      have C2 := Lib.hid (fun w hr => C.out (bestN l j) w (by omega) hr)
      have Hs : Hid (bestN l (j + 1) = if costN l (j + 1) < costN l (bestN l j) then j + 1 else bestN l j) := rfl
      generalize bestN l j = b at *
      obtain ⟨i, hi⟩ : ∃ i, i = j + 1 := ⟨_, rfl⟩
      rw [← hi] at C1 Hs
      rw [show ((j + 1 : Nat) : Int) = (i : Int) by omega]
      have hi40 : (i : Int) ≤ 40 := by omega
      have Hi := Lib.hid hi
      clear hi
      go_wp2_with fail
      refine (C1.out _ (Hr.out.below hbel)).mono ?_
      rintro e w1 ⟨rfl, hb1⟩
      go_wp2_with fail
      refine (C2.out _ ((Hr.out.below hbel).below hb1)).mono ?_
      rintro e w2 ⟨rfl, hb2⟩
      have hbel2 := (hbel.then hb1).then hb2
      clear hb1 hb2
      by_cases hc : costN l i < costN l b
      · rw [if_pos hc] at Hs
        generalize costN l i = x at *
        generalize costN l b = y at *
        go_wp2_with fail
        go_roundw
        case rel => exact ⟨i, by go_num, by omega, by rw [Hs.out], hbel2⟩
        case measure => simp [intOf]; omega
      · rw [if_neg hc] at Hs
        generalize costN l i = x at *
        generalize costN l b = y at *
        go_wp2_with fail
        go_roundw
        case rel => exact ⟨i, by go_num, by omega, by rw [Hs.out], hbel2⟩
        case measure => simp [intOf]; omega
    · obtain rfl : j = 40 := by omega
      go_wp2_with fail
      go_ret
      exact ⟨rfl, hbel⟩

theorem set_other {w : World} {b k j : Nat} {v : Value} (h : k ≠ b) : (w.setCell ⟨b, j, none⟩ v).heap[k]? = w.heap[k]? := Below.heap_setCell w ⟨b, j, none⟩ v k h
theorem set_one {w : World} {b : Nat} {u v : Value} {t : TypeId} (h : w.heap[b]? = some (.cells #[u] t (0, 0))) : (w.setCell ⟨b, 0, none⟩ v).heap[b]? = some (.cells #[v] t (0, 0)) := by
  simp [World.setCell, Array.getElem?_modify, h]
theorem block_on' {w w' : World} {b : Nat} {o : Obj} (h : Below w.heap.size w w') (hk : w.heap[b]? = some o) : w'.heap[b]? = some o :=
  (h.block b (Array.getElem?_eq_some_iff.1 hk).1).trans hk

/-- what one try leaves -/
def Tried (bx be le : Nat) (v : Value) (b y : Nat) (w : World) : Prop :=
  w.heap[bx]? = some (.cells #[v] 82 (0, 0)) ∧ w.heap[be]? = some (.cells #[.int .i64 b] 3 (0, 0)) ∧ w.heap[le]? = some (.cells #[.int .i64 y] 3 (0, 0))
theorem Tried.kept {bx be le : Nat} {v : Value} {b y : Nat} {w w' : World} (h : Tried bx be le v b y w) (hb : Below w.heap.size w w') : Tried bx be le v b y w' :=
  ⟨block_on' hb h.1, block_on' hb h.2.1, block_on' hb h.2.2⟩

set_option maxRecDepth 100000 in
set_option maxHeartbeats 1000000 in
theorem try_any (B bx be le : Nat) (A : Option Addr) (c : Nat) (l : List Nat) (i b y : Nat) (w : World) (ht : Tried bx be le (.slice A l.length c) b y w) (hn1 : be ≠ le) (hn2 : bx ≠ be) (hn3 : bx ≠ le) (h1 : B ≤ be) (h2 : B ≤ le) (hB : B ≤ w.heap.size)
    (hr : Rd w 1 A l.length (u64Cells l)) (hl : l.length ≤ 5000) (hx : ∀ x ∈ l, x < 18446744073709551616) (hi : i ≤ 40) :
    Calls Try.prog 61 #[.int .i64 i, .pointer (some ⟨bx, 0, none⟩), .pointer (some ⟨le, 0, none⟩), .pointer (some ⟨be, 0, none⟩)] w fun e w' => e = .returned (.tuple #[]) ∧
      Tried bx be le (.slice A l.length c) (if costN l i < y then i else b) (if costN l i < y then costN l i else y) w' ∧ Below B w w' := by
  have C := Lib.hid (cost_in A c l i w hr hl hi hx)
  have p0 : w.cell? ⟨bx, 0, none⟩ = some (.slice A l.length c) := by rw [Lib.cell_of_heap ht.1]; rfl
  have Ht := Lib.hid ht
  obtain ⟨x, hxc⟩ : ∃ x, x = costN l i := ⟨_, rfl⟩
  rw [← hxc] at C ⊢
  have hn1' : le ≠ be := fun e => hn1 e.symm
  clear hr hx ht hxc
  by_cases hc : x < y
  · simp only [if_pos hc]
    go_enter Try.func61, Try.ntmps61
    go_wp2_with fail
    refine C.out.mono ?_
    rintro e w1 ⟨rfl, hb1⟩
    have ht1 := Ht.out.kept hb1
    have q1 : w1.cell? ⟨be, 0, none⟩ = some (.int .i64 b) := by rw [Lib.cell_of_heap ht1.2.1]; rfl
    have q2 : w1.cell? ⟨le, 0, none⟩ = some (.int .i64 y) := by rw [Lib.cell_of_heap ht1.2.2]; rfl
    have f1 : w1.frozen? ⟨be, 0, none⟩ = false := Lib.frozen_of_heap ht1.2.1 0
    have f2 : w1.frozen? ⟨le, 0, none⟩ = false := Lib.frozen_of_heap ht1.2.2 0
    have hb : Below B w w1 := hb1.mono hB
    have Ht1 := Lib.hid ht1
    clear ht1 hb1
    go_wp2_with fail
    go_end0
    exact ⟨rfl, ⟨by rw [set_other hn3, set_other hn2]; exact Ht1.out.1, by rw [set_other hn1]; exact set_one Ht1.out.2.1, set_one (by rw [set_other hn1']; exact Ht1.out.2.2)⟩, (hb.setCell (p := ⟨be, 0, none⟩) h1 _).setCell (p := ⟨le, 0, none⟩) h2 _⟩
  · simp only [if_neg hc]
    go_enter Try.func61, Try.ntmps61
    go_wp2_with fail
    refine C.out.mono ?_
    rintro e w1 ⟨rfl, hb1⟩
    have ht1 := Ht.out.kept hb1
    have q1 : w1.cell? ⟨be, 0, none⟩ = some (.int .i64 b) := by rw [Lib.cell_of_heap ht1.2.1]; rfl
    have q2 : w1.cell? ⟨le, 0, none⟩ = some (.int .i64 y) := by rw [Lib.cell_of_heap ht1.2.2]; rfl
    have f1 : w1.frozen? ⟨be, 0, none⟩ = false := Lib.frozen_of_heap ht1.2.1 0
    have f2 : w1.frozen? ⟨le, 0, none⟩ = false := Lib.frozen_of_heap ht1.2.2 0
    have hb : Below B w w1 := hb1.mono hB
    have Ht1 := Lib.hid ht1
    clear ht1 hb1
    go_wp2_with fail
    go_end0
    exact ⟨rfl, Ht1.out, hb⟩

set_option maxRecDepth 100000 in
set_option maxHeartbeats 1000000 in
theorem best_any (A : Option Addr) (c : Nat) (l : List Nat) (w : World) (hr : Rd w 1 A l.length (u64Cells l)) (hl : l.length ≤ 5000) (hx : ∀ x ∈ l, x < 18446744073709551616) :
    Calls Try.prog 40 #[.slice A l.length c] w fun e w' => e = .returned (.int .i64 (bestN l 40)) ∧ Below w.heap.size w w' := by
  have C := Lib.hid (fun k w hk hr => cost_in A c l k w hr hl hk hx)
  have Hr := Lib.hid hr
  have Hx := Lib.hid hx
  clear hx hr
  go_enter Try.func40, Try.ntmps40
  have hmf : ∀ (fn : Fn) (first cap : Array Value) (w : World), (Instr.makeFunc fn first cap).run Try.prog w = .ok (.func fn first cap) w := fun _ _ _ _ => rfl
  go_wp2_with fail
  refine (C.out 0 _ (by omega) (Hr.out.below (Below.one _ _))).mono ?_
  rintro e w1 ⟨rfl, hb1⟩
  go_wp2_with fail
  have hz1 : w.heap.size < w1.heap.size := by have := hb1.size; simp at this; omega
  have hbel0 := (hb1.allocl).then (below_two w1 (.cells #[.int .i64 0] 3) (.cells #[.int .i64 (costN l 0 : Nat)] 3))
  have ht0 : Tried w.heap.size w1.heap.size (w1.heap.size + 1) (.slice A l.length c) (bestN l 0) (costN l (bestN l 0)) ((w1.alloc (.cells #[.int .i64 0] 3)).alloc (.cells #[.int .i64 (costN l 0 : Nat)] 3)) := by
    refine ⟨?_, ?_, ?_⟩
    · exact (Lib.alloc_old _ _ _ (by simp; omega)).trans ((Lib.alloc_old _ _ _ hz1).trans (block_on' hb1 (heap_alloc_new w _)))
    · exact (Lib.alloc_old _ _ _ (by simp)).trans (heap_alloc_new w1 _)
    · have := heap_alloc_new (w1.alloc (.cells #[.int .i64 0] 3)) (.cells #[.int .i64 (costN l 0 : Nat)] 3)
      simp only [World.size_alloc] at this
      exact this
  have Ht0 := Lib.hid ht0
  have Hbel0 := Lib.hid hbel0
  clear ht0 hbel0 hb1
  go_loopw [6] (fun i wr => ∃ j : Nat, i = .int .i64 (j + 1 : Nat) ∧ j ≤ 40 ∧ Tried w.heap.size w1.heap.size (w1.heap.size + 1) (.slice A l.length c) (bestN l j) (costN l (bestN l j)) wr ∧ Below w.heap.size w wr) (fun i _ => 41 - (intOf i).toNat)
  case atStart => exact ⟨0, rfl, by omega, Ht0.out, Hbel0.out⟩
  case round =>
    obtain ⟨j, rfl, hj, htr, hbel⟩ := hrel
    by_cases hlt : j < 40
    · have T := Lib.hid (try_any w.heap.size w.heap.size w1.heap.size (w1.heap.size + 1) A c l (j + 1) (bestN l j) (costN l (bestN l j)) _ htr (by omega) (by omega) (by omega) (by omega) (by omega) hbel.size (Hr.out.below hbel) hl Hx.out (by omega))
      have e1 : (if costN l (j + 1) < costN l (bestN l j) then j + 1 else bestN l j) = bestN l (j + 1) := rfl
      have e2 : (if costN l (j + 1) < costN l (bestN l j) then costN l (j + 1) else costN l (bestN l j)) = costN l (bestN l (j + 1)) := by
        simp only [bestN]; split <;> rfl
      rw [e1, e2] at T
      have H1 := Lib.hid hbel
      obtain ⟨i, hi⟩ : ∃ i, i = j + 1 := ⟨_, rfl⟩
      rw [← hi] at T
      rw [show ((j + 1 : Nat) : Int) = (i : Int) by omega]
      have hi40 : (i : Int) ≤ 40 := by omega
      clear e1 e2 htr hbel
      have Hi := Lib.hid hi
      clear hi
      go_wp2_with fail
      refine T.out.mono ?_
      rintro e w2 ⟨rfl, ht2, hb2⟩
      go_wp2_with fail
      go_roundw
      case rel => exact ⟨i, by go_num, by omega, ht2, H1.out.trans hb2⟩
      case measure => simp [intOf]; omega
    · obtain rfl : j = 40 := by omega
      have q1 : wr.cell? ⟨w1.heap.size, 0, none⟩ = some (.int .i64 (bestN l 40 : Nat)) := by rw [Lib.cell_of_heap htr.2.1]; rfl
      have Hbe := Lib.hid hbel
      clear htr hbel
      go_wp2_with fail
      go_ret
      exact ⟨rfl, Hbe.out⟩
end Go.Proofs.Ytmafdbdmmfpeeaa
