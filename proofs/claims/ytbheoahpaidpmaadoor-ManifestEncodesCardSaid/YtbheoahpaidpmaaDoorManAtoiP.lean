/-
  Plain Lean: a numeral is read as its number; the program's number of a file's name.
-/
import Derived.Lib.AtoiAllCases
import Derived.Lib.Strings
import Derived.Test.YtbheoahpaidpmaaDoorManNumP
namespace Go.Proofs.YtbheoahpaidpmaaDoor
open Go Go.RowKit

theorem parse_digits : ∀ (l : List UInt8) (a : Nat), (∀ b ∈ l, 48 ≤ b.toNat ∧ b.toNat ≤ 57) → (a + 1) * 10 ^ l.length ≤ 1000000000000000 → Lib.parseUint10 a l = .ok (l.foldl (fun a b => a * 10 + (b.toNat - 48)) a)
  | [], a, _, _ => rfl
  | b :: l, a, h, hb => by
    obtain ⟨h1, h2⟩ := h b (List.mem_cons_self ..)
    have hp : 1 ≤ 10 ^ l.length := Nat.one_le_iff_ne_zero.2 (by exact Nat.ne_of_gt (Nat.pow_pos (by decide)))
    rw [List.length_cons, Nat.pow_succ, ← Nat.mul_assoc, Nat.mul_right_comm] at hb
    have h3 : (a + 1) * 10 ≤ 1000000000000000 := Nat.le_trans (Nat.le_mul_of_pos_right _ hp) hb
    unfold Lib.parseUint10
    rw [if_pos ⟨h1, h2⟩, if_neg (by omega), if_neg (by omega), List.foldl_cons]
    refine parse_digits l _ (fun x hx => h x (List.mem_cons_of_mem _ hx)) (Nat.le_trans (Nat.mul_le_mul_right _ (show a * 10 + (b.toNat - 48) + 1 ≤ (a + 1) * 10 by omega)) hb)
theorem atoi_digits {m : Nat} (h : m < 100000000000000) : Lib.atoiAll (Lib.decDigits m) = .ok (m : Int) := by
  have hall := digits_all m
  have hne := digits_pos m
  have hshort := digits_short (k := 14) (by decide) (show m < 10 ^ 14 by exact h)
  obtain ⟨l, hl⟩ : ∃ l, Lib.decDigits m = l := ⟨_, rfl⟩
  have hnum : numD l = m := by rw [← hl]; exact numD_digits m
  rw [hl] at hall hne hshort ⊢
  cases l with
  | nil => simp at hne
  | cons c r =>
    obtain ⟨h1, h2⟩ := hall c (List.mem_cons_self ..)
    rw [Lib.atoiAll_plain c r (by omega) (by omega)]
    unfold Lib.parseMag
    have hp : (0 + 1) * 10 ^ (c :: r).length ≤ 1000000000000000 := by
      rw [Nat.zero_add, Nat.one_mul]
      exact Nat.le_trans (Nat.pow_le_pow_right (by decide) hshort) (by decide)
    rw [if_neg (by simp), parse_digits (c :: r) 0 hall hp]
    have hm : (c :: r).foldl (fun a b => a * 10 + (b.toNat - 48)) 0 = m := hnum
    rw [hm]
    show (if 9223372036854775808 ≤ m then Lib.NumEnd.range else Lib.NumEnd.ok (m : Int)) = _
    rw [if_neg (by omega)]
/-- what stands behind the first letter -/
theorem prefix_yes (t : List UInt8) : Lib.hasPrefix (102 :: t) [102] = true ∧ Lib.trimPrefix (102 :: t) [102] = t := by
  have h : Lib.hasPrefix (102 :: t) [102] = true := by simp [Lib.hasPrefix]
  exact ⟨h, by unfold Lib.trimPrefix; rw [if_pos h]; rfl⟩
theorem prefix_no {l : List UInt8} (h : ∀ t, l ≠ 102 :: t) : Lib.hasPrefix l [102] = false ∧ Lib.trimPrefix l [102] = l := by
  have h1 : Lib.hasPrefix l [102] = false := by
    cases l with
    | nil => rfl
    | cons x t =>
      have : x ≠ 102 := fun e => h t (by rw [e])
      unfold Lib.hasPrefix
      show ((102 : UInt8) == x && [].isPrefixOf t) = false
      rw [beq_eq_false_iff_ne.2 (fun e => this e.symm)]
      rfl
  exact ⟨h1, by unfold Lib.trimPrefix; rw [if_neg (by simp [h1])]⟩
theorem numF_noprefix {l : List UInt8} (h : ∀ t, l ≠ 102 :: t) : numF l = -1 := numF_none fun _ _ e => h _ e
theorem numF_notok {t : List UInt8} (h : ∀ v, Lib.atoiAll t ≠ .ok v) : numF (102 :: t) = -1 :=
  numF_none fun m hm e => by
    unfold fileB at e
    have := (List.cons.inj e).2
    exact h m (by rw [this]; exact atoi_digits hm)
/-- of a numeral that is read as v -/
theorem numF_ok {t : List UInt8} {v : Int} (h : Lib.atoiAll t = .ok v) : (fileB v = 102 :: t → v < 100000000000000 → numF (102 :: t) = v) ∧ (fileB v ≠ 102 :: t → numF (102 :: t) = -1) ∧ (100000000000000 ≤ v → numF (102 :: t) = -1) := by
  refine ⟨fun e hv => ?_, fun e => ?_, fun hv => ?_⟩
  · have ht : t = Lib.decDigits v.toNat := ((List.cons.inj e).2).symm
    have hlt : v.toNat < 100000000000000 := by omega
    rw [ht, atoi_digits hlt] at h
    have hv2 : (v.toNat : Int) = v := by injection h
    rw [← e, ← hv2]
    have := numF_file hlt
    simpa using this
  · refine numF_none fun m hm e2 => e ?_
    have ht : t = Lib.decDigits m := (List.cons.inj e2).2
    rw [ht, atoi_digits hm] at h
    have hv2 : (m : Int) = v := by injection h
    rw [e2, ← hv2]
  · refine numF_none fun m hm e2 => ?_
    have ht : t = Lib.decDigits m := (List.cons.inj e2).2
    rw [ht, atoi_digits hm] at h
    have hv2 : (m : Int) = v := by injection h
    omega
end Go.Proofs.YtbheoahpaidpmaaDoor
