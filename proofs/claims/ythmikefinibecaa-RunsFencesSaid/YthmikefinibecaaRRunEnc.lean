/-
  The document's Encode.
-/
import Derived.Test.YthmikefinibecaaRunEncP
import Derived.Test.YthmikefinibecaaRRunRead
namespace Go.Proofs.Ythmikefinibecaa
open Go Go.RowKit

theorem ru_any (n : Int) (w : World) (h0 : 0 ≤ n) (h1 : n < 9223372036854775808) : Calls Try.prog 34 #[.int .i64 n] w fun e w' => e = .returned (.string (S (uint n.toNat))) ∧ Below w.heap.size w w' := by
  obtain ⟨m, rfl⟩ : ∃ m : Nat, n = m := ⟨n.toNat, by omega⟩
  rw [Int.toNat_natCast]
  have U := Lib.hid (fun w => ruint_any m w (by omega))
  have m1 : IntKind.u64.wrap (m : Int) = m := by rw [IntKind.wrap_u64]; omega
  go_enter Try.func34, Try.ntmps34
  go_wp2_with fail
  refine (U.out _).mono ?_
  rintro e w1 ⟨rfl, hb⟩
  go_wp2_with fail
  go_ret
  exact ⟨rfl, hb⟩

set_option linter.unusedSimpArgs false in
set_option maxRecDepth 100000 in
set_option maxHeartbeats 4000000 in
theorem rblock_any (b off c k : Nat) (rs : List Row) (w : World) (hrd : Rd w 3 (some ⟨b, off, none⟩) k (rs.flatMap rowCells)) (hk : rs.length = k) (h1 : 1 ≤ k) (h16 : k ≤ 16)
    (hrs : ∀ r, (h : r < rs.length) → 0 ≤ lastOf (firstT rs) (rs.take r) ∧ lastOf (firstT rs) (rs.take r) ≤ rs[r].T ∧ rs[r].T < 1099511627776 ∧ 0 ≤ rs[r].ID ∧ rs[r].ID < 200 ∧ I64 rs[r].V) :
    Calls Try.prog 35 #[.slice (some ⟨b, off, none⟩) k c] w fun e w' => e = .returned (.string (S (bodyR rs))) ∧ Below w.heap.size w w' := by
  have Hrd := Lib.hid hrd
  have Hk := Lib.hid hk
  have Hrs := Lib.hid hrs
  obtain ⟨b', off', hA', hbw, f0, -, -⟩ := row_at hrd (show 0 < rs.length by omega)
  obtain ⟨rfl, rfl⟩ : b = b' ∧ off = off' := by simpa using hA'
  simp only [Nat.zero_mul, Nat.add_zero] at f0
  have hft : firstT rs = rs[0].T := by unfold firstT; rw [rAt_get (show 0 < rs.length by omega)]
  rw [← hft] at f0
  have Hft := Lib.hid (show firstT rs = lastOf (firstT rs) (rs.take 0) from rfl)
  have hk2 : (0 : Int) < k := by omega
  have hk3 : 0 < k := by omega
  have hbody : bodyR rs = blockB (firstT rs) (rs.take k) := by rw [List.take_of_length_le (by omega)]; rfl
  have Hbody := Lib.hid hbody
  clear hrd hk hrs hA' hft hbody
  go_enter Try.func35, Try.ntmps35
  go_wp2_with fail
  go_loopw [3, 4, 5] (fun sv tv ix wr => ∃ r : Nat, ix = .int .i64 r ∧ r ≤ k ∧ tv = .int .i64 (lastOf (firstT rs) (rs.take r)) ∧ sv = .string (S (blockB (firstT rs) (rs.take r))) ∧ (blockB (firstT rs) (rs.take r)).length ≤ 30 * r ∧ Below w.heap.size w wr) (fun _ _ ix _ => k - (intOf ix).toNat)
  case atStart => exact ⟨0, rfl, by omega, by rw [← Hft.out], rfl, by simp [blockB], Below.refl _ _⟩
  case round =>
    obtain ⟨r, rfl, hr, rfl, rfl, hbl, hbel⟩ := hrel
    have Hbel := Lib.hid hbel
    clear hbel
    by_cases hlt : r < k
    · have hrk : r < rs.length := by have := Hk.out; omega
      obtain ⟨g1, g2, g3, g4, g5, hvk⟩ := Hrs.out r hrk
      obtain ⟨b', off', hA', -, c0, c1, c2⟩ := row_at (Hrd.out.below Hbel.out) hrk
      obtain ⟨rfl, rfl⟩ : b = b' ∧ off = off' := by simpa using hA'
      obtain ⟨hT1, hT2⟩ := take_block (t := firstT rs) hrk
      obtain ⟨xr, hxr⟩ : ∃ xr, rs[r] = xr := ⟨_, rfl⟩
      obtain ⟨tp, htp⟩ : ∃ tp, lastOf (firstT rs) (rs.take r) = tp := ⟨_, rfl⟩
      obtain ⟨blk, hblk⟩ : ∃ blk, blockB (firstT rs) (rs.take r) = blk := ⟨_, rfl⟩
      rw [hxr] at c0 c1 c2 g2 g3 g4 g5 hvk hT1 hT2
      rw [htp] at g1 g2 hT1 ⊢
      rw [hblk] at hbl hT1 ⊢
      obtain ⟨T, I, V⟩ := xr
      simp only at c0 c1 c2 g2 g3 g4 g5 hvk hT1 hT2
      obtain ⟨n2, rfl⟩ : ∃ n2 : Nat, I = n2 := ⟨I.toNat, by omega⟩
      obtain ⟨n1, hn1⟩ : ∃ n1 : Nat, T - tp = n1 := ⟨(T - tp).toNat, by omega⟩
      have hrowB : rowB tp ⟨T, n2, V⟩ = uint n1 ++ uint n2 ++ uint (foldN V) := by unfold rowB; simp only [hn1, Int.toNat_natCast]
      have m1 : IntKind.i64.wrap (T - tp) = n1 := by rw [IntKind.wrap_i64]; omega
      have UA : ∀ w, Calls Try.prog 34 #[.int .i64 (n1 : Int)] w fun e w' => e = .returned (.string (S (uint n1))) ∧ Below w.heap.size w w' := fun w => by
        have := ru_any n1 w (by omega) (by omega)
        rwa [Int.toNat_natCast] at this
      have UB : ∀ w, Calls Try.prog 34 #[.int .i64 (n2 : Int)] w fun e w' => e = .returned (.string (S (uint n2))) ∧ Below w.heap.size w w' := fun w => by
        have := ru_any n2 w (by omega) (by omega)
        rwa [Int.toNat_natCast] at this
      have UC := fun w => rint_any V w hvk.1 hvk.2
      obtain ⟨p1, hp1⟩ : ∃ p1, uint n1 = p1 := ⟨_, rfl⟩
      obtain ⟨p2, hp2⟩ : ∃ p2, uint n2 = p2 := ⟨_, rfl⟩
      obtain ⟨p3, hp3⟩ : ∃ p3, uint (foldN V) = p3 := ⟨_, rfl⟩
      have a1 : (S p1).size ≤ 10 := by rw [S_size, ← hp1]; exact uint_len_ten (by omega)
      have a2 : (S p2).size ≤ 10 := by rw [S_size, ← hp2]; exact uint_len_ten (by omega)
      have a3 : (S p3).size ≤ 10 := by rw [S_size, ← hp3]; exact uint_len_ten (foldN_lt hvk.1 hvk.2)
      have a0 : (S blk).size ≤ 1000 := by rw [S_size]; omega
      have y1 : ¬ 9223372036854775807 < (S blk).size + (S p1).size := by omega
      have y2 : ¬ 9223372036854775807 < (S blk).size + (S p1).size + (S p2).size := by omega
      have y3 : ¬ 9223372036854775807 < (S blk).size + (S p1).size + (S p2).size + (S p3).size := by omega
      rw [hp1, hp2, hp3] at hrowB
      rw [hp1] at UA
      rw [hp2] at UB
      rw [hp3] at UC
      have hnew : S blk ++ S p1 ++ S p2 ++ S p3 = S (blockB (firstT rs) (rs.take (r + 1))) := by
        rw [hT1, hrowB]
        simp only [S_append, List.append_assoc]
      have hnl : (blockB (firstT rs) (rs.take (r + 1))).length ≤ 30 * (r + 1) := by
        rw [hT1, hrowB]
        rw [S_size] at a1 a2 a3
        simp only [List.length_append]
        omega
      have HA := Lib.hid UA
      have HB := Lib.hid UB
      have HC := Lib.hid UC
      have Hnew := Lib.hid hnew
      have Hnl := Lib.hid hnl
      have HT2 := Lib.hid hT2
      have hr1 : (r : Int) < k := by omega
      clear UA UB UC hnew hnl hT1 hT2 hrowB hxr htp hblk hA' hrk g1 g2 g3 g4 g5 hvk hn1 hp1 hp2 hp3 hbl
      go_wp2_with fail
      refine wp_region_held_drew (S := fun w' => w'.cell? ⟨b, off + r * 3, none⟩ = some (.int .i64 T) ∧ w'.cell? ⟨b, off + r * 3 + 1, none⟩ = some (.int .i64 ((n2 : Nat) : Int)) ∧ w'.cell? ⟨b, off + r * 3 + 2, none⟩ = some (.int .i64 V)) (by kernel_rfl) ?_ (fun hHeld => ?_)
      · exact ⟨c0, c1, c2⟩
      refine wpAnyH_take (i := 0) (oi := _) (v := ?_) (by simp only [List.getElem?_toArray, List.getElem?_cons_succ, List.getElem?_cons_zero]; rfl) (by kernel_rfl) (by kernel_rfl) (by kernel_rfl) (by exact fun _ _ _ h => h) (Or.inl ⟨by rfl, ?_⟩) (by assumption) ?_
      rotate_left
      · (intro w hSw; (try dsimp only at hSw); go_simp) <;> with_reducible rfl
      try simp only [Act.put, List.setIfInBounds_toArray, List.set_cons_zero, List.set_cons_succ]
      refine wpAnyH_take (i := 1) (oi := _) (v := ?_) (by simp only [List.getElem?_toArray, List.getElem?_cons_succ, List.getElem?_cons_zero]; rfl) (by kernel_rfl) (by kernel_rfl) (by kernel_rfl) (by exact fun _ _ _ h => h) (Or.inl ⟨by rfl, ?_⟩) (by assumption) ?_
      rotate_left
      · (intro w hSw; (try dsimp only at hSw); go_simp) <;> with_reducible rfl
      try simp only [Act.put, List.setIfInBounds_toArray, List.set_cons_zero, List.set_cons_succ]
      refine wpAnyH_take (i := 2) (oi := _) (v := ?_) (by simp only [List.getElem?_toArray, List.getElem?_cons_succ, List.getElem?_cons_zero]; rfl) (by kernel_rfl) (by kernel_rfl) (by kernel_rfl) (by exact fun _ _ _ h => h) (Or.inl ⟨by rfl, ?_⟩) (by assumption) ?_
      rotate_left
      · (intro w hSw; (try dsimp only at hSw); go_simp) <;> with_reducible rfl
      try simp only [Act.put, List.setIfInBounds_toArray, List.set_cons_zero, List.set_cons_succ]
      refine wpAnyH_take (i := 3) (oi := _) (v := ?_) (by simp only [List.getElem?_toArray, List.getElem?_cons_succ, List.getElem?_cons_zero]; rfl) (by kernel_rfl) (by kernel_rfl) (by kernel_rfl) (by exact fun _ _ _ h => h) (Or.inl ⟨by rfl, ?_⟩) (by assumption) ?_
      rotate_left
      · (intro w hSw; (try dsimp only at hSw); go_simp) <;> with_reducible rfl
      try simp only [Act.put, List.setIfInBounds_toArray, List.set_cons_zero, List.set_cons_succ]
      refine wpAnyH_take (i := 4) (oi := _) (v := ?_) (by simp only [List.getElem?_toArray, List.getElem?_cons_succ, List.getElem?_cons_zero]; rfl) (by kernel_rfl) (by kernel_rfl) (by kernel_rfl) (by exact fun _ _ _ h => h) (Or.inl ⟨by rfl, ?_⟩) (by assumption) ?_
      rotate_left
      · (intro w hSw; (try dsimp only at hSw); go_simp) <;> with_reducible rfl
      try simp only [Act.put, List.setIfInBounds_toArray, List.set_cons_zero, List.set_cons_succ]
      refine wpAnyH_take (i := 5) (oi := _) (v := ?_) (by simp only [List.getElem?_toArray, List.getElem?_cons_succ, List.getElem?_cons_zero]; rfl) (by kernel_rfl) (by kernel_rfl) (by kernel_rfl) (by exact fun _ _ _ h => h) (Or.inl ⟨by rfl, ?_⟩) (by assumption) ?_
      rotate_left
      · (intro w hSw; (try dsimp only at hSw); go_simp) <;> with_reducible rfl
      try simp only [Act.put, List.setIfInBounds_toArray, List.set_cons_zero, List.set_cons_succ]
      refine wpAnyH_take (i := 6) (oi := _) (v := ?_) (by simp only [List.getElem?_toArray, List.getElem?_cons_succ, List.getElem?_cons_zero]; rfl) (by kernel_rfl) (by kernel_rfl) (by kernel_rfl) (by exact fun _ _ _ h => h) (Or.inl ⟨by rfl, ?_⟩) (by assumption) ?_
      rotate_left
      · (intro w hSw; (try dsimp only at hSw); go_simp) <;> with_reducible rfl
      try simp only [Act.put, List.setIfInBounds_toArray, List.set_cons_zero, List.set_cons_succ]
      refine wpAnyH_take (i := 7) (oi := _) (v := ?_) (by simp only [List.getElem?_toArray, List.getElem?_cons_succ, List.getElem?_cons_zero]; rfl) (by kernel_rfl) (by kernel_rfl) (by kernel_rfl) (by exact fun _ _ _ h => h) (Or.inl ⟨by rfl, ?_⟩) (by assumption) ?_
      rotate_left
      · (intro w hSw; (try dsimp only at hSw); go_simp) <;> with_reducible rfl
      try simp only [Act.put, List.setIfInBounds_toArray, List.set_cons_zero, List.set_cons_succ]
      refine wpAnyH_take (i := 10) (oi := _) (v := ?_) (by simp only [List.getElem?_toArray, List.getElem?_cons_succ, List.getElem?_cons_zero]; rfl) (by kernel_rfl) (by kernel_rfl) (by kernel_rfl) (by exact fun _ _ _ h => h) (Or.inl ⟨by rfl, ?_⟩) (by assumption) ?_
      rotate_left
      · (intro w hSw; (try dsimp only at hSw); go_simp) <;> with_reducible rfl
      try simp only [Act.put, List.setIfInBounds_toArray, List.set_cons_zero, List.set_cons_succ]
      refine wpAnyH_take (i := 11) (oi := _) (v := ?_) (by simp only [List.getElem?_toArray, List.getElem?_cons_succ, List.getElem?_cons_zero]; rfl) (by kernel_rfl) (by kernel_rfl) (by kernel_rfl) (by exact fun _ _ _ h => h) (Or.inl ⟨by rfl, ?_⟩) (by assumption) ?_
      rotate_left
      · (intro w hSw; (try dsimp only at hSw); go_simp) <;> with_reducible rfl
      try simp only [Act.put, List.setIfInBounds_toArray, List.set_cons_zero, List.set_cons_succ]
      refine wpAnyH_take (i := 12) (oi := _) (v := ?_) (by simp only [List.getElem?_toArray, List.getElem?_cons_succ, List.getElem?_cons_zero]; rfl) (by kernel_rfl) (by kernel_rfl) (by kernel_rfl) (by exact fun _ _ _ h => h) (Or.inl ⟨by rfl, ?_⟩) (by assumption) ?_
      rotate_left
      · (intro w hSw; (try dsimp only at hSw); go_simp) <;> with_reducible rfl
      try simp only [Act.put, List.setIfInBounds_toArray, List.set_cons_zero, List.set_cons_succ]
      refine wpAnyH_take (i := 13) (oi := _) (v := ?_) (by simp only [List.getElem?_toArray, List.getElem?_cons_succ, List.getElem?_cons_zero]; rfl) (by kernel_rfl) (by kernel_rfl) (by kernel_rfl) (by exact fun _ _ _ h => h) (Or.inl ⟨by rfl, ?_⟩) (by assumption) ?_
      rotate_left
      · (intro w hSw; (try dsimp only at hSw); go_simp) <;> with_reducible rfl
      try simp only [Act.put, List.setIfInBounds_toArray, List.set_cons_zero, List.set_cons_succ]
      refine wpAnyH_take (i := 14) (oi := _) (v := ?_) (by simp only [List.getElem?_toArray, List.getElem?_cons_succ, List.getElem?_cons_zero]; rfl) (by kernel_rfl) (by kernel_rfl) (by kernel_rfl) (by exact fun _ _ _ h => h) (Or.inl ⟨by rfl, ?_⟩) (by assumption) ?_
      rotate_left
      · (intro w hSw; (try dsimp only at hSw); go_simp) <;> with_reducible rfl
      try simp only [Act.put, List.setIfInBounds_toArray, List.set_cons_zero, List.set_cons_succ]
      refine wpAnyH_take (i := 17) (oi := _) (v := ?_) (by simp only [List.getElem?_toArray, List.getElem?_cons_succ, List.getElem?_cons_zero]; rfl) (by kernel_rfl) (by kernel_rfl) (by kernel_rfl) (by exact fun _ _ _ h => h) (Or.inl ⟨by rfl, ?_⟩) (by assumption) ?_
      rotate_left
      · (intro w hSw; (try dsimp only at hSw); go_simp) <;> with_reducible rfl
      try simp only [Act.put, List.setIfInBounds_toArray, List.set_cons_zero, List.set_cons_succ]
      refine wpAnyH_take (i := 18) (oi := _) (v := ?_) (by simp only [List.getElem?_toArray, List.getElem?_cons_succ, List.getElem?_cons_zero]; rfl) (by kernel_rfl) (by kernel_rfl) (by kernel_rfl) (by exact fun _ _ _ h => h) (Or.inl ⟨by rfl, ?_⟩) (by assumption) ?_
      rotate_left
      · (intro w hSw; (try dsimp only at hSw); go_simp) <;> with_reducible rfl
      try simp only [Act.put, List.setIfInBounds_toArray, List.set_cons_zero, List.set_cons_succ]
      refine wpAnyH_take (i := 19) (oi := _) (v := ?_) (by simp only [List.getElem?_toArray, List.getElem?_cons_succ, List.getElem?_cons_zero]; rfl) (by kernel_rfl) (by kernel_rfl) (by kernel_rfl) (by exact fun _ _ _ h => h) (Or.inl ⟨by rfl, ?_⟩) (by assumption) ?_
      rotate_left
      · (intro w hSw; (try dsimp only at hSw); go_simp) <;> with_reducible rfl
      try simp only [Act.put, List.setIfInBounds_toArray, List.set_cons_zero, List.set_cons_succ]
      refine wpAnyH_take (i := 20) (oi := _) (v := ?_) (by simp only [List.getElem?_toArray, List.getElem?_cons_succ, List.getElem?_cons_zero]; rfl) (by kernel_rfl) (by kernel_rfl) (by kernel_rfl) (by exact fun _ _ _ h => h) (Or.inl ⟨by rfl, ?_⟩) (by assumption) ?_
      rotate_left
      · (intro w hSw; (try dsimp only at hSw); go_simp) <;> with_reducible rfl
      try simp only [Act.put, List.setIfInBounds_toArray, List.set_cons_zero, List.set_cons_succ]
      refine wpAnyH_take (i := 21) (oi := _) (v := ?_) (by simp only [List.getElem?_toArray, List.getElem?_cons_succ, List.getElem?_cons_zero]; rfl) (by kernel_rfl) (by kernel_rfl) (by kernel_rfl) (by exact fun _ _ _ h => h) (Or.inl ⟨by rfl, ?_⟩) (by assumption) ?_
      rotate_left
      · (intro w hSw; (try dsimp only at hSw); go_simp) <;> with_reducible rfl
      try simp only [Act.put, List.setIfInBounds_toArray, List.set_cons_zero, List.set_cons_succ]
      refine wpAnyH_ready (rs := [8]) (by kernel_rfl) (by simp) ?_
      refine AllReadyH.cons (o := _) (by simp only [List.getElem?_toArray, List.getElem?_cons_succ, List.getElem?_cons_zero]; rfl) (fun K hK => ?_) AllReadyH.nil
      go_simp
      refine (HA.out _).mono ?_
      rintro e wx1 ⟨rfl, hx1⟩
      have Hx1 := Lib.hid hx1
      clear hx1
      go_wp2_with fail
      refine hK.out _ _ ?_ (fun hHeld => ?_)
      · exact ⟨keepc Hx1.out hHeld.1, keepc Hx1.out hHeld.2.1, keepc Hx1.out hHeld.2.2⟩
      clear hK K
      try simp only [Act.put, List.setIfInBounds_toArray, List.set_cons_zero, List.set_cons_succ]
      refine wpAnyH_take (i := 9) (oi := _) (v := ?_) (by simp only [List.getElem?_toArray, List.getElem?_cons_succ, List.getElem?_cons_zero]; rfl) (by kernel_rfl) (by kernel_rfl) (by kernel_rfl) (by exact fun _ _ _ h => h) (Or.inl ⟨by rfl, ?_⟩) (by assumption) ?_
      rotate_left
      · (intro w hSw; (try dsimp only at hSw); go_simp) <;> with_reducible rfl
      try simp only [Act.put, List.setIfInBounds_toArray, List.set_cons_zero, List.set_cons_succ]
      refine wpAnyH_ready (rs := [15]) (by kernel_rfl) (by simp) ?_
      refine AllReadyH.cons (o := _) (by simp only [List.getElem?_toArray, List.getElem?_cons_succ, List.getElem?_cons_zero]; rfl) (fun K hK => ?_) AllReadyH.nil
      go_simp
      refine (HB.out _).mono ?_
      rintro e wx2 ⟨rfl, hx2⟩
      have Hx2 := Lib.hid hx2
      clear hx2
      go_wp2_with fail
      refine hK.out _ _ ?_ (fun hHeld => ?_)
      · exact ⟨keepc Hx2.out hHeld.1, keepc Hx2.out hHeld.2.1, keepc Hx2.out hHeld.2.2⟩
      clear hK K
      try simp only [Act.put, List.setIfInBounds_toArray, List.set_cons_zero, List.set_cons_succ]
      refine wpAnyH_take (i := 16) (oi := _) (v := ?_) (by simp only [List.getElem?_toArray, List.getElem?_cons_succ, List.getElem?_cons_zero]; rfl) (by kernel_rfl) (by kernel_rfl) (by kernel_rfl) (by exact fun _ _ _ h => h) (Or.inl ⟨by rfl, ?_⟩) (by assumption) ?_
      rotate_left
      · (intro w hSw; (try dsimp only at hSw); go_simp) <;> with_reducible rfl
      try simp only [Act.put, List.setIfInBounds_toArray, List.set_cons_zero, List.set_cons_succ]
      refine wpAnyH_ready (rs := [22]) (by kernel_rfl) (by simp) ?_
      refine AllReadyH.cons (o := _) (by simp only [List.getElem?_toArray, List.getElem?_cons_succ, List.getElem?_cons_zero]; rfl) (fun K hK => ?_) AllReadyH.nil
      go_simp
      refine (HC.out _).mono ?_
      rintro e wx3 ⟨rfl, hx3⟩
      have Hx3 := Lib.hid hx3
      clear hx3
      go_wp2_with fail
      refine hK.out _ _ ?_ (fun hHeld => ?_)
      · exact ⟨keepc Hx3.out hHeld.1, keepc Hx3.out hHeld.2.1, keepc Hx3.out hHeld.2.2⟩
      clear hK K
      try simp only [Act.put, List.setIfInBounds_toArray, List.set_cons_zero, List.set_cons_succ]
      refine wpAnyH_take (i := 23) (oi := _) (v := ?_) (by simp only [List.getElem?_toArray, List.getElem?_cons_succ, List.getElem?_cons_zero]; rfl) (by kernel_rfl) (by kernel_rfl) (by kernel_rfl) (by exact fun _ _ _ h => h) (Or.inl ⟨by rfl, ?_⟩) (by assumption) ?_
      rotate_left
      · (intro w hSw; (try dsimp only at hSw); go_simp) <;> with_reducible rfl
      try simp only [Act.put, List.setIfInBounds_toArray, List.set_cons_zero, List.set_cons_succ]
      refine wpAnyH_take (i := 24) (oi := _) (v := ?_) (by simp only [List.getElem?_toArray, List.getElem?_cons_succ, List.getElem?_cons_zero]; rfl) (by kernel_rfl) (by kernel_rfl) (by kernel_rfl) (by exact fun _ _ _ h => h) (Or.inl ⟨by rfl, ?_⟩) (by assumption) ?_
      rotate_left
      · (intro w hSw; (try dsimp only at hSw); go_simp) <;> with_reducible rfl
      try simp only [Act.put, List.setIfInBounds_toArray, List.set_cons_zero, List.set_cons_succ]
      refine wpAnyH_done (by kernel_rfl) ?_ _
      have hbf : Below wr.heap.size wr wx3 := ((Hx1.out.then Hx2.out).then Hx3.out).drewl
      have e0 := keepc hbf c0
      have Hbf := Lib.hid (Hbel.out.trans (hbf.mono Hbel.out.size))
      clear hHeld Hx1 Hx2 Hx3 HA HB HC y1 y2 y3 a0 a1 a2 a3 c0 c1 c2 hbf
      rw [Hnew.out]
      go_wp2_with fail
      go_roundw
      case rel => exact ⟨r + 1, by go_num, by omega, by rw [HT2.out], rfl, Hnl.out, Hbf.out⟩
      case measure => simp [intOf]; omega
    · obtain rfl : r = k := by omega
      go_wp2_with fail
      go_ret
      exact ⟨by rw [Hbody.out]; rfl, Hbel.out⟩

theorem Rd.sub {w : World} {b off n lo k : Nat} {rows : List Row} (h : Rd w 3 (some ⟨b, off, none⟩) n (rows.flatMap rowCells)) (hn : rows.length = n) (hk : lo + k ≤ n) : Rd w 3 (some ⟨b, off + lo * 3, none⟩) k (((rows.drop lo).take k).flatMap rowCells) := by
  have hl : ((rows.drop lo).take k).length = k := by simp only [List.length_take, List.length_drop]; omega
  refine ⟨by rw [flatMap_length rowCells_length, hl], fun hp => ?_⟩
  obtain ⟨b', off', e, hb, hc⟩ := h.2 (by omega)
  obtain ⟨rfl, rfl⟩ : b = b' ∧ off = off' := by simpa using e
  refine ⟨b, _, rfl, hb, fun j u hu => ?_⟩
  rw [Nat.add_assoc]
  refine hc _ _ ?_
  have e1 : rows = rows.take lo ++ ((rows.drop lo).take k ++ (rows.drop lo).drop k) := by rw [List.take_append_drop, List.take_append_drop]
  rw [e1, List.flatMap_append, List.flatMap_append]
  have h1 : ((rows.take lo).flatMap rowCells).length = lo * 3 := by rw [flatMap_length rowCells_length]; simp only [List.length_take]; congr 1; omega
  rw [List.getElem?_append_right (by omega), h1, Nat.add_sub_cancel_left, List.getElem?_append_left (List.getElem?_eq_some_iff.1 hu).1]
  exact hu
theorem rng_bad {l : List Row} (h : l.all rngB = false) : ∃ m, m < l.length ∧ (∀ i, i < m → rngB (rAt l i) = true) ∧ rngB (rAt l m) = false := by
  have key : ∀ n, (∀ i, i < n → rngB (rAt l i) = true) ∨ ∃ m, m < n ∧ (∀ i, i < m → rngB (rAt l i) = true) ∧ rngB (rAt l m) = false := by
    intro n
    induction n with
    | zero => exact .inl fun i hi => absurd hi (by omega)
    | succ n ih =>
      rcases ih with h1 | ⟨m, h1, h2⟩
      · cases hg : rngB (rAt l n) with
        | true =>
          refine .inl fun i hi => ?_
          rcases Nat.lt_or_ge i n with h2 | h2
          · exact h1 i h2
          · obtain rfl : i = n := by omega
            exact hg
        | false => exact .inr ⟨n, by omega, h1, hg⟩
      · exact .inr ⟨m, by omega, h2⟩
  rcases key l.length with h1 | h1
  · exfalso
    have : l.all rngB = true := List.all_eq_true.2 fun x hx => by
      obtain ⟨j, hj, rfl⟩ := List.getElem_of_mem hx
      have := h1 j hj
      rwa [rAt_get hj] at this
    rw [h] at this
    cases this
  · exact h1

set_option linter.unusedSimpArgs false in
set_option maxRecDepth 100000 in
set_option maxHeartbeats 4000000 in
theorem renc_no (A : Option Addr) (c : Nat) (rows : List Row) (w : World) (hrd : Rd w 3 A rows.length (rows.flatMap rowCells)) (hl : rows.length ≤ 6400) (hg : ¬ (goodR rows = true ∧ rows.length ≤ 5000)) :
    Calls Try.prog 16 #[.slice A rows.length c] w fun e w' => e = .returned (.tuple #[.string (S []), .int .i64 30]) ∧ Below w.heap.size w w' := by
  have HF := fine_any A c rows.length rows w hrd rfl (by omega)
  have Hrd := Lib.hid hrd
  have hc : fineR rows = false ∨ (fineR rows = true ∧ 5000 < rows.length) ∨ (fineR rows = true ∧ rows.length ≤ 5000 ∧ rows.all rngB = false) := by
    unfold goodR at hg
    cases h1 : fineR rows
    · exact .inl rfl
    · rcases Nat.lt_or_ge 5000 rows.length with h2 | h2
      · exact .inr (.inl ⟨rfl, h2⟩)
      · cases h3 : rows.all rngB
        · exact .inr (.inr ⟨rfl, h2, rfl⟩)
        · exact absurd ⟨by rw [h1, h3]; rfl, h2⟩ hg
  clear hg hrd
  rcases hc with h1 | ⟨h1, h2⟩ | ⟨h1, h2, h3⟩
  · rw [h1] at HF
    have HC := Lib.hid HF
    clear HF h1
    go_enter Try.func16, Try.ntmps16
    go_wp2_with fail
    refine HC.out.mono ?_
    rintro e w1 ⟨rfl, hb1⟩
    go_wp2_with fail
    go_ret2
    exact ⟨rfl, hb1⟩
  · rw [h1] at HF
    have HC := Lib.hid HF
    have k9 : decide ((5000 : Int) < (rows.length : Int)) = true := decide_eq_true (by omega)
    have k10 : decide (5000 < rows.length) = true := decide_eq_true h2
    clear HF h1 h2
    go_enter Try.func16, Try.ntmps16
    go_wp2_with fail
    refine HC.out.mono ?_
    rintro e w1 ⟨rfl, hb1⟩
    go_wp2_with fail
    go_ret2
    exact ⟨rfl, hb1⟩
  · rw [h1] at HF
    have HC := Lib.hid HF
    have k9 : decide ((5000 : Int) < (rows.length : Int)) = false := decide_eq_false (by omega)
    have k10 : decide (5000 < rows.length) = false := decide_eq_false (by omega)
    obtain ⟨m, hml, hgood, hbad⟩ := rng_bad h3
    have Hgood := Lib.hid hgood
    have Hbad := Lib.hid hbad
    clear HF h1 h3 hgood hbad
    go_enter Try.func16, Try.ntmps16
    go_wp2_with fail
    refine HC.out.mono ?_
    rintro e w1 ⟨rfl, hb1⟩
    have Hb1 := Lib.hid hb1
    have Hrd1 := Lib.hid (Hrd.out.below hb1)
    clear hb1 HC Hrd
    go_wp2_with fail
    go_loop [4] (fun ix => ∃ i : Nat, ix = .int .i64 i ∧ i ≤ m) (fun ix => rows.length - (intOf ix).toNat)
    case atStart => exact ⟨0, rfl, by omega⟩
    case round =>
      obtain ⟨i, rfl, him⟩ := hrel
      have hil : i < rows.length := by omega
      obtain ⟨b, off, rfl, hbw, f0, f1, -⟩ := row_at Hrd1.out hil
      obtain ⟨x, hx⟩ : ∃ x, rows[i] = x := ⟨_, rfl⟩
      have hrx : rAt rows i = x := by rw [rAt_get hil, hx]
      rw [hx] at f0 f1
      have hi1 : (i : Int) < rows.length := by omega
      obtain ⟨T, I, V⟩ := x
      simp only at f0 f1
      by_cases hlt : i < m
      · have hgd := Hgood.out i hlt
        rw [hrx, rngB_iff] at hgd
        simp only at hgd
        have k1 : decide (T < 0) = false := decide_eq_false (by omega)
        have k2 : decide ((1099511627776 : Int) ≤ T) = false := decide_eq_false (by omega)
        have k3 : decide (I < 0) = false := decide_eq_false (by omega)
        have k4 : decide ((200 : Int) ≤ I) = false := decide_eq_false (by omega)
        clear hgd hrx hx
        go_wp2_with fail
        go_round
        case rel => exact ⟨i + 1, by go_num, by omega⟩
        case measure => simp [intOf]; omega
      · obtain rfl : i = m := by omega
        have hbad : ¬ (0 ≤ T ∧ T < 1099511627776 ∧ 0 ≤ I ∧ I < 200) := fun h => by
          have h1 := Hbad.out
          rw [hrx] at h1
          have h2 := rngB_iff (x := ⟨T, I, V⟩).2 h
          rw [h1] at h2
          cases h2
        have hc : T < 0 ∨ (¬ T < 0 ∧ 1099511627776 ≤ T) ∨ (¬ T < 0 ∧ ¬ 1099511627776 ≤ T ∧ I < 0) ∨ (¬ T < 0 ∧ ¬ 1099511627776 ≤ T ∧ ¬ I < 0 ∧ 200 ≤ I) := by omega
        clear hbad hrx hx Hgood Hbad
        rcases hc with h1 | ⟨h1, h2⟩ | ⟨h1, h2, h3⟩ | ⟨h1, h2, h3, h4⟩
        · have k1 : decide (T < 0) = true := decide_eq_true (by omega)
          clear h1
          go_wp2_with fail
          go_ret2
          exact ⟨rfl, Hb1.out⟩
        · have k1 : decide (T < 0) = false := decide_eq_false (by omega)
          have k2 : decide ((1099511627776 : Int) ≤ T) = true := decide_eq_true (by omega)
          clear h1 h2
          go_wp2_with fail
          go_ret2
          exact ⟨rfl, Hb1.out⟩
        · have k1 : decide (T < 0) = false := decide_eq_false (by omega)
          have k2 : decide ((1099511627776 : Int) ≤ T) = false := decide_eq_false (by omega)
          have k3 : decide (I < 0) = true := decide_eq_true (by omega)
          clear h1 h2 h3
          go_wp2_with fail
          go_ret2
          exact ⟨rfl, Hb1.out⟩
        · have k1 : decide (T < 0) = false := decide_eq_false (by omega)
          have k2 : decide ((1099511627776 : Int) ≤ T) = false := decide_eq_false (by omega)
          have k3 : decide (I < 0) = false := decide_eq_false (by omega)
          have k4 : decide ((200 : Int) ≤ I) = true := decide_eq_true (by omega)
          clear h1 h2 h3 h4
          go_wp2_with fail
          go_ret2
          exact ⟨rfl, Hb1.out⟩

set_option linter.unusedSimpArgs false in
set_option maxRecDepth 100000 in
set_option maxHeartbeats 4000000 in
theorem renc_yes (A : Option Addr) (c : Nat) (rows : List Row) (w : World) (hrd : Rd w 3 A rows.length (rows.flatMap rowCells)) (hok : ∀ x ∈ rows, Row.ok x) (hl : rows.length ≤ 5000) (hc : rows.length ≤ c) (hcm : c ≤ maxLen) (hg : goodR rows = true) :
    Calls Try.prog 16 #[.slice A rows.length c] w fun e w' => e = .returned (.tuple #[.string (S (encR rows)), .int .i64 0]) ∧ Below w.heap.size w w' := by
  have HF := fine_any A c rows.length rows w hrd rfl (by omega)
  have hf : fineR rows = true := by unfold goodR at hg; rw [Bool.and_eq_true] at hg; exact hg.1
  rw [hf] at HF
  have Hrd := Lib.hid hrd
  have Hok := Lib.hid hok
  have Hg := Lib.hid hg
  have Hcm := Lib.hid hcm
  have HC := Lib.hid HF
  have k9 : decide ((5000 : Int) < (rows.length : Int)) = false := decide_eq_false (by omega)
  have k10 : decide (5000 < rows.length) = false := decide_eq_false (by omega)
  clear HF hrd hok hg hcm hf
  go_enter Try.func16, Try.ntmps16
  go_wp2_with fail
  refine HC.out.mono ?_
  rintro e w1 ⟨rfl, hb1⟩
  have Hb1 := Lib.hid hb1
  have Hrd1 := Lib.hid (Hrd.out.below hb1)
  clear hb1 HC Hrd
  go_wp2_with fail
  go_loop [4] (fun ix => ∃ i : Nat, ix = .int .i64 i ∧ i ≤ rows.length) (fun ix => rows.length - (intOf ix).toNat)
  case atStart => exact ⟨0, rfl, by omega⟩
  case round =>
    obtain ⟨i, rfl, him⟩ := hrel
    by_cases hlt : i < rows.length
    · obtain ⟨b, off, rfl, hbw, f0, f1, -⟩ := row_at Hrd1.out hlt
      have hgd := rngB_iff.1 (rAt_get hlt ▸ (good_at Hg.out hlt).1)
      obtain ⟨x, hx⟩ : ∃ x, rows[i] = x := ⟨_, rfl⟩
      rw [hx] at f0 f1 hgd
      have hi1 : (i : Int) < rows.length := by omega
      obtain ⟨T, I, V⟩ := x
      simp only at f0 f1 hgd
      have k1 : decide (T < 0) = false := decide_eq_false (by omega)
      have k2 : decide ((1099511627776 : Int) ≤ T) = false := decide_eq_false (by omega)
      have k3 : decide (I < 0) = false := decide_eq_false (by omega)
      have k4 : decide ((200 : Int) ≤ I) = false := decide_eq_false (by omega)
      clear hgd hx
      go_wp2_with fail
      go_round
      case rel => exact ⟨i + 1, by go_num, by omega⟩
      case measure => simp [intOf]; omega
    · obtain rfl : i = rows.length := by omega
      clear him hlt
      have UN : ∀ w, Calls Try.prog 34 #[.int .i64 (rows.length : Int)] w fun e w' => e = .returned (.string (S (uint rows.length))) ∧ Below w.heap.size w w' := fun w => by
        have := ru_any rows.length w (by omega) (by omega)
        rwa [Int.toNat_natCast] at this
      have HUN := Lib.hid UN
      clear UN
      go_wp2_with fail
      refine (HUN.out _).mono ?_
      rintro e w2 ⟨rfl, hb2⟩
      have Hb2 := Lib.hid (Hb1.out.then hb2)
      have Hrd2 := Lib.hid (Hrd1.out.below hb2)
      have hz0 : (uint rows.length).length ≤ 10 := uint_len_ten (by omega)
      clear hb2 Hb1 Hrd1 HUN
      go_wp2_with fail
      go_loopw [5, 6, 7] (fun sv tv ix wr => ∃ j : Nat, ix = .int .i64 (j * 16 : Nat) ∧ j ≤ chN rows.length ∧ sv = .string (S (uint rows.length ++ headsB rows (List.range j))) ∧ tv = .string (S (bodiesB rows (List.range j))) ∧ Below w2.heap.size w2 wr) (fun _ _ ix _ => rows.length + 16 - (intOf ix).toNat)
      case atStart => exact ⟨0, rfl, by omega, by simp [headsB], rfl, Below.refl _ _⟩
      case round =>
        obtain ⟨j, rfl, hj, rfl, rfl, hbel⟩ := hrel
        have Hbel := Lib.hid hbel
        clear hbel
        obtain ⟨hHl, hMl⟩ := heads_len Hg.out Hok.out (List.range j) fun i hi => by have := List.mem_range.1 hi; omega
        rw [List.length_range] at hHl hMl
        have hcN : chN rows.length ≤ 313 := by unfold chN; omega
        by_cases hlt : j * 16 < rows.length
        · obtain ⟨b, off, rfl, hbw0, -⟩ := Hrd2.out.2 (by omega)
          have hjN : j < chN rows.length := by unfold chN; omega
          have hkl := ch_len rows j
          obtain ⟨k, hk⟩ : ∃ k, chLen rows.length j = k := ⟨_, rfl⟩
          have hk1 : 1 ≤ k ∧ k ≤ 16 ∧ j * 16 + k ≤ rows.length ∧ (k = 16 ∨ j * 16 + k = rows.length) := by unfold chLen at hk; omega
          rw [hk] at hkl
          have hsub := (Hrd2.out.below Hbel.out).sub (lo := j * 16) (k := k) rfl hk1.2.2.1
          have hch : (rows.drop (j * 16)).take k = chOf rows j := by
            unfold chOf
            rcases hk1.2.2.2 with h | h
            · rw [h]
            · rw [List.take_of_length_le (by simp only [List.length_drop]; omega), List.take_of_length_le (by simp only [List.length_drop]; omega)]
          rw [hch] at hsub
          have hbn := body_len Hg.out Hok.out j
          have hhn := head_len Hg.out Hok.out hjN
          have hlr := last_rng Hg.out hjN
          have CB := fun w' (h : Rd w' 3 (some ⟨b, off + j * 16 * 3, none⟩) k ((chOf rows j).flatMap rowCells)) => rblock_any b (off + j * 16 * 3) (c - j * 16) k (chOf rows j) w' h hkl hk1.1 hk1.2.1 (fun r hr => by
            obtain ⟨h', e, g1, g2, g3, g4, g5, -⟩ := ch_row Hg.out hr
            rw [e]
            exact ⟨g1, g2, g3, g4, g5, (Hok.out _ (List.getElem_mem h')).2.2⟩)
          obtain ⟨b', off', hA', -, f0, -, -⟩ := row_at hsub (show 0 < (chOf rows j).length by omega)
          obtain ⟨rfl, rfl⟩ : b = b' ∧ off + j * 16 * 3 = off' := by simpa using hA'
          obtain ⟨b', off', hA'', -, f9, -, -⟩ := row_at hsub (show k - 1 < (chOf rows j).length by omega)
          obtain ⟨rfl, e9⟩ : b = b' ∧ off + j * 16 * 3 = off' := by simpa using hA''
          subst e9
          have hft : (chOf rows j)[0].T = firstT (chOf rows j) := by unfold firstT; rw [rAt_get (show 0 < (chOf rows j).length by omega)]
          have hlt9 : (chOf rows j)[k - 1].T = lastOf (firstT (chOf rows j)) (chOf rows j) := by
            rw [lastOf_last _ _ (by intro h; rw [h] at hkl; simp at hkl; omega), show (chOf rows j).length - 1 = k - 1 by rw [hkl], rAt_get (show k - 1 < (chOf rows j).length by omega)]
          rw [hft] at f0
          rw [hlt9] at f9
          simp only [Nat.zero_mul, Nat.add_zero] at f0
          have hs1 : headsB rows (List.range (j + 1)) = headsB rows (List.range j) ++ headB (chOf rows j) := by rw [List.range_succ]; simp [headsB]
          have hs2 : bodiesB rows (List.range (j + 1)) = bodiesB rows (List.range j) ++ bodyR (chOf rows j) := by rw [List.range_succ]; simp [bodiesB]
          obtain ⟨P, hP⟩ : ∃ P, uint rows.length ++ headsB rows (List.range j) = P := ⟨_, rfl⟩
          obtain ⟨M, hM⟩ : ∃ M, bodiesB rows (List.range j) = M := ⟨_, rfl⟩
          have hPl : P.length ≤ 20000 := by rw [← hP, List.length_append]; omega
          have hMl2 : M.length ≤ 200000 := by rw [← hM]; omega
          have hsP : uint rows.length ++ headsB rows (List.range (j + 1)) = P ++ headB (chOf rows j) := by rw [hs1, ← hP, List.append_assoc]
          rw [hM] at hs2
          rw [hP, hM]
          have hhb : headB (chOf rows j) = uint (firstT (chOf rows j)).toNat ++ uint (lastOf (firstT (chOf rows j)) (chOf rows j) - firstT (chOf rows j)).toNat ++ uint (bodyR (chOf rows j)).length := rfl
          obtain ⟨rs, hrs⟩ : ∃ rs, chOf rows j = rs := ⟨_, rfl⟩
          rw [hrs] at hsub CB f0 f9 hs2 hsP hhb hbn hlr
          obtain ⟨t0, ht0⟩ : ∃ t0 : Nat, firstT rs = t0 := ⟨(firstT rs).toNat, by omega⟩
          obtain ⟨t9, ht9⟩ : ∃ t9, lastOf (firstT rs) rs = t9 := ⟨_, rfl⟩
          rw [ht9] at f9 hlr hhb
          rw [ht0] at f0 hlr hhb
          obtain ⟨n3, hn3⟩ : ∃ n3 : Nat, t9 - t0 = n3 := ⟨(t9 - t0).toNat, by omega⟩
          obtain ⟨N, hN⟩ : ∃ N, bodyR rs = N := ⟨_, rfl⟩
          rw [hN] at CB hs2 hhb hbn
          rw [hn3, Int.toNat_natCast, Int.toNat_natCast] at hhb
          have UA : ∀ w, Calls Try.prog 34 #[.int .i64 (t0 : Int)] w fun e w' => e = .returned (.string (S (uint t0))) ∧ Below w.heap.size w w' := fun w => by
            have := ru_any t0 w (by omega) (by omega)
            rwa [Int.toNat_natCast] at this
          have UB : ∀ w, Calls Try.prog 34 #[.int .i64 (n3 : Int)] w fun e w' => e = .returned (.string (S (uint n3))) ∧ Below w.heap.size w w' := fun w => by
            have := ru_any n3 w (by omega) (by omega)
            rwa [Int.toNat_natCast] at this
          have UC : ∀ w, Calls Try.prog 34 #[.int .i64 ((S N).size : Int)] w fun e w' => e = .returned (.string (S (uint N.length))) ∧ Below w.heap.size w w' := fun w => by
            have := ru_any (S N).size w (by omega) (by rw [S_size]; omega)
            rwa [Int.toNat_natCast, S_size] at this
          have m1 : IntKind.i64.wrap (t9 - (t0 : Int)) = n3 := by rw [IntKind.wrap_i64]; omega
          have m2 : IntKind.i64.wrap ((k : Int) - 1) = (k : Int) - 1 := by rw [IntKind.wrap_i64]; omega
          have m3 : (0 : Int) ≤ (k : Int) - 1 := by omega
          have m4 : ((k : Int) - 1).toNat = k - 1 := by omega
          have m5 : (1 : Int) ≤ k := by omega
          have m6 : (k : Int) - 1 < k := by omega
          have m7 : 0 < k := by omega
          have m8 : (0 : Int) < k := by omega
          obtain ⟨p1, hp1⟩ : ∃ p1, uint t0 = p1 := ⟨_, rfl⟩
          obtain ⟨p2, hp2⟩ : ∃ p2, uint n3 = p2 := ⟨_, rfl⟩
          obtain ⟨p3, hp3⟩ : ∃ p3, uint N.length = p3 := ⟨_, rfl⟩
          have a1 : (S p1).size ≤ 10 := by rw [S_size, ← hp1]; exact uint_len_ten (by omega)
          have a2 : (S p2).size ≤ 10 := by rw [S_size, ← hp2]; exact uint_len_ten (by omega)
          have a3 : (S p3).size ≤ 10 := by rw [S_size, ← hp3]; exact uint_len_ten (by omega)
          have a0 : (S P).size ≤ 20000 := by rw [S_size]; exact hPl
          have aM : (S M).size ≤ 200000 := by rw [S_size]; exact hMl2
          have aN : (S N).size ≤ 480 := by rw [S_size]; exact hbn
          have y1 : ¬ 9223372036854775807 < (S P).size + (S p1).size := by omega
          have y2 : ¬ 9223372036854775807 < (S P).size + (S p1).size + (S p2).size := by omega
          have y3 : ¬ 9223372036854775807 < (S P).size + (S p1).size + (S p2).size + (S p3).size := by omega
          have y4 : ¬ 9223372036854775807 < (S M).size + (S N).size := by omega
          rw [hp1, hp2, hp3] at hhb
          rw [hp1] at UA
          rw [hp2] at UB
          rw [hp3] at UC
          have hnew : S P ++ S p1 ++ S p2 ++ S p3 = S (uint rows.length ++ headsB rows (List.range (j + 1))) := by
            rw [hsP, hhb]
            simp only [S_append, List.append_assoc]
          have hnew2 : S M ++ S N = S (bodiesB rows (List.range (j + 1))) := by
            rw [hs2]
            simp only [S_append]
          have HA := Lib.hid UA
          have HB := Lib.hid UB
          have HCc := Lib.hid UC
          have HCB := Lib.hid (CB wr hsub)
          have Hnew := Lib.hid hnew
          have Hnew2 := Lib.hid hnew2
          have hjc : j * 16 < c := by omega
          have hjc2 : ¬ c = j * 16 := by omega
          obtain ⟨e9, he9⟩ : ∃ e9, j * 16 + k = e9 := ⟨_, rfl⟩
          have hmn1 : (if (rows.length : Int) < (j : Int) * 16 + 16 then (rows.length : Int) else (j : Int) * 16 + 16) = (e9 : Int) := by
            split <;> omega
          have hmn2 : min ((j : Int) * 16 + 16) (rows.length : Int) = (e9 : Int) := by omega
          have hmn3 : e9 - j * 16 = k := by omega
          have hmn4 : j * 16 ≤ e9 := by omega
          have hmn5 : e9 ≤ c := by omega
          have hmn6 : (j : Int) * 16 ≤ (e9 : Int) := by omega
          clear UA UB UC CB hsub hnew hnew2 hs1 hs2 hsP hhb hft hlt9 hA' hA'' ht0 ht9 hn3 hN hP hM hp1 hp2 hp3 hrs hlr hbn hhn hkl hk hch hHl hMl hPl hMl2 he9
          go_wp2_with fail
          refine HCB.out.mono ?_
          rintro e w3 ⟨rfl, hb3⟩
          have Hb3 := Lib.hid hb3
          have c0 := keepc hb3 f0
          have c9 := keepc hb3 f9
          clear hb3 f0 f9 HCB
          go_wp2_with fail
          refine wp_region_held_drew (S := fun w' => w'.cell? ⟨b, off + j * 16 * 3, none⟩ = some (.int .i64 ((t0 : Nat) : Int)) ∧ w'.cell? ⟨b, off + j * 16 * 3 + (k - 1) * 3, none⟩ = some (.int .i64 t9)) (by kernel_rfl) ?_ (fun hHeld => ?_)
          · exact ⟨c0, c9⟩
          refine wpAnyH_take (i := 0) (oi := _) (v := ?_) (by simp only [List.getElem?_toArray, List.getElem?_cons_succ, List.getElem?_cons_zero]; rfl) (by kernel_rfl) (by kernel_rfl) (by kernel_rfl) (by exact fun _ _ _ h => h) (Or.inl ⟨by rfl, ?_⟩) (by assumption) ?_
          rotate_left
          · (intro w hSw; (try dsimp only at hSw); go_simp) <;> with_reducible rfl
          try simp only [Act.put, List.setIfInBounds_toArray, List.set_cons_zero, List.set_cons_succ]
          refine wpAnyH_take (i := 1) (oi := _) (v := ?_) (by simp only [List.getElem?_toArray, List.getElem?_cons_succ, List.getElem?_cons_zero]; rfl) (by kernel_rfl) (by kernel_rfl) (by kernel_rfl) (by exact fun _ _ _ h => h) (Or.inl ⟨by rfl, ?_⟩) (by assumption) ?_
          rotate_left
          · (intro w hSw; (try dsimp only at hSw); go_simp) <;> with_reducible rfl
          try simp only [Act.put, List.setIfInBounds_toArray, List.set_cons_zero, List.set_cons_succ]
          refine wpAnyH_take (i := 2) (oi := _) (v := ?_) (by simp only [List.getElem?_toArray, List.getElem?_cons_succ, List.getElem?_cons_zero]; rfl) (by kernel_rfl) (by kernel_rfl) (by kernel_rfl) (by exact fun _ _ _ h => h) (Or.inl ⟨by rfl, ?_⟩) (by assumption) ?_
          rotate_left
          · (intro w hSw; (try dsimp only at hSw); go_simp) <;> with_reducible rfl
          try simp only [Act.put, List.setIfInBounds_toArray, List.set_cons_zero, List.set_cons_succ]
          refine wpAnyH_take (i := 3) (oi := _) (v := ?_) (by simp only [List.getElem?_toArray, List.getElem?_cons_succ, List.getElem?_cons_zero]; rfl) (by kernel_rfl) (by kernel_rfl) (by kernel_rfl) (by exact fun _ _ _ h => h) (Or.inl ⟨by rfl, ?_⟩) (by assumption) ?_
          rotate_left
          · (intro w hSw; (try dsimp only at hSw); go_simp) <;> with_reducible rfl
          try simp only [Act.put, List.setIfInBounds_toArray, List.set_cons_zero, List.set_cons_succ]
          refine wpAnyH_take (i := 4) (oi := _) (v := ?_) (by simp only [List.getElem?_toArray, List.getElem?_cons_succ, List.getElem?_cons_zero]; rfl) (by kernel_rfl) (by kernel_rfl) (by kernel_rfl) (by exact fun _ _ _ h => h) (Or.inl ⟨by rfl, ?_⟩) (by assumption) ?_
          rotate_left
          · (intro w hSw; (try dsimp only at hSw); go_simp) <;> with_reducible rfl
          try simp only [Act.put, List.setIfInBounds_toArray, List.set_cons_zero, List.set_cons_succ]
          refine wpAnyH_take (i := 7) (oi := _) (v := ?_) (by simp only [List.getElem?_toArray, List.getElem?_cons_succ, List.getElem?_cons_zero]; rfl) (by kernel_rfl) (by kernel_rfl) (by kernel_rfl) (by exact fun _ _ _ h => h) (Or.inl ⟨by rfl, ?_⟩) (by assumption) ?_
          rotate_left
          · (intro w hSw; (try dsimp only at hSw); go_simp) <;> with_reducible rfl
          try simp only [Act.put, List.setIfInBounds_toArray, List.set_cons_zero, List.set_cons_succ]
          refine wpAnyH_take (i := 8) (oi := _) (v := ?_) (by simp only [List.getElem?_toArray, List.getElem?_cons_succ, List.getElem?_cons_zero]; rfl) (by kernel_rfl) (by kernel_rfl) (by kernel_rfl) (by exact fun _ _ _ h => h) (Or.inl ⟨by rfl, ?_⟩) (by assumption) ?_
          rotate_left
          · (intro w hSw; (try dsimp only at hSw); go_simp) <;> with_reducible rfl
          try simp only [Act.put, List.setIfInBounds_toArray, List.set_cons_zero, List.set_cons_succ]
          refine wpAnyH_take (i := 9) (oi := _) (v := ?_) (by simp only [List.getElem?_toArray, List.getElem?_cons_succ, List.getElem?_cons_zero]; rfl) (by kernel_rfl) (by kernel_rfl) (by kernel_rfl) (by exact fun _ _ _ h => h) (Or.inl ⟨by rfl, ?_⟩) (by assumption) ?_
          rotate_left
          · (intro w hSw; (try dsimp only at hSw); go_simp) <;> with_reducible rfl
          try simp only [Act.put, List.setIfInBounds_toArray, List.set_cons_zero, List.set_cons_succ]
          refine wpAnyH_take (i := 10) (oi := _) (v := ?_) (by simp only [List.getElem?_toArray, List.getElem?_cons_succ, List.getElem?_cons_zero]; rfl) (by kernel_rfl) (by kernel_rfl) (by kernel_rfl) (by exact fun _ _ _ h => h) (Or.inl ⟨by rfl, ?_⟩) (by assumption) ?_
          rotate_left
          · (intro w hSw; (try dsimp only at hSw); go_simp) <;> with_reducible rfl
          try simp only [Act.put, List.setIfInBounds_toArray, List.set_cons_zero, List.set_cons_succ]
          refine wpAnyH_take (i := 11) (oi := _) (v := ?_) (by simp only [List.getElem?_toArray, List.getElem?_cons_succ, List.getElem?_cons_zero]; rfl) (by kernel_rfl) (by kernel_rfl) (by kernel_rfl) (by exact fun _ _ _ h => h) (Or.inl ⟨by rfl, ?_⟩) (by assumption) ?_
          rotate_left
          · (intro w hSw; (try dsimp only at hSw); go_simp) <;> with_reducible rfl
          try simp only [Act.put, List.setIfInBounds_toArray, List.set_cons_zero, List.set_cons_succ]
          refine wpAnyH_take (i := 12) (oi := _) (v := ?_) (by simp only [List.getElem?_toArray, List.getElem?_cons_succ, List.getElem?_cons_zero]; rfl) (by kernel_rfl) (by kernel_rfl) (by kernel_rfl) (by exact fun _ _ _ h => h) (Or.inl ⟨by rfl, ?_⟩) (by assumption) ?_
          rotate_left
          · (intro w hSw; (try dsimp only at hSw); go_simp) <;> with_reducible rfl
          try simp only [Act.put, List.setIfInBounds_toArray, List.set_cons_zero, List.set_cons_succ]
          refine wpAnyH_take (i := 13) (oi := _) (v := ?_) (by simp only [List.getElem?_toArray, List.getElem?_cons_succ, List.getElem?_cons_zero]; rfl) (by kernel_rfl) (by kernel_rfl) (by kernel_rfl) (by exact fun _ _ _ h => h) (Or.inl ⟨by rfl, ?_⟩) (by assumption) ?_
          rotate_left
          · (intro w hSw; (try dsimp only at hSw); go_simp) <;> with_reducible rfl
          try simp only [Act.put, List.setIfInBounds_toArray, List.set_cons_zero, List.set_cons_succ]
          refine wpAnyH_take (i := 14) (oi := _) (v := ?_) (by simp only [List.getElem?_toArray, List.getElem?_cons_succ, List.getElem?_cons_zero]; rfl) (by kernel_rfl) (by kernel_rfl) (by kernel_rfl) (by exact fun _ _ _ h => h) (Or.inl ⟨by rfl, ?_⟩) (by assumption) ?_
          rotate_left
          · (intro w hSw; (try dsimp only at hSw); go_simp) <;> with_reducible rfl
          try simp only [Act.put, List.setIfInBounds_toArray, List.set_cons_zero, List.set_cons_succ]
          refine wpAnyH_take (i := 15) (oi := _) (v := ?_) (by simp only [List.getElem?_toArray, List.getElem?_cons_succ, List.getElem?_cons_zero]; rfl) (by kernel_rfl) (by kernel_rfl) (by kernel_rfl) (by exact fun _ _ _ h => h) (Or.inl ⟨by rfl, ?_⟩) (by assumption) ?_
          rotate_left
          · (intro w hSw; (try dsimp only at hSw); go_simp) <;> with_reducible rfl
          try simp only [Act.put, List.setIfInBounds_toArray, List.set_cons_zero, List.set_cons_succ]
          refine wpAnyH_take (i := 16) (oi := _) (v := ?_) (by simp only [List.getElem?_toArray, List.getElem?_cons_succ, List.getElem?_cons_zero]; rfl) (by kernel_rfl) (by kernel_rfl) (by kernel_rfl) (by exact fun _ _ _ h => h) (Or.inl ⟨by rfl, ?_⟩) (by assumption) ?_
          rotate_left
          · (intro w hSw; (try dsimp only at hSw); go_simp) <;> with_reducible rfl
          try simp only [Act.put, List.setIfInBounds_toArray, List.set_cons_zero, List.set_cons_succ]
          refine wpAnyH_take (i := 17) (oi := _) (v := ?_) (by simp only [List.getElem?_toArray, List.getElem?_cons_succ, List.getElem?_cons_zero]; rfl) (by kernel_rfl) (by kernel_rfl) (by kernel_rfl) (by exact fun _ _ _ h => h) (Or.inl ⟨by rfl, ?_⟩) (by assumption) ?_
          rotate_left
          · (intro w hSw; (try dsimp only at hSw); go_simp) <;> with_reducible rfl
          try simp only [Act.put, List.setIfInBounds_toArray, List.set_cons_zero, List.set_cons_succ]
          refine wpAnyH_take (i := 18) (oi := _) (v := ?_) (by simp only [List.getElem?_toArray, List.getElem?_cons_succ, List.getElem?_cons_zero]; rfl) (by kernel_rfl) (by kernel_rfl) (by kernel_rfl) (by exact fun _ _ _ h => h) (Or.inl ⟨by rfl, ?_⟩) (by assumption) ?_
          rotate_left
          · (intro w hSw; (try dsimp only at hSw); go_simp) <;> with_reducible rfl
          try simp only [Act.put, List.setIfInBounds_toArray, List.set_cons_zero, List.set_cons_succ]
          refine wpAnyH_take (i := 21) (oi := _) (v := ?_) (by simp only [List.getElem?_toArray, List.getElem?_cons_succ, List.getElem?_cons_zero]; rfl) (by kernel_rfl) (by kernel_rfl) (by kernel_rfl) (by exact fun _ _ _ h => h) (Or.inl ⟨by rfl, ?_⟩) (by assumption) ?_
          rotate_left
          · (intro w hSw; (try dsimp only at hSw); go_simp) <;> with_reducible rfl
          try simp only [Act.put, List.setIfInBounds_toArray, List.set_cons_zero, List.set_cons_succ]
          refine wpAnyH_take (i := 22) (oi := _) (v := ?_) (by simp only [List.getElem?_toArray, List.getElem?_cons_succ, List.getElem?_cons_zero]; rfl) (by kernel_rfl) (by kernel_rfl) (by kernel_rfl) (by exact fun _ _ _ h => h) (Or.inl ⟨by rfl, ?_⟩) (by assumption) ?_
          rotate_left
          · (intro w hSw; (try dsimp only at hSw); go_simp) <;> with_reducible rfl
          try simp only [Act.put, List.setIfInBounds_toArray, List.set_cons_zero, List.set_cons_succ]
          refine wpAnyH_ready (rs := [5]) (by kernel_rfl) (by simp) ?_
          refine AllReadyH.cons (o := _) (by simp only [List.getElem?_toArray, List.getElem?_cons_succ, List.getElem?_cons_zero]; rfl) (fun K hK => ?_) AllReadyH.nil
          go_simp
          refine (HA.out _).mono ?_
          rintro e wx1 ⟨rfl, hx1⟩
          have Hx1 := Lib.hid hx1
          clear hx1
          go_wp2_with fail
          refine hK.out _ _ ?_ (fun hHeld => ?_)
          · exact ⟨keepc Hx1.out hHeld.1, keepc Hx1.out hHeld.2⟩
          clear hK K
          try simp only [Act.put, List.setIfInBounds_toArray, List.set_cons_zero, List.set_cons_succ]
          refine wpAnyH_take (i := 6) (oi := _) (v := ?_) (by simp only [List.getElem?_toArray, List.getElem?_cons_succ, List.getElem?_cons_zero]; rfl) (by kernel_rfl) (by kernel_rfl) (by kernel_rfl) (by exact fun _ _ _ h => h) (Or.inl ⟨by rfl, ?_⟩) (by assumption) ?_
          rotate_left
          · (intro w hSw; (try dsimp only at hSw); go_simp) <;> with_reducible rfl
          try simp only [Act.put, List.setIfInBounds_toArray, List.set_cons_zero, List.set_cons_succ]
          refine wpAnyH_ready (rs := [19]) (by kernel_rfl) (by simp) ?_
          refine AllReadyH.cons (o := _) (by simp only [List.getElem?_toArray, List.getElem?_cons_succ, List.getElem?_cons_zero]; rfl) (fun K hK => ?_) AllReadyH.nil
          go_simp
          refine (HB.out _).mono ?_
          rintro e wx2 ⟨rfl, hx2⟩
          have Hx2 := Lib.hid hx2
          clear hx2
          go_wp2_with fail
          refine hK.out _ _ ?_ (fun hHeld => ?_)
          · exact ⟨keepc Hx2.out hHeld.1, keepc Hx2.out hHeld.2⟩
          clear hK K
          try simp only [Act.put, List.setIfInBounds_toArray, List.set_cons_zero, List.set_cons_succ]
          refine wpAnyH_take (i := 20) (oi := _) (v := ?_) (by simp only [List.getElem?_toArray, List.getElem?_cons_succ, List.getElem?_cons_zero]; rfl) (by kernel_rfl) (by kernel_rfl) (by kernel_rfl) (by exact fun _ _ _ h => h) (Or.inl ⟨by rfl, ?_⟩) (by assumption) ?_
          rotate_left
          · (intro w hSw; (try dsimp only at hSw); go_simp) <;> with_reducible rfl
          try simp only [Act.put, List.setIfInBounds_toArray, List.set_cons_zero, List.set_cons_succ]
          refine wpAnyH_ready (rs := [23]) (by kernel_rfl) (by simp) ?_
          refine AllReadyH.cons (o := _) (by simp only [List.getElem?_toArray, List.getElem?_cons_succ, List.getElem?_cons_zero]; rfl) (fun K hK => ?_) AllReadyH.nil
          go_simp
          refine (HCc.out _).mono ?_
          rintro e wx3 ⟨rfl, hx3⟩
          have Hx3 := Lib.hid hx3
          clear hx3
          go_wp2_with fail
          refine hK.out _ _ ?_ (fun hHeld => ?_)
          · exact ⟨keepc Hx3.out hHeld.1, keepc Hx3.out hHeld.2⟩
          clear hK K
          try simp only [Act.put, List.setIfInBounds_toArray, List.set_cons_zero, List.set_cons_succ]
          refine wpAnyH_take (i := 24) (oi := _) (v := ?_) (by simp only [List.getElem?_toArray, List.getElem?_cons_succ, List.getElem?_cons_zero]; rfl) (by kernel_rfl) (by kernel_rfl) (by kernel_rfl) (by exact fun _ _ _ h => h) (Or.inl ⟨by rfl, ?_⟩) (by assumption) ?_
          rotate_left
          · (intro w hSw; (try dsimp only at hSw); go_simp) <;> with_reducible rfl
          try simp only [Act.put, List.setIfInBounds_toArray, List.set_cons_zero, List.set_cons_succ]
          refine wpAnyH_take (i := 25) (oi := _) (v := ?_) (by simp only [List.getElem?_toArray, List.getElem?_cons_succ, List.getElem?_cons_zero]; rfl) (by kernel_rfl) (by kernel_rfl) (by kernel_rfl) (by exact fun _ _ _ h => h) (Or.inl ⟨by rfl, ?_⟩) (by assumption) ?_
          rotate_left
          · (intro w hSw; (try dsimp only at hSw); go_simp) <;> with_reducible rfl
          try simp only [Act.put, List.setIfInBounds_toArray, List.set_cons_zero, List.set_cons_succ]
          refine wpAnyH_done (by kernel_rfl) ?_ _
          have Hbf := Lib.hid (Hbel.out.trans ((Hb3.out.then ((Hx1.out.then Hx2.out).then Hx3.out).drewl).mono Hbel.out.size))
          rw [Hnew.out]
          clear hHeld Hx1 Hx2 Hx3 HA HB HCc y1 y2 y3 a0 a1 a2 a3 c0 c9 m1 m2 m3 m4 m5 m6 m7 m8 hmn1 hmn2 hmn3 hmn4 hmn5 hmn6
          go_wp2_with fail
          rw [Hnew2.out]
          go_roundw
          case rel => exact ⟨j + 1, by go_num, by omega, rfl, rfl, Hbf.out⟩
          case measure => simp [intOf]; omega
        · obtain rfl : j = chN rows.length := by unfold chN at hj ⊢; omega
          obtain ⟨P, hP⟩ : ∃ P, uint rows.length ++ headsB rows (List.range (chN rows.length)) = P := ⟨_, rfl⟩
          obtain ⟨M, hM⟩ : ∃ M, bodiesB rows (List.range (chN rows.length)) = M := ⟨_, rfl⟩
          have a0 : (S P).size ≤ 20000 := by rw [S_size, ← hP, List.length_append]; omega
          have aM : (S M).size ≤ 200000 := by rw [S_size, ← hM]; omega
          have y4 : ¬ 9223372036854775807 < (S P).size + (S M).size := by omega
          have henc : S P ++ S M = S (encR rows) := by simp only [S_append]; rw [← hP, ← hM]; rfl
          have Henc := Lib.hid henc
          rw [hP, hM]
          clear henc hP hM hHl hMl
          go_wp2_with fail
          go_ret2
          have e2 : Ending.returned (.tuple #[.string (S P ++ S M), .int .i64 0]) = .returned (.tuple #[.string (S (encR rows)), .int .i64 0]) := by rw [Henc.out]
          exact ⟨e2, Hb2.out.trans (Hbel.out.mono Hb2.out.size)⟩
end Go.Proofs.Ythmikefinibecaa
