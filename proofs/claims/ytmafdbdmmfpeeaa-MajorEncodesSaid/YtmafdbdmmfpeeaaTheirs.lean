/-
  The law's theirs: the series as the document's.
-/
import Derived.Test.YtmafdbdmmfpeeaaSerArg
import Derived.StillTailTactics
namespace Go.Proofs.Ytmafdbdmmfpeeaa
open Go Go.RowKit

theorem theirInf : (Try.prog.info? 74).map (fun i => (i.zero, i.size, i.bytes)) = some (some (.agg #[.int .i64 0, .slice none 0 0]), 2, 32) := by kernel_rfl

theorem rd_two (w : World) (u v : Value) (T : TypeId) : Rd (w.alloc (.cells #[u, v] T)) 2 (some ⟨w.heap.size, 0, none⟩) 1 [u, v] := by
  have h := World.alloc_heap_new w (.cells #[u, v] T)
  refine ⟨rfl, fun _ => ⟨_, _, rfl, by simp, fun j x hx => ?_⟩⟩
  rw [Lib.cell_of_heap h, Nat.zero_add]
  match j, hx with
  | 0, hx => simpa using hx
  | 1, hx => simpa using hx
  | j + 2, hx => simp at hx
set_option linter.unusedSimpArgs false in
set_option maxRecDepth 100000 in
set_option maxHeartbeats 1000000 in
theorem theirs_any (A0 : Option Addr) (c0 : Nat) (xs : List SerV) (w : World) (hrd : Rd w 2 A0 xs.length (xs.flatMap serCells)) (hl : xs.length ≤ 1000000) : Calls Try.prog 16 #[.slice A0 xs.length c0] w
    fun e w' => ∃ A c, e = .returned (.slice A xs.length c) ∧ Rd w' 2 A xs.length (xs.flatMap serCells) ∧ Below w.heap.size w w' := by
  have Hrd := Lib.hid hrd
  obtain ⟨n, hn⟩ : ∃ n, xs.length = n := ⟨_, rfl⟩
  rw [hn] at hl ⊢
  have Hn := Lib.hid hn
  clear hrd hn
  go_enter Try.func16, Try.ntmps16
  go_wp2_with fail
  go_loopw [3, 4] (fun ov ix wr => ∃ (i : Nat) (A : Option Addr) (c : Nat), ix = .int .i64 i ∧ ov = .slice A i c ∧ i ≤ n ∧ Lie (fun k => k < w.heap.size) 74 2 (.slice A i c) i ((xs.take i).flatMap serCells) wr ∧ Below w.heap.size w wr) (fun _ ix _ => n - (intOf ix).toNat)
  case atStart => exact ⟨0, _, 0, rfl, rfl, by omega, Lie.made _ w _ _ (fun _ h => h), Below.one w _⟩
  case round =>
    obtain ⟨i, A, c, rfl, rfl, hi, hlie, hbel⟩ := hrel
    by_cases hlt : i < n
    · have hlt' : i < xs.length := by have := Hn.out; omega
      obtain ⟨gb, off, rfl, hgb, hf⟩ := (Hrd.out.below hbel).elem serCells_length (by decide) hlt'
      obtain ⟨b2, off2, e2, hgw, -⟩ := Hrd.out.elem serCells_length (by decide) hlt'
      obtain ⟨rfl, rfl⟩ : gb = b2 ∧ off = off2 := by simpa using e2
      have f0 := hf 0 _ rfl
      have f1 := hf 1 _ rfl
      have hfr : (xs.take (i + 1)).flatMap serCells = (xs.take i).flatMap serCells ++ #[Value.int .i64 xs[i].ID, .slice xs[i].A xs[i].n xs[i].c].toList := by
        rw [show xs.take (i + 1) = xs.take i ++ [xs[i]] by rw [List.take_append_getElem], List.flatMap_append]; simp [serCells]
      have Hfr := Lib.hid hfr
      generalize xs[i] = f at *
      obtain ⟨I, A1, n1, c1⟩ := f
      simp only [Nat.add_zero] at f0 f1
      have f1' : wr.cell? ⟨gb, off + i * 2 + 1, none⟩ = some (.slice A1 n1 c1) := by rw [Nat.add_assoc]; exact f1
      clear hf hfr f1 hlt' e2
      have Hl := Lib.hid hlie
      have Hbel := Lib.hid hbel
      clear hlie hbel
      have hk1 : (i : Int) < n := by omega
      have hold : Old (fun j => j < w.heap.size) wr := fun j hj => Nat.lt_of_lt_of_le hj Hbel.out.size
      go_wp2_with fail
      refine wp_region_held_drew (S := fun w' => w'.cell? ⟨gb, off + i * 2, none⟩ = some (.int .i64 I) ∧ w'.cell? ⟨gb, off + i * 2 + 1, none⟩ = some (.slice A1 n1 c1)) (by kernel_rfl) ?_ (fun hHeld => ?_)
      · go_keep
      refine wpAnyH_take (i := 0) (oi := _) (v := ?_) (by simp only [List.getElem?_toArray, List.getElem?_cons_succ, List.getElem?_cons_zero]; rfl) (by kernel_rfl) (by kernel_rfl) (by kernel_rfl) (by exact fun _ _ _ h => h) (Or.inl ⟨by rfl, ?_⟩) (by assumption) ?_
      rotate_left
      · (intro w hSw; (try dsimp only at hSw); go_simp) <;> with_reducible rfl
      try simp only [Act.put, List.setIfInBounds_toArray, List.set_cons_zero, List.set_cons_succ]
      refine wpAnyH_take (i := 1) (oi := _) (v := ?_) (by simp only [List.getElem?_toArray, List.getElem?_cons_succ, List.getElem?_cons_zero]; rfl) (by kernel_rfl) (by kernel_rfl) (by kernel_rfl) (by exact fun _ _ _ h => h) (Or.inl ⟨by rfl, ?_⟩) (by assumption) ?_
      rotate_left
      · (intro w hSw; (try dsimp only at hSw); go_simp) <;> with_reducible rfl
      try simp only [Act.put, List.setIfInBounds_toArray, List.set_cons_zero, List.set_cons_succ]
      refine wpAnyH_take (i := 2) (oi := _) (v := ?_) (by simp only [List.getElem?_toArray, List.getElem?_cons_succ, List.getElem?_cons_zero]; rfl) (by kernel_rfl) (by kernel_rfl) (by kernel_rfl) (by exact fun _ _ _ h => h) (Or.inl ⟨by rfl, ?_⟩) (by assumption) ?_
      rotate_left
      · (intro w hSw; (try dsimp only at hSw); go_simp) <;> with_reducible rfl
      try simp only [Act.put, List.setIfInBounds_toArray, List.set_cons_zero, List.set_cons_succ]
      refine wpAnyH_take (i := 3) (oi := _) (v := ?_) (by simp only [List.getElem?_toArray, List.getElem?_cons_succ, List.getElem?_cons_zero]; rfl) (by kernel_rfl) (by kernel_rfl) (by kernel_rfl) (by exact fun _ _ _ h => h) (Or.inl ⟨by rfl, ?_⟩) (by assumption) ?_
      rotate_left
      · (intro w hSw; (try dsimp only at hSw); go_simp) <;> with_reducible rfl
      try simp only [Act.put, List.setIfInBounds_toArray, List.set_cons_zero, List.set_cons_succ]
      refine wpAnyH_take (i := 4) (oi := _) (v := ?_) (by simp only [List.getElem?_toArray, List.getElem?_cons_succ, List.getElem?_cons_zero]; rfl) (by kernel_rfl) (by kernel_rfl) (by kernel_rfl) (by exact fun _ _ _ h => h) (Or.inl ⟨by rfl, ?_⟩) (by assumption) ?_
      rotate_left
      · (intro w hSw; (try dsimp only at hSw); go_simp) <;> with_reducible rfl
      try simp only [Act.put, List.setIfInBounds_toArray, List.set_cons_zero, List.set_cons_succ]
      refine wpAnyH_take (i := 5) (oi := _) (v := ?_) (by simp only [List.getElem?_toArray, List.getElem?_cons_succ, List.getElem?_cons_zero]; rfl) (by kernel_rfl) (by kernel_rfl) (by kernel_rfl) (by exact fun _ _ _ h => h) (Or.inl ⟨by rfl, ?_⟩) (by assumption) ?_
      rotate_left
      · (intro w hSw; (try dsimp only at hSw); go_simp) <;> with_reducible rfl
      try simp only [Act.put, List.setIfInBounds_toArray, List.set_cons_zero, List.set_cons_succ]
      refine wpAnyH_take (i := 6) (oi := _) (v := ?_) (by simp only [List.getElem?_toArray, List.getElem?_cons_succ, List.getElem?_cons_zero]; rfl) (by kernel_rfl) (by kernel_rfl) (by kernel_rfl) (by exact fun _ _ _ h => h) (Or.inl ⟨by rfl, ?_⟩) (by assumption) ?_
      rotate_left
      · (intro w hSw; (try dsimp only at hSw); go_simp) <;> with_reducible rfl
      try simp only [Act.put, List.setIfInBounds_toArray, List.set_cons_zero, List.set_cons_succ]
      refine wpAnyH_take (i := 7) (oi := _) (v := ?_) (by simp only [List.getElem?_toArray, List.getElem?_cons_succ, List.getElem?_cons_zero]; rfl) (by kernel_rfl) (by kernel_rfl) (by kernel_rfl) (by exact fun _ _ _ h => h) (Or.inl ⟨by rfl, ?_⟩) (by assumption) ?_
      rotate_left
      · (intro w hSw; (try dsimp only at hSw); go_simp) <;> with_reducible rfl
      try simp only [Act.put, List.setIfInBounds_toArray, List.set_cons_zero, List.set_cons_succ]
      refine wpAnyH_take (i := 8) (oi := _) (v := ?_) (by simp only [List.getElem?_toArray, List.getElem?_cons_succ, List.getElem?_cons_zero]; rfl) (by kernel_rfl) (by kernel_rfl) (by kernel_rfl) (by exact fun _ _ _ h => h) (Or.inl ⟨by rfl, ?_⟩) (by assumption) ?_
      rotate_left
      · (intro w hSw; (try dsimp only at hSw); go_simp) <;> with_reducible rfl
      try simp only [Act.put, List.setIfInBounds_toArray, List.set_cons_zero, List.set_cons_succ]
      refine wpAnyH_take (i := 9) (oi := _) (v := ?_) (by simp only [List.getElem?_toArray, List.getElem?_cons_succ, List.getElem?_cons_zero]; rfl) (by kernel_rfl) (by kernel_rfl) (by kernel_rfl) (by exact fun _ _ _ h => h) (Or.inl ⟨by rfl, ?_⟩) (by assumption) ?_
      rotate_left
      · (intro w hSw; (try dsimp only at hSw); go_simp) <;> with_reducible rfl
      try simp only [Act.put, List.setIfInBounds_toArray, List.set_cons_zero, List.set_cons_succ]
      refine wpAnyH_take (i := 10) (oi := _) (v := ?_) (by simp only [List.getElem?_toArray, List.getElem?_cons_succ, List.getElem?_cons_zero]; rfl) (by kernel_rfl) (by kernel_rfl) (by kernel_rfl) (by exact fun _ _ _ h => h) (Or.inl ⟨by rfl, ?_⟩) (by assumption) ?_
      rotate_left
      · (intro w hSw; (try dsimp only at hSw); go_simp) <;> with_reducible rfl
      try simp only [Act.put, List.setIfInBounds_toArray, List.set_cons_zero, List.set_cons_succ]
      refine wpAnyH_take (i := 11) (oi := _) (v := ?_) (by simp only [List.getElem?_toArray, List.getElem?_cons_succ, List.getElem?_cons_zero]; rfl) (by kernel_rfl) (by kernel_rfl) (by kernel_rfl) (by exact fun _ _ _ h => h) (Or.inl ⟨by rfl, ?_⟩) (by assumption) ?_
      rotate_left
      · (intro w hSw; (try dsimp only at hSw); go_simp) <;> with_reducible rfl
      try simp only [Act.put, List.setIfInBounds_toArray, List.set_cons_zero, List.set_cons_succ]
      refine wpAnyH_ready (rs := [12]) (by kernel_rfl) (by simp) ?_
      refine AllReadyH.cons (o := _) (by simp only [List.getElem?_toArray, List.getElem?_cons_succ, List.getElem?_cons_zero]; rfl) (fun K hK => ?_) AllReadyH.nil
      go_simp
      refine hK.out _ _ ?_ (fun hHeld => ?_)
      · exact ⟨Lib.cell?_alloc_some _ hHeld.1, Lib.cell?_alloc_some _ hHeld.2⟩
      clear hK K
      try simp only [Act.put, List.setIfInBounds_toArray, List.set_cons_zero, List.set_cons_succ]
      have HLa := Lib.hid ((Hl.out.below (Below.refl _ wr).drew).alloc (.cells #[.int .i64 I, .slice A1 n1 c1] 74))
      have HBa := Lib.hid (Hbel.out.drew.alloc Hbel.out.drew.size (.cells #[.int .i64 I, .slice A1 n1 c1] 74))
      have HOa : Old (fun j => j < w.heap.size) (wr.drew.alloc (.cells #[.int .i64 I, .slice A1 n1 c1] 74)) := fun j hj => Nat.lt_of_lt_of_le hj HBa.out.size
      have HRb := Lib.hid (rd_two wr.drew (.int .i64 I) (.slice A1 n1 c1) 74)
      refine wpAnyH_ready (rs := [13]) (by kernel_rfl) (by simp) ?_
      refine AllReadyH.cons (o := _) (by simp only [List.getElem?_toArray, List.getElem?_cons_succ, List.getElem?_cons_zero]; rfl) (fun K hK => ?_) AllReadyH.nil
      refine step_append_rd_row rfl (.tmp 12) (.tmp 24) 36 rfl 74 (.agg #[.int .i64 0, .slice none 0 0]) 2 32 Try.underlying36 theirInf rfl (by decide) (fun k => k < w.heap.size) i _ (.slice A i c) _ HLa.out rfl HOa _ 1 _ [.int .i64 I, .slice A1 n1 c1] rfl HRb.out (by intro u hu; simp at hu; rcases hu with rfl | rfl <;> rfl) (by unfold maxLen; omega) (by omega) ?_
      intro v8 w8 hown8 hst8 hgr8 hat8
      have Hl8 := Lib.hid hown8
      have Hb8 := Lib.hid (HBa.out.trans (hst8.below fun k hk => hk))
      obtain ⟨A8, c8, rfl⟩ := hown8.form
      refine hK.out _ _ ?_ (fun hHeld => ?_)
      · exact ⟨(World.cell?_of_block (a := ⟨gb, off + i * 2, none⟩) (hst8.block gb hgw)).trans hHeld.1, (World.cell?_of_block (a := ⟨gb, off + i * 2 + 1, none⟩) (hst8.block gb hgw)).trans hHeld.2⟩
      clear hK K hown8 hst8 hgr8 hat8
      try simp only [Act.put, List.setIfInBounds_toArray, List.set_cons_zero, List.set_cons_succ]
      refine wpAnyH_take (i := 14) (oi := _) (v := ?_) (by simp only [List.getElem?_toArray, List.getElem?_cons_succ, List.getElem?_cons_zero]; rfl) (by kernel_rfl) (by kernel_rfl) (by kernel_rfl) (by exact fun _ _ _ h => h) (Or.inl ⟨by rfl, ?_⟩) (by assumption) ?_
      rotate_left
      · (intro w hSw; (try dsimp only at hSw); go_simp) <;> with_reducible rfl
      try simp only [Act.put, List.setIfInBounds_toArray, List.set_cons_zero, List.set_cons_succ]
      refine wpAnyH_done (by kernel_rfl) ?_ _
      go_wp2_with fail
      go_roundw
      case rel => exact ⟨i + 1, A8, c8, by go_num, rfl, by omega, by rw [Hfr.out]; exact Hl8.out, Hb8.out⟩
      case measure => simp [intOf]; omega
    · obtain rfl : i = n := by omega
      have HR := Lib.hid (show Rd wr 2 A i (xs.flatMap serCells) by
        have := hlie.rd
        rwa [List.take_of_length_le (by rw [Hn.out]; exact Nat.le_refl _)] at this)
      have Hbel := Lib.hid hbel
      clear hlie hbel
      go_wp2_with fail
      go_ret
      exact ⟨A, c, rfl, HR.out, Hbel.out⟩
end Go.Proofs.Ytmafdbdmmfpeeaa
