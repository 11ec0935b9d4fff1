/-
  Series read back: plain words; series that lie behind a bound.
-/
import Derived.Test.YtmafdbdmmfpeeaaRMajFind
import Derived.Test.YtmafdbdmmfpeeaaSerArg
namespace Go.Proofs.Ytmafdbdmmfpeeaa
open Go Go.RowKit

def decS (l : List UInt8) : List Ser × Nat := match tableR l with
  | none => ([], 11)
  | some ps => match serT ps with
    | none => ([], 11)
    | some s => (s, 0)
theorem decS_none {l : List UInt8} (h : tableR l = none) : decS l = ([], 11) := by unfold decS; rw [h]
theorem decS_bad {l : List UInt8} {ps : List (Nat × List UInt8)} (h : tableR l = some ps) (h2 : serT ps = none) : decS l = ([], 11) := by unfold decS; rw [h]; simp only [h2]
theorem decS_good {l : List UInt8} {ps : List (Nat × List UInt8)} {s : List Ser} (h : tableR l = some ps) (h2 : serT ps = some s) : decS l = (s, 0) := by unfold decS; rw [h]; simp only [h2]
theorem serT_none : ∀ {ps : List (Nat × List UInt8)} {p : Nat × List UInt8}, p ∈ ps → partR p.2 = none → serT ps = none
  | q :: ps, p, h, hp => by
    simp only [serT]
    rcases List.mem_cons.1 h with rfl | h
    · rw [hp]
    · cases partR q.2 with
      | none => rfl
      | some L => simp [serT_none h hp]
theorem serT_snoc : ∀ {ps : List (Nat × List UInt8)} {s : List Ser} {p : Nat × List UInt8} {L : List Sample}, serT ps = some s → partR p.2 = some L → serT (ps ++ [p]) = some (s ++ [⟨(p.1 : Int), L⟩])
  | [], s, p, L, h, hp => by
    simp only [serT, Option.some.injEq] at h
    subst h
    simp [serT, hp]
  | q :: ps, s, p, L, h, hp => by
    simp only [serT, List.cons_append] at h ⊢
    cases hq : partR q.2 with
    | none => rw [hq] at h; cases h
    | some M =>
      rw [hq] at h
      simp only [Option.map_eq_some_iff] at h ⊢
      obtain ⟨r, hr, rfl⟩ := h
      exact ⟨_, serT_snoc hr hp, rfl⟩
theorem serT_len : ∀ {ps : List (Nat × List UInt8)} {s : List Ser}, serT ps = some s → s.length = ps.length
  | [], s, h => by simp only [serT, Option.some.injEq] at h; subst h; rfl
  | q :: ps, s, h => by
    simp only [serT] at h
    split at h
    · cases h
    · simp only [Option.map_eq_some_iff] at h
      obtain ⟨r, hr, rfl⟩ := h
      simp [serT_len hr]
theorem goodE_lt : ∀ {es : List (Nat × Nat)} {last : Int}, goodE last es → ∀ e ∈ es, last < e.1
  | [], _, _, e, h => by cases h
  | x :: es, last, h, e, he => by
    obtain ⟨h1, h2, h3⟩ := h
    rcases List.mem_cons.1 he with rfl | he
    · exact h1
    · have := goodE_lt h3 e he; omega
theorem goodE_asc : ∀ {es : List (Nat × Nat)} {last : Int}, goodE last es → ∀ i j, (hi : i < es.length) → (hj : j < i) → (es[j]'(by omega)).1 < es[i].1
  | [], _, _, i, _, hi, _ => absurd hi (by simp)
  | x :: es, last, h, 0, _, _, hj => absurd hj (by omega)
  | x :: es, last, h, i + 1, 0, hi, _ => by
    obtain ⟨h1, h2, h3⟩ := h
    have := goodE_lt h3 (es[i]'(by simpa using hi)) (List.getElem_mem _)
    simp only [List.getElem_cons_zero, List.getElem_cons_succ]
    omega
  | x :: es, last, h, i + 1, j + 1, hi, hj => by
    obtain ⟨h1, h2, h3⟩ := h
    simp only [List.getElem_cons_succ]
    exact goodE_asc h3 i j (by simpa using hi) (by omega)
theorem cutE_fst : ∀ (es : List (Nat × Nat)) (t : List UInt8) (i : Nat) (h : i < es.length) (h' : i < (cutE es t).length), (cutE es t)[i].1 = es[i].1
  | [], _, _, h, _ => absurd h (by simp)
  | e :: es, t, 0, _, _ => rfl
  | e :: es, t, i + 1, h, h' => by
    simp only [cutE, List.getElem_cons_succ] at h h' ⊢
    exact cutE_fst es _ i (by simpa using h) (by simpa using h')
theorem table_asc {l : List UInt8} {ps : List (Nat × List UInt8)} (h : tableR l = some ps) : ∀ i j, (hi : i < ps.length) → (hj : j < i) → (ps[j]'(by omega)).1 < ps[i].1 := by
  unfold tableR at h
  split at h
  · cases h
  · rename_i hn
    split at h
    · cases h
    · rename_i r hr
      split at h
      · rename_i hsum
        simp only [Option.some.injEq] at h
        subst h
        rcases getAt_cases l 0 with ⟨e, h3, he⟩ | ⟨k, m, r0, e1, q1, q2, q3, q4, q5⟩
        · rw [h3] at hn; simp only at hn; omega
        · obtain rfl : k = 0 := by omega
          rw [q4] at hr
          simp only at hr
          obtain ⟨es, a'⟩ := r
          obtain ⟨g1, -⟩ := ents_sound _ _ _ _ _ hr (by omega)
          intro i j hi hj
          have hl : i < es.length := by have := hi; rw [cutE_len] at this; exact this
          simp only
          rw [cutE_fst es _ i hl hi, cutE_fst es _ j (by omega) (by rw [cutE_len]; omega)]
          exact goodE_asc g1 i j hl hj
      · cases h
/-- a part is found by its number -/
theorem find_own {l : List UInt8} {ps : List (Nat × List UInt8)} (h : tableR l = some ps) {i : Nat} (hi : i < ps.length) : findV l (ps[i].1 : Int) = partV ps[i].2 := by
  unfold findV
  rw [h]
  exact find_hit ps _ i hi (fun j hj e => by have := table_asc h i j hi hj; omega) rfl
/-- what is read is written so -/
theorem decS_enc {l : List UInt8} {ps : List (Nat × List UInt8)} {s : List Ser} (h : tableR l = some ps) (h2 : serT ps = some s) : encS s = l ∧ goodS (-1) s ∧ (∀ x ∈ s, (∀ y ∈ x.L, Sample.ok y) ∧ x.L.length ≤ 5000) := dec_sound h h2

/-! series that a call has made -/

theorem rd_stays {R : Nat → Prop} {w w' : World} {size n : Nat} {A : Option Addr} {xs : List Value} (h : Rd w size A n xs) (hA : ∀ a, A = some a → R a.block) (hs : Stays R w w') : Rd w' size A n xs :=
  ⟨h.1, fun hn => by
    obtain ⟨b, off, e, hlt, hc⟩ := h.2 hn
    exact ⟨b, off, e, Nat.lt_of_lt_of_le hlt hs.size, fun j u hu => (World.cell?_of_block (a := ⟨b, off + j, none⟩) (hs.block b (hA _ e))).trans (hc j u hu)⟩⟩
/-- they lie at v, a row of the call's own; their samples in other blocks, not below B -/
def OutAt (B : Nat) (T : TypeId) (v : Value) (xs : List SerV) (l : List Ser) (w : World) : Prop :=
  ∃ R : Nat → Prop, (∀ k, k < B → R k) ∧ Old R w ∧ Lie R T 2 v xs.length (xs.flatMap serCells) w ∧ l.length = xs.length ∧ ∀ i, (h : i < xs.length) → (h2 : i < l.length) → SerAt w xs[i] l[i] ∧ ∀ a, xs[i].A = some a → R a.block ∧ B ≤ a.block
section
variable {B : Nat} {T : TypeId} {v : Value} {xs : List SerV} {l : List Ser} {w w' : World}
theorem OutAt.empty (B : Nat) (T : TypeId) (w : World) (hB : B ≤ w.heap.size) : OutAt B T (.slice none 0 0) [] [] w :=
  ⟨fun k => k < B, fun _ h => h, fun k hk => by omega, Lie.nil _ _ _ _, rfl, fun i h => absurd h (by simp)⟩
theorem OutAt.made (B : Nat) (T : TypeId) (w : World) (hB : B ≤ w.heap.size) : OutAt B T (.slice (some ⟨w.heap.size, 0, none⟩) 0 0) [] [] (w.alloc (.cells #[] T)) :=
  ⟨fun k => k < B, fun _ h => h, fun k hk => by simp; omega, Lie.made _ _ _ _ fun k hk => by omega, rfl, fun i h => absurd h (by simp)⟩
theorem OutAt.form (h : OutAt B T v xs l w) : ∃ A c, v = .slice A xs.length c := by
  obtain ⟨R, -, -, h, -⟩ := h
  exact h.form
theorem OutAt.len (h : OutAt B T v xs l w) : l.length = xs.length := by
  obtain ⟨R, -, -, -, h, -⟩ := h
  exact h
theorem OutAt.sers {A : Option Addr} {c : Nat} (h : OutAt B T (.slice A xs.length c) xs l w) : SersAt w A xs l := by
  obtain ⟨R, h1, h2, h3, h4, h5⟩ := h
  exact ⟨h4, h3.rd, fun i hi => (h5 i hi (by omega)).1⟩
/-- it stands where the blocks behind B do -/
theorem OutAt.later (h : OutAt B T v xs l w) (hs : w.heap.size ≤ w'.heap.size) (hb : ∀ g, B ≤ g → g < w.heap.size → w'.heap[g]? = w.heap[g]?) : OutAt B T v xs l w' := by
  obtain ⟨R, h1, h2, h3, h4, h5⟩ := h
  refine ⟨R, h1, h2.mono hs, h3.later fun g hg => hb g (Nat.not_lt.1 fun hk => h3.2 g hg (h1 _ hk)) (h3.1.lt g hg).2, h4, fun i hi hi2 => ?_⟩
  obtain ⟨⟨k1, k2, k3⟩, k4⟩ := h5 i hi hi2
  refine ⟨⟨k1, k2, k3.1, fun hn => ?_⟩, k4⟩
  obtain ⟨b, off, e, hlt, hc⟩ := k3.2 hn
  exact ⟨b, off, e, Nat.lt_of_lt_of_le hlt hs, fun j u hu => (World.cell?_of_block (a := ⟨b, off + j, none⟩) (hb b (k4 _ e).2 hlt)).trans (hc j u hu)⟩
theorem OutAt.below (h : OutAt B T v xs l w) (hb : Below w.heap.size w w') : OutAt B T v xs l w' := h.later hb.size fun g _ hg => hb.block g hg
theorem OutAt.grown {row : Option Nat} (h : OutAt B T v xs l w) (hg : w.grownBy w' row) (hrow : ∀ r, row = some r → ∃ o : Obj, w.heap[r]? = some o ∧ o.isCells = false) : OutAt B T v xs l w' := by
  obtain ⟨R, h1, h2, h3, h4, h5⟩ := h
  refine ⟨R, h1, h2.mono hg.4, h3.later fun g hgv => ?_, h4, fun i hi hi2 => ?_⟩
  · refine hg.block g (h3.1.lt g hgv).2 fun e => ?_
    obtain ⟨o, ho, hc⟩ := hrow g e.symm
    rcases h3.1.2 with ⟨e1, _⟩ | ⟨g', cap, cur, e1, _, hgg, _⟩
    · rw [e1] at hgv; simp [Value.ownBlock] at hgv
    · rw [e1] at hgv
      obtain rfl : g' = g := by simpa [Value.ownBlock] using hgv
      rw [hgg] at ho
      obtain rfl : _ = o := by simpa using ho
      simp [Obj.isCells] at hc
  · obtain ⟨⟨k1, k2, k3⟩, k4⟩ := h5 i hi hi2
    exact ⟨⟨k1, k2, rd_grown k3 hg hrow⟩, k4⟩
/-- one more: its samples lie in a block made since -/
theorem OutAt.more {w1 : World} (h : OutAt B T v xs l w) (hB : B ≤ w.heap.size) (hb : Below w.heap.size w w1) {A : Option Addr} {n c : Nat} {I : Int} {L : List Sample} (hL : L.length = n) (hr : Rd w1 2 A n (L.flatMap sampleCells)) (hf : Fresh w.heap.size A) (hn : 0 < n) :
    ∃ R : Nat → Prop, Old R w1 ∧ Lie R T 2 v xs.length (xs.flatMap serCells) w1 ∧
      ∀ v' w2, Lie R T 2 v' (xs.length + 1) (xs.flatMap serCells ++ [.int .i64 I, .slice A n c]) w2 → Stays R w1 w2 → OutAt B T v' (xs ++ [⟨I, A, n, c⟩]) (l ++ [⟨I, L⟩]) w2 ∧ Below B w1 w2 := by
  obtain ⟨R, h1, h2, h3, h4, h5⟩ := h
  have ho : ∀ a, A = some a → a.block < w1.heap.size := fun a e => by
    obtain ⟨b, off, e', hlt, -⟩ := hr.2 hn
    rw [e'] at e
    cases e
    exact hlt
  refine ⟨fun k => R k ∨ ∃ a, A = some a ∧ k = a.block, fun k hk => ?_, (h3.below hb).shift fun g hg hp => ?_, fun v' w2 h6 h7 => ⟨⟨fun k => R k ∨ ∃ a, A = some a ∧ k = a.block, fun k hk => .inl (h1 k hk), fun k hk => ?_, ?_, by simp [h4], fun i hi hi2 => ?_⟩, h7.below fun k hk => .inl (h1 k hk)⟩⟩
  · rcases hk with h | ⟨a, e, rfl⟩
    · exact Nat.lt_of_lt_of_le (h2 k h) hb.size
    · exact ho a e
  · rcases hp with h | ⟨a, e, rfl⟩
    · exact h3.2 g hg h
    · have := (h3.1.lt _ hg).2
      have := hf a e
      omega
  · rcases hk with h | ⟨a, e, rfl⟩
    · exact Nat.lt_of_lt_of_le (h2 k h) (Nat.le_trans hb.size h7.size)
    · exact Nat.lt_of_lt_of_le (ho a e) h7.size
  · have e1 : (xs ++ [(⟨I, A, n, c⟩ : SerV)]).flatMap serCells = xs.flatMap serCells ++ [.int .i64 I, .slice A n c] := by simp [serCells]
    rw [e1, List.length_append]
    exact h6
  · by_cases hlt : i < xs.length
    · rw [List.getElem_append_left hlt, List.getElem_append_left (by omega)]
      obtain ⟨⟨k1, k2, k3⟩, k4⟩ := h5 i hlt (by omega)
      exact ⟨⟨k1, k2, rd_stays (k3.below hb) (fun a e => .inl (k4 a e).1) h7⟩, fun a e => ⟨.inl (k4 a e).1, (k4 a e).2⟩⟩
    · obtain rfl : i = xs.length := by simp at hi; omega
      rw [List.getElem_append_right (Nat.le_refl _), List.getElem_append_right (by omega)]
      simp only [Nat.sub_self, List.getElem_cons_zero, h4]
      exact ⟨⟨rfl, hL, rd_stays hr (fun a e => .inr ⟨a, e, rfl⟩) h7⟩, fun a e => ⟨.inr ⟨a, e, rfl⟩, Nat.le_trans hB (hf a e)⟩⟩
end
end Go.Proofs.Ytmafdbdmmfpeeaa
