/-
  The document's Rises, Right, Encode.
-/
import Derived.Test.YtmafdbdmmfpeeaaMajEncP
import Derived.Test.YtmafdbdmmfpeeaaSerArg
import Derived.BigQuiet
namespace Go.Proofs.Ytmafdbdmmfpeeaa
open Go Go.RowKit

def risesB (L : List Sample) : Bool := decide (∀ i, i < L.length - 1 → (sAt L i).T < (sAt L (i + 1)).T)
theorem rises_no {L : List Sample} {i : Nat} (hi : i + 1 < L.length) (h : L[i + 1].T ≤ (L[i]'(by omega)).T) : risesB L = false := by
  refine decide_eq_false fun k => ?_
  have := k i (by omega)
  rw [sAt_get (by omega), sAt_get hi] at this
  omega
theorem rises_fine {L : List Sample} (h : Fine L) : risesB L = true := by
  refine decide_eq_true fun i hi => ?_
  rw [sAt_get (by omega), sAt_get (by omega)]
  exact h.2 i (by omega)

set_option linter.unusedSimpArgs false in
set_option maxRecDepth 100000 in
set_option maxHeartbeats 1000000 in
theorem rises_any (A : Option Addr) (c : Nat) (L : List Sample) (w : World) (hrd : Rd w 2 A L.length (L.flatMap sampleCells)) (hl : L.length ≤ 5000) :
    Calls Try.prog 44 #[.slice A L.length c] w fun e w' => e = .returned (.bool (risesB L)) ∧ ∃ m, w' = w.drewN m := by
  obtain ⟨n, hn⟩ : ∃ n, L.length = n := ⟨_, rfl⟩
  rw [hn] at hrd hl ⊢
  have Hrd := Lib.hid hrd
  have Hn := Lib.hid hn
  clear hrd hn
  go_enter Try.func44, Try.ntmps44
  go_wp2_with fail
  go_loopw [3] (fun ix wr => ∃ i : Nat, ix = .int .i64 ((i + 1 : Nat) : Int) ∧ (∀ j, j < i → (sAt L j).T < (sAt L (j + 1)).T) ∧ ∃ m, wr = w.drewN m) (fun ix _ => n - (intOf ix).toNat)
  case atStart => exact ⟨0, rfl, fun j h => absurd h (by omega), 0, rfl⟩
  case round =>
    obtain ⟨i, rfl, hr, m, rfl⟩ := hrel
    have Hr := Lib.hid hr
    clear hr
    by_cases hlt : i + 1 < n
    · have h1 : i + 1 < L.length := by have := Hn.out; omega
      have h0 : i < L.length := by omega
      obtain ⟨b, off, rfl, hb, e0, -⟩ := sample_at Hrd.out h0
      obtain ⟨b', off', hA, -, f0, -⟩ := sample_at Hrd.out h1
      obtain ⟨rfl, rfl⟩ : b = b' ∧ off = off' := by simpa using hA
      have hno := fun h => rises_no h1 h
      have hs0 := sAt_get h0
      have hs1 := sAt_get h1
      generalize L[i + 1] = y at *
      generalize L[i] = x at *
      obtain ⟨T0, V0⟩ := x
      obtain ⟨T1, V1⟩ := y
      simp only at e0 f0 hno hs0 hs1
      have m1 : IntKind.i64.wrap (((i + 1 : Nat) : Int) - 1) = (i : Int) := by rw [IntKind.wrap_i64]; omega
      have m2 : ((i : Int) + 1 - 1) = (i : Int) := by omega
      have m3 : IntKind.i64.wrap ((i : Int) + 1 - 1) = (i : Int) := by rw [IntKind.wrap_i64]; omega
      have q0 : (i : Int) < n := by omega
      have q1 : ((i : Int) + 1) < n := by omega
      have q2 : (((i + 1 : Nat) : Int)) < n := by omega
      by_cases hc : T1 ≤ T0
      · have t1 : decide (T1 ≤ T0) = true := decide_eq_true hc
        have HNo := Lib.hid (hno hc)
        clear hc hno hs0 hs1 hA
        go_wp2_with fail
        go_quiet (fail)
        go_wp2_with fail
        go_ret
        exact ⟨by rw [HNo.out]; rfl, _, World.drewN_drewN ..⟩
      · have t1 : decide (T1 ≤ T0) = false := decide_eq_false hc
        have Hx := Lib.hid (show (sAt L i).T < (sAt L (i + 1)).T by rw [hs0, hs1]; simp only; omega)
        clear hc hno hs0 hs1 hA
        go_wp2_with fail
        go_quiet (fail)
        go_wp2_with fail
        go_roundw
        case rel =>
          refine ⟨i + 1, by go_num, fun j hj => ?_, _, rfl⟩
          by_cases e : j = i
          · subst e; exact Hx.out
          · exact Hr.out j (by omega)
        case measure => simp [intOf]; omega
    · have HY := Lib.hid (show risesB L = true from decide_eq_true fun j hj => Hr.out j (by have := Hn.out; omega))
      have k1 : decide ((((i + 1 : Nat) : Int)) < (n : Int)) = false := decide_eq_false (by omega)
      have k2 : decide (((i : Int) + 1) < (n : Int)) = false := decide_eq_false (by omega)
      go_wp2_with fail
      go_ret
      exact ⟨by rw [HY.out]; rfl, _, rfl⟩

def rightP (l : List Ser) : Prop := ∀ i, (h : i < l.length) → 0 < l[i].L.length ∧ risesB l[i].L = true ∧ ∀ (h2 : 0 < i), (l[i - 1]'(by omega)).ID < l[i].ID
theorem goodS_at : ∀ {l : List Ser} {last : Int}, goodS last l → ∀ i, (h : i < l.length) → Fine l[i].L ∧ l[i].L ≠ [] ∧ (∀ (h2 : 0 < i), (l[i - 1]'(by omega)).ID < l[i].ID)
  | [], _, _, i, h => absurd h (by simp)
  | x :: l, last, h, 0, _ => ⟨h.1, h.2.1, fun h2 => absurd h2 (by omega)⟩
  | x :: l, last, h, 1, hi => by
    obtain ⟨h1, h2, h3, h4, h5⟩ := h
    have h0 : 0 < l.length := by simpa using hi
    obtain ⟨g1, g2, -⟩ := goodS_at h5 0 h0
    refine ⟨g1, g2, fun _ => ?_⟩
    simp only [List.getElem_cons_succ, Nat.sub_self, List.getElem_cons_zero]
    exact (goodS_lt h5 _ (List.getElem_mem h0)).1
  | x :: l, last, h, i + 2, hi => by
    obtain ⟨h1, h2, h3, h4, h5⟩ := h
    obtain ⟨g1, g2, g3⟩ := goodS_at h5 (i + 1) (by simp only [List.length_cons] at hi; omega)
    refine ⟨g1, g2, fun _ => ?_⟩
    have := g3 (by omega)
    simpa using this
theorem goodS_right {l : List Ser} (h : goodS (-1) l) : rightP l := fun i hi => by
  obtain ⟨h1, h2, h3⟩ := goodS_at h i hi
  exact ⟨List.length_pos_iff.2 h2, rises_fine h1, h3⟩

set_option linter.unusedSimpArgs false in
set_option maxRecDepth 100000 in
set_option maxHeartbeats 2000000 in
theorem right_any (A0 : Option Addr) (c0 : Nat) (xs : List SerV) (l : List Ser) (w : World) (hat : SersAt w A0 xs l) (hl : xs.length ≤ 300) (hn : ∀ x ∈ l, x.L.length ≤ 5000) :
    Calls Try.prog 29 #[.slice A0 xs.length c0] w fun e w' => (∃ b, e = .returned (.bool b) ∧ (b = true ↔ rightP l)) ∧ Below w.heap.size w w' := by
  obtain ⟨n, hnx⟩ : ∃ n, xs.length = n := ⟨_, rfl⟩
  have hnl : l.length = n := by rw [hat.len, hnx]
  rw [hnx] at hl ⊢
  have Hat := Lib.hid hat
  have HN := Lib.hid hn
  have Hnx := Lib.hid hnx
  have Hnl := Lib.hid hnl
  clear hat hn hnx hnl
  go_enter Try.func29, Try.ntmps29
  go_wp2_with fail
  go_loopw [3] (fun ix wr => ∃ i : Nat, ix = .int .i64 i ∧ i ≤ n ∧ Hid (∀ j, (h : j < l.length) → j < i → 0 < l[j].L.length ∧ risesB l[j].L = true ∧ ∀ (h2 : 0 < j), (l[j - 1]'(by omega)).ID < l[j].ID) ∧ Below w.heap.size w wr) (fun ix _ => n - (intOf ix).toNat)
  case atStart => exact ⟨0, rfl, by omega, Lib.hid fun j _ h => absurd h (by omega), Below.refl _ _⟩
  case round =>
    obtain ⟨i, rfl, hi, Hp, hbel⟩ := hrel
    have Hbel := Lib.hid hbel
    by_cases hlt : i < n
    · have hlx : i < xs.length := by have := Hnx.out; omega
      have hll : i < l.length := by have := Hnl.out; omega
      obtain ⟨gb, off, rfl, hgb, hf⟩ := (Hat.out.rd.below hbel).elem serCells_length (by decide) hlx
      have f0 := hf 0 _ rfl
      have f1 := hf 1 _ rfl
      have hsa := (Hat.out.at_ i hlx).below hbel
      have hn5 := HN.out _ (List.getElem_mem hll)
      have Hstop := Lib.hid (fun (hno : ¬ (0 < l[i].L.length ∧ risesB l[i].L = true ∧ ∀ (h2 : 0 < i), (l[i - 1]'(by omega)).ID < l[i].ID)) (hr : rightP l) => hno (hr i hll))
      have Hgo := Lib.hid (fun (hy : 0 < l[i].L.length ∧ risesB l[i].L = true ∧ ∀ (h2 : 0 < i), (l[i - 1]'(by omega)).ID < l[i].ID) (j : Nat) (h : j < l.length) (hji : j < i + 1) => (by
        by_cases e : j = i
        · subst e; exact hy
        · exact Hp.out j h (by omega) : 0 < l[j].L.length ∧ risesB l[j].L = true ∧ ∀ (h2 : 0 < j), (l[j - 1]'(by omega)).ID < l[j].ID))
      obtain ⟨hid, hlen, hrdL⟩ := hsa
      have Hd := Lib.hid hid
      obtain ⟨I, hI⟩ : ∃ I, xs[i].ID = I := ⟨_, rfl⟩
      obtain ⟨A1, hA1⟩ : ∃ A1, xs[i].A = A1 := ⟨_, rfl⟩
      obtain ⟨c1, hc1⟩ : ∃ c1, xs[i].c = c1 := ⟨_, rfl⟩
      obtain ⟨r, hr⟩ : ∃ r, risesB l[i].L = r := ⟨_, rfl⟩
      rw [← hlen] at hrdL f1
      rw [hA1] at hrdL f1
      rw [hc1] at f1
      rw [hI] at f0
      have R := fun m => rises_any A1 c1 l[i].L (wr.drewN m) (hrdL.below (below_drewN (Below.refl _ _) _)) hn5
      rw [hr] at R
      have HR := Lib.hid R
      have hIl : l[i].ID = I := by rw [hid, hI]
      have HrL := Lib.hid (And.intro hr hIl)
      obtain ⟨k, hk⟩ : ∃ k, l[i].L.length = k := ⟨_, rfl⟩
      rw [hk] at f1 HR hn5
      have Hk := Lib.hid hk
      simp only [Nat.add_zero] at f0 f1
      have f1' : wr.cell? ⟨gb, off + i * 2 + 1, none⟩ = some (.slice A1 k c1) := by rw [Nat.add_assoc]; exact f1
      have q0 : (i : Int) < n := by omega
      clear R hf f1 hid hlen hrdL hI hA1 hc1 hr hIl hk
      by_cases h0 : k = 0
      · have HNo := Lib.hid (Hstop.out fun h => by have := h.1; have := Hk.out; omega)
        have k1 : ((k : Int) == 0) = true := beq_iff_eq.2 (by omega)
        have k2 : (k == 0) = true := beq_iff_eq.2 h0
        clear h0
        go_wp2_with fail
        go_quiet (fail)
        go_wp2_with fail
        go_ret
        exact ⟨⟨_, rfl, by simp, fun h => absurd h HNo.out⟩, below_drewN Hbel.out _⟩
      · have k1 : ((k : Int) == 0) = false := beq_eq_false_iff_ne.2 (by omega)
        have k2 : (k == 0) = false := beq_eq_false_iff_ne.2 h0
        cases r with
        | false =>
          have HNo := Lib.hid (Hstop.out fun h => by have := h.2.1; rw [HrL.out.1] at this; cases this)
          clear h0
          go_wp2_with fail
          go_quiet ((go_at_call 44; exact Calls.quiet_of (HR.out _)))
          go_wp2_with fail
          go_ret
          exact ⟨⟨_, rfl, by simp, fun h => absurd h HNo.out⟩, below_drewN Hbel.out _⟩
        | true =>
          by_cases hz : i = 0
          · have HY := Lib.hid (Hgo.out ⟨by have := Hk.out; omega, HrL.out.1, fun h => absurd h (by omega)⟩)
            have t1 : decide ((0 : Int) < (i : Int)) = false := decide_eq_false (by omega)
            have t2 : decide (0 < i) = false := decide_eq_false (by omega)
            clear h0 hz
            go_wp2_with fail
            go_quiet ((go_at_call 44; exact Calls.quiet_of (HR.out _)))
            go_wp2_with fail
            go_roundw
            case rel => exact ⟨i + 1, by go_num, by omega, HY, below_drewN Hbel.out _⟩
            case measure => simp [intOf]; omega
          · have t1 : decide ((0 : Int) < (i : Int)) = true := decide_eq_true (by omega)
            have t2 : decide (0 < i) = true := decide_eq_true (by omega)
            obtain ⟨i', hi'⟩ : ∃ i', i - 1 = i' := ⟨_, rfl⟩
            have hlx' : i' < xs.length := by omega
            have hll' : i' < l.length := by omega
            obtain ⟨gb', off', hA, -, hf'⟩ := (Hat.out.rd.below hbel).elem serCells_length (by decide) hlx'
            obtain ⟨rfl, rfl⟩ : gb = gb' ∧ off = off' := by simpa using hA
            have g0 := hf' 0 _ rfl
            have hidp : l[i'].ID = xs[i'].ID := (Hat.out.at_ i' hlx').id
            obtain ⟨Ip, hIp⟩ : ∃ Ip, xs[i'].ID = Ip := ⟨_, rfl⟩
            rw [hIp] at g0 hidp
            simp only [Nat.add_zero] at g0
            have m1 : IntKind.i64.wrap ((i : Int) - 1) = (i' : Int) := by rw [IntKind.wrap_i64]; omega
            have m2 : (i : Int) - 1 = (i' : Int) := by omega
            have q1 : (i' : Int) < n := by omega
            have HIp := Lib.hid (show (l[i - 1]'(Nat.lt_of_le_of_lt (Nat.sub_le i 1) hll)).ID = Ip by subst hi'; exact hidp)
            clear hf' hA hIp hidp
            by_cases hc : I ≤ Ip
            · have HNo := Lib.hid (Hstop.out fun h => by have := h.2.2 (by omega); rw [HIp.out, HrL.out.2] at this; omega)
              have t3 : decide (I ≤ Ip) = true := decide_eq_true hc
              clear h0 hz hc hi'
              go_wp2_with fail
              go_quiet ((go_at_call 44; exact Calls.quiet_of (HR.out _)))
              go_wp2_with fail
              go_ret
              exact ⟨⟨_, rfl, by simp, fun h => absurd h HNo.out⟩, below_drewN Hbel.out _⟩
            · have HY := Lib.hid (Hgo.out ⟨by have := Hk.out; omega, HrL.out.1, fun h => by rw [HIp.out, HrL.out.2]; omega⟩)
              have t3 : decide (I ≤ Ip) = false := decide_eq_false hc
              clear h0 hz hc hi'
              go_wp2_with fail
              go_quiet ((go_at_call 44; exact Calls.quiet_of (HR.out _)))
              go_wp2_with fail
              go_roundw
              case rel => exact ⟨i + 1, by go_num, by omega, HY, below_drewN Hbel.out _⟩
              case measure => simp [intOf]; omega
    · obtain rfl : i = n := by omega
      have HY := Lib.hid (show rightP l from fun j hj => Hp.out j hj (by have := Hnl.out; omega))
      go_wp2_with fail
      go_ret
      exact ⟨⟨true, rfl, by simp [HY.out]⟩, Hbel.out⟩

set_option linter.unusedSimpArgs false in
set_option maxRecDepth 100000 in
set_option maxHeartbeats 4000000 in
theorem rmencode_ok (A0 : Option Addr) (c0 : Nat) (xs : List SerV) (l : List Ser) (w : World) (hat : SersAt w A0 xs l) (hok : ∀ x ∈ l, ∀ y ∈ x.L, Sample.ok y) (hl : xs.length ≤ 300) (hn : ∀ x ∈ l, x.L.length ≤ 5000) :
    Calls Try.prog 15 #[.slice A0 xs.length c0] w fun e w' => e = .returned (.tuple #[.string (S (encSV l).1), .int .i64 (encSV l).2]) ∧ Below w.heap.size w w' := by
  have HR := Lib.hid (right_any A0 c0 xs l w hat hl hn)
  obtain ⟨n, hnx⟩ : ∃ n, xs.length = n := ⟨_, rfl⟩
  have hnl : l.length = n := by rw [hat.len, hnx]
  rw [hnx] at hl HR ⊢
  have Hat := Lib.hid hat
  have Hok := Lib.hid hok
  have HN := Lib.hid hn
  have Hnx := Lib.hid hnx
  have Hnl := Lib.hid hnl
  have U0 := Lib.hid (fun w => ruint_any n w (by omega))
  have hcv : IntKind.u64.wrap (n : Int) = n := by rw [IntKind.wrap_u64]; omega
  clear hat hok hn hnx hnl
  go_enter Try.func15, Try.ntmps15
  go_wp2_with fail
  refine HR.out.mono ?_
  rintro e w1 ⟨⟨b, rfl, hb⟩, hbel1⟩
  have Hb1 := Lib.hid hbel1
  have Hbb := Lib.hid hb
  clear hbel1 hb HR
  cases b with
  | false =>
    have HNo := Lib.hid (encSV_no (l := l) (by
      cases h : goodSb (-1) l with
      | false => rfl
      | true => have := Hbb.out.2 (goodS_right (goodSb_iff.1 h)); cases this))
    go_wp2_with fail
    go_ret2
    exact ⟨by rw [HNo.out]; rfl, Hb1.out⟩
  | true =>
    have HRt := Lib.hid (Hbb.out.1 rfl)
    clear Hbb
    go_wp2_with fail
    refine (U0.out _).mono ?_
    rintro e w3 ⟨rfl, hb3⟩
    have Hb3 := Lib.hid (Hb1.out.trans (hb3.mono Hb1.out.size))
    have z0 : (S (uint n)).size ≤ 10 := by rw [S_size]; exact uint_len_ten (by omega)
    have z1 : (uint n).length ≤ 10 := by rwa [S_size] at z0
    obtain ⟨N, hN⟩ : ∃ N, uint n = N := ⟨_, rfl⟩
    rw [hN] at z1 z0
    have HNu := Lib.hid hN
    rw [hN]
    clear hb3 U0 hN Hb1
    go_wp2_with fail
    go_loopw [4, 5, 6] (fun sv tv ix wr => ∃ (i : Nat) (last : Int), ix = .int .i64 i ∧ sv = .string (S (N ++ headS (l.take i))) ∧ tv = .string (S (bodyS (l.take i))) ∧ i ≤ n ∧ -1 ≤ last ∧ last < 200 ∧ goodSb (-1) l = goodSb last (l.drop i) ∧ Hid ((i = 0 ∧ last = -1) ∨ ∀ (h : i < l.length), last < l[i].ID) ∧ Below w.heap.size w wr ∧ (headS (l.take i)).length ≤ 20 * i ∧ (bodyS (l.take i)).length ≤ 120000 * i) (fun _ _ ix _ => n - (intOf ix).toNat)
    case atStart => exact ⟨0, -1, rfl, by simp [headS], by simp [bodyS, S], by omega, by omega, by omega, rfl, Lib.hid (.inl ⟨rfl, rfl⟩), Hb3.out, by simp [headS], by simp [bodyS]⟩
    case round =>
      obtain ⟨i, last, rfl, rfl, rfl, hi, hl0, hl1, hgd, HIn, hbel, hhl, hbl⟩ := hrel
      have Hbel := Lib.hid hbel
      have Hgd := Lib.hid hgd
      by_cases hlt : i < n
      · have hlx : i < xs.length := by have := Hnx.out; omega
        have hll : i < l.length := by have := Hnl.out; omega
        obtain ⟨gb, off, rfl, hgb, hf⟩ := (Hat.out.rd.below hbel).elem serCells_length (by decide) hlx
        have f0 := hf 0 _ rfl
        have f1 := hf 1 _ rfl
        have hsa := (Hat.out.at_ i hlx).below hbel
        have oS := Hok.out _ (List.getElem_mem hll)
        have hn5 := HN.out _ (List.getElem_mem hll)
        have hds := drop_ser (last := last) hll
        obtain ⟨ht1, ht2⟩ := take_ser hll
        have hL0 := (HRt.out i hll).1
        have hnx : ∀ h : i + 1 < l.length, (l[i]'hll).ID < l[i + 1].ID := fun h => by have := (HRt.out (i + 1) h).2.2 (by omega); simpa using this
        have hin : last < l[i].ID ∨ l[i].ID < 0 := by
          rcases HIn.out with ⟨-, h⟩ | h
          · omega
          · exact .inl (h hll)
        generalize xs[i] = f at *
        generalize l[i] = sx at *
        obtain ⟨I, A1, n1, c1⟩ := f
        obtain ⟨J, L⟩ := sx
        obtain ⟨hid, hlen, hrdL⟩ := hsa
        simp only [Nat.add_zero] at f0 f1 hid hlen hrdL oS hn5 hds ht1 ht2 hL0 hnx hin
        subst hid
        subst hlen
        have f1' : wr.cell? ⟨gb, off + i * 2 + 1, none⟩ = some (.slice A1 L.length c1) := by rw [Nat.add_assoc]; exact f1
        have HE := Lib.hid (rdenc_all A1 c1 L wr hrdL oS hn5)
        have hk1 : (i : Int) < n := by omega
        have Hds := Lib.hid hds
        have Ht1 := Lib.hid ht1
        have Ht2 := Lib.hid ht2
        have HoS := Lib.hid oS
        have Hhl := Lib.hid hhl
        have Hbl := Lib.hid hbl
        have Hnx' := Lib.hid hnx
        have Hin := Lib.hid hin
        clear hf f1 hgd hds ht1 ht2 oS hrdL hbel hhl hbl hnx hin HIn
        go_wp2_with fail
        refine HE.out.mono ?_
        rintro e w6 ⟨rfl, hb6⟩
        have d0 := keepc hb6 f0
        have d1 := keepc hb6 f1'
        have Hb6 := Lib.hid (Hbel.out.trans (hb6.mono Hbel.out.size))
        clear hb6 HE f0 f1' Hbel
        by_cases hF : Fine L
        · rw [encV_fine hF]
          have hfb : fineB L = true := fineB_iff.2 hF
          by_cases h1 : J < 0
          · have HNo := Lib.hid (encSV_no (l := l) (by rw [Hgd.out, Hds.out, show decide (last < J) = false from decide_eq_false (by omega)]; simp))
            have k3 : decide (J < 0) = true := decide_eq_true h1
            clear hfb h1
            go_wp2_with fail
            go_ret2
            exact ⟨by rw [HNo.out]; rfl, Hb6.out⟩
          · have k3 : decide (J < 0) = false := decide_eq_false h1
            have hlj : last < J := by rcases Hin.out with h | h; exact h; omega
            by_cases h2 : 200 ≤ J
            · have HNo := Lib.hid (encSV_no (l := l) (by rw [Hgd.out, Hds.out, show decide (J < 200) = false from decide_eq_false (by omega)]; simp))
              have k4 : decide (200 ≤ J) = true := decide_eq_true h2
              clear hfb h1 h2
              go_wp2_with fail
              go_ret2
              exact ⟨by rw [HNo.out]; rfl, Hb6.out⟩
            · have k4 : decide (200 ≤ J) = false := decide_eq_false h2
              obtain ⟨p, rfl⟩ : ∃ p : Nat, J = p := ⟨J.toNat, by omega⟩
              rw [Int.toNat_natCast] at Ht1
              have Hn := Lib.hid (show goodSb (-1) l = goodSb (p : Int) (l.drop (i + 1)) by rw [Hgd.out, Hds.out, hfb, decide_eq_true hL0, decide_eq_true hlj, decide_eq_true (show (p : Int) < 200 by omega)]; rfl)
              have hbL := encB_len hF HoS.out hn5
              obtain ⟨T, hT⟩ : ∃ T, encB L = T := ⟨_, rfl⟩
              rw [hT] at Ht1 Ht2 hbL ⊢
              have hTs : (S T).size = T.length := S_size T
              obtain ⟨t, ht⟩ : ∃ t, T.length = t := ⟨_, rfl⟩
              rw [ht] at Ht1 hbL hTs
              have m1 : IntKind.u64.wrap (p : Int) = p := by rw [IntKind.wrap_u64]; omega
              have m2 : IntKind.u64.wrap (t : Int) = t := by rw [IntKind.wrap_u64]; omega
              have UA := fun w => ruint_any p w (by omega)
              have UB := fun w => ruint_any t w (by omega)
              obtain ⟨p1, hp1⟩ : ∃ p1, uint p = p1 := ⟨_, rfl⟩
              obtain ⟨p2, hp2⟩ : ∃ p2, uint t = p2 := ⟨_, rfl⟩
              have a1 : (S p1).size ≤ 10 := by rw [S_size, ← hp1]; exact uint_len_ten (by omega)
              have a2 : (S p2).size ≤ 10 := by rw [S_size, ← hp2]; exact uint_len_ten (by omega)
              rw [hp1] at UA
              rw [hp2] at UB
              rw [hp1, hp2] at Ht1
              have HUA := Lib.hid UA
              have HUB := Lib.hid UB
              have HH := Lib.hid (show (headS (l.take (i + 1))).length ≤ 20 * (i + 1) by rw [Ht1.out]; rw [S_size] at a1 a2; simp only [List.length_append]; have := Hhl.out; omega)
              have HM := Lib.hid (show (bodyS (l.take (i + 1))).length ≤ 120000 * (i + 1) by rw [Ht2.out]; simp only [List.length_append]; have := Hbl.out; omega)
              obtain ⟨P, hP⟩ : ∃ P, N ++ headS (l.take i) = P := ⟨_, rfl⟩
              obtain ⟨M, hM⟩ : ∃ M, bodyS (l.take i) = M := ⟨_, rfl⟩
              have hPl : (S P).size ≤ 7000 := by rw [S_size, ← hP, List.length_append]; have := Hhl.out; omega
              have hMl : (S M).size ≤ 36000000 := by rw [S_size, ← hM]; have := Hbl.out; omega
              have y1 : ¬ 9223372036854775807 < (S P).size + (S p1).size := by omega
              have y2 : ¬ 9223372036854775807 < (S P).size + (S p1).size + (S p2).size := by omega
              have y3 : ¬ 9223372036854775807 < (S M).size + (S T).size := by omega
              have E1 := Lib.hid (show S P ++ S p1 ++ S p2 = S (N ++ headS (l.take (i + 1))) by rw [Ht1.out, ← List.append_assoc, hP]; simp only [S_append, List.append_assoc])
              have E2 := Lib.hid (show S M ++ S T = S (bodyS (l.take (i + 1))) by rw [Ht2.out, hM]; simp only [S_append])
              have hpl : (p : Int) < 200 := by omega
              rw [hP, hM]
              clear h1 h2 hfb UA UB hp1 hp2 hT ht hbL Hds Hgd hP hM hlj
              go_wp2_with fail
              refine (HUA.out _).mono ?_
              rintro e w7 ⟨rfl, hb7⟩
              have Hb7 := Lib.hid (Hb6.out.trans (hb7.mono Hb6.out.size))
              clear hb7 Hb6
              go_wp2_with fail
              refine (HUB.out _).mono ?_
              rintro e w8 ⟨rfl, hb8⟩
              have Hb8 := Lib.hid (Hb7.out.trans (hb8.mono Hb7.out.size))
              clear hb8 Hb7
              go_wp2_with fail
              rw [E1.out, E2.out]
              go_roundw
              case rel => exact ⟨i + 1, p, by go_num, rfl, rfl, by omega, by omega, by omega, Hn.out, Lib.hid (.inr fun h => Hnx'.out h), Hb8.out, HH.out, HM.out⟩
              case measure => simp [intOf]; omega
        · rw [encV_no hF]
          have HNo := Lib.hid (encSV_no (l := l) (by rw [Hgd.out, Hds.out, show fineB L = false from by cases h : fineB L with | true => exact absurd (fineB_iff.1 h) hF | false => rfl]; rfl))
          clear hF
          go_wp2_with fail
          go_ret2
          exact ⟨by rw [HNo.out]; rfl, Hb6.out⟩
      · obtain rfl : i = n := by omega
        have hgood : goodSb (-1) l = true := by rw [Hgd.out, List.drop_eq_nil_of_le (by have := Hnl.out; omega)]; rfl
        rw [List.take_of_length_le (by have := Hnl.out; omega)] at hhl hbl ⊢
        obtain ⟨P, hP⟩ : ∃ P, N ++ headS l = P := ⟨_, rfl⟩
        obtain ⟨M, hM⟩ : ∃ M, bodyS l = M := ⟨_, rfl⟩
        have HEn := Lib.hid (show encSV l = (P ++ M, 0) by rw [encSV_good hgood, ← hP, ← hM, ← HNu.out]; unfold encS; rw [Hnl.out])
        have hPl : P.length ≤ 7000 := by rw [← hP, List.length_append]; omega
        have hMl : M.length ≤ 36000000 := by rw [← hM]; omega
        have y1 : ¬ 9223372036854775807 < (S P).size + (S M).size := by rw [S_size, S_size]; omega
        have Happ := Lib.hid (show S P ++ S M = S (P ++ M) by simp only [S_append])
        rw [hP, hM]
        clear hP hM hgood hgd hhl hbl hbel
        go_wp2_with fail
        go_ret2
        exact ⟨by rw [HEn.out, Happ.out]; rfl, Hbel.out⟩
theorem rmencode_any (A0 : Option Addr) (c0 : Nat) (xs : List SerV) (l : List Ser) (w : World) (hat : SersAt w A0 xs l) (hok : ∀ i, (h1 : i < xs.length) → (h2 : i < l.length) → SerOk xs[i] l[i]) (hl : xs.length ≤ 300) (hn : ∀ x ∈ l, x.L.length ≤ 5000) :
    Calls Try.prog 15 #[.slice A0 xs.length c0] w fun e w' => e = .returned (.tuple #[.string (S (encSV l).1), .int .i64 (encSV l).2]) ∧ Below w.heap.size w w' :=
  rmencode_ok A0 c0 xs l w hat (fun x hx => by
    obtain ⟨i, hi, rfl⟩ := List.getElem_of_mem hx
    exact (hok i (by rw [← hat.len]; exact hi) hi).2.1) hl hn
end Go.Proofs.Ytmafdbdmmfpeeaa
