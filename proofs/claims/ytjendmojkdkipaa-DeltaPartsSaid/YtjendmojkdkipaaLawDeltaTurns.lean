/-
  The walk of the law 'DeltaTurns'.
-/
import Derived.Test.YtjendmojkdkipaaRDDec
import Derived.Test.YtjendmojkdkipaaSampEq
namespace Go.Proofs.Ytjendmojkdkipaa
open Go Go.RowKit Go.Deep Go.ChangeShapes Go.WideShapes

def intCell (n : Int) : List Value := [.int .i64 n]
theorem intCell_length (n : Int) : (intCell n).length = 1 := rfl
section
variable {H : Type} {enc : TypeId × Value → H} {w : World}
theorem int_elem : ∀ n cs y, cs.length = 1 → DataW.trod enc Try.prog w 0 (fun _ => true) true n 3 cs = some y → ∃ x, cs = intCell x ∧ In64 x := by
  intro n cs y hl h
  match cs, hl with
  | [v], _ =>
    obtain ⟨a, ha, _, wa⟩ := DataW.trod_int Try.underlying3 h
    simp at ha
    subst ha
    exact ⟨a, rfl, bounds_i64 wa⟩
theorem read_ints {v : Value} {d : DataW H} {p : List MemPlace} {r : Reach} {b0 : Nat} (hv : Value.okWide Try.prog w r b0 34 v) (h : DataW.Trod enc Try.prog w 0 (fun _ => true) true 34 v d p) :
    ∃ A c, ∃ xs : List Int, v = .slice A xs.length c ∧ Rd w 1 A xs.length (xs.flatMap intCell) ∧ (∀ x ∈ xs, In64 x) ∧ xs.length ≤ c ∧ c ≤ maxLen :=
  read_slice intCell_length (by decide) Try.underlying34 (by kernel_rfl) int_elem hv h
end
theorem int_at' {w : World} {A : Option Addr} {n : Nat} {xs : List Int} (h : Rd w 1 A n (xs.flatMap intCell)) {i : Nat} (hi : i < xs.length) :
    ∃ b off, A = some ⟨b, off, none⟩ ∧ b < w.heap.size ∧ w.cell? ⟨b, off + i, none⟩ = some (.int .i64 xs[i]) := by
  obtain ⟨b, off, e, hb, hc⟩ := h.elem intCell_length (by decide) hi
  exact ⟨b, off, e, hb, by have := hc 0 _ rfl; rwa [Nat.mul_one, Nat.add_zero] at this⟩

/-- the samples of values -/
def turnL (vs : List Int) : List Sample := (List.range vs.length).map fun i => ⟨((3 * i : Nat) : Int), vs.getD i 0⟩
def turnT (vs : List Int) (m : Nat) : List Sample := (turnL vs).take m
theorem turnL_length (vs : List Int) : (turnL vs).length = vs.length := by simp [turnL]
theorem turnL_get {vs : List Int} {i : Nat} (h : i < vs.length) : (turnL vs)[i]'(by rw [turnL_length]; exact h) = ⟨((3 * i : Nat) : Int), vs[i]⟩ := by
  simp [turnL, List.getD_eq_getElem?_getD, List.getElem?_eq_getElem h]
theorem turnT_next {vs : List Int} {j : Nat} (h : j < vs.length) : turnT vs (j + 1) = turnT vs j ++ [⟨((3 * j : Nat) : Int), vs[j]⟩] := by
  unfold turnT
  rw [List.take_succ_eq_append_getElem (by rw [turnL_length]; exact h), turnL_get h]
theorem turnL_fine {vs : List Int} (hv : ∀ x ∈ vs, In64 x) (hl : vs.length ≤ 100) : Fine (turnL vs) ∧ ∀ x ∈ turnL vs, Sample.ok x := by
  refine ⟨⟨fun x hx => ?_, fun i hi => ?_⟩, fun x hx => ?_⟩
  · obtain ⟨i, hi, rfl⟩ := List.getElem_of_mem hx
    have hi' : i < vs.length := by rwa [turnL_length] at hi
    rw [turnL_get hi']
    simp only
    omega
  · rw [turnL_length] at hi
    rw [turnL_get hi, turnL_get (show i < vs.length by omega)]
    simp only
    omega
  · obtain ⟨i, hi, rfl⟩ := List.getElem_of_mem hx
    have hi' : i < vs.length := by rwa [turnL_length] at hi
    rw [turnL_get hi']
    refine ⟨?_, hv _ (List.getElem_mem hi')⟩
    unfold In64
    simp only
    omega

set_option maxRecDepth 100000 in
set_option maxHeartbeats 2000000 in
theorem deltaTurns_walk (w : World) (v0 : Value) (g0 : ∃ A c, ∃ xs : List Int, v0 = .slice A xs.length c ∧ Rd w 1 A xs.length (xs.flatMap intCell) ∧ (∀ x ∈ xs, In64 x) ∧ xs.length ≤ c ∧ c ≤ maxLen) :
    Calls Try.prog 5 #[v0] w fun e w' => e = .returned (.bool true) ∧ Below w.heap.size w w' := by
  obtain ⟨A, c, vs, rfl, hrd, hok, hc, hcm⟩ := g0
  by_cases h : 100 < vs.length
  · have hd : decide ((100 : Int) < (vs.length : Int)) = true := decide_eq_true (by omega)
    go_enter Try.func5, Try.ntmps5
    go_wp2_with fail
    go_ret
    exact ⟨rfl, Below.refl _ _⟩
  · have hd : decide ((100 : Int) < (vs.length : Int)) = false := decide_eq_false (by omega)
    have hM := Lib.hid (made0' w 25 2)
    have Hrd := Lib.hid hrd
    have Hok := Lib.hid hok
    clear hrd hok
    go_enter Try.func5, Try.ntmps5
    go_wp2_with fail
    go_loopw [3, 4] (fun av ix wr => ∃ j : Nat, ix = .int .i64 j ∧ j ≤ vs.length ∧ wr.ownsRow w.heap.size 25 2 av j ((turnT vs j).flatMap sampleCells) ∧ Below w.heap.size w wr ∧ w.heap.size ≤ wr.heap.size) (fun _ ix _ => vs.length - (intOf ix).toNat)
    case atStart => exact ⟨0, rfl, by omega, hM.out, Below.one _ _, by simp⟩
    case round =>
      obtain ⟨j, rfl, hj, hown, hbel, hsz⟩ := hrel
      by_cases hlt : j < vs.length
      · obtain ⟨b, off, rfl, hb, f0⟩ := int_at' (Hrd.out.below hbel) hlt
        have HE := Lib.hid (show (turnT vs (j + 1)).flatMap sampleCells = (turnT vs j).flatMap sampleCells ++ [.int .i64 (3 * (j : Int)), .int .i64 vs[j]] by
          rw [turnT_next hlt, List.flatMap_append]
          simp [sampleCells])
        have Hbel := Lib.hid hbel
        clear hbel
        generalize (turnT vs j).flatMap sampleCells = zs at *
        generalize vs[j] = vj at *
        go_wp2_with (at_builtin; go_must (refine wpList_append_elem rfl _ _ 23 (by rfl) 25 (.agg #[.int .i64 0, .int .i64 0]) 2 16 Try.underlying23 sampleInf rfl (by decide) _ j zs _ w wr #[.int .i64 (3 * (j : Int)), .int .i64 vj] rfl (by intro u hu; simp at hu; rcases hu with rfl | rfl <;> rfl) hown (by rfl) Hbel.out hsz (by rfl) (by unfold maxLen; omega) (by omega) ?_); intro v' w5 hown5 _ hb5 hs5 _ _)
        go_roundw
        case rel => exact ⟨j + 1, by go_num, by omega, by rw [HE.out]; exact hown5, hb5, hs5⟩
        case measure => simp [intOf]; omega
      · obtain rfl : j = vs.length := by omega
        obtain ⟨A1, c1, rfl, hrd1, hc1, hcm1⟩ := own_slice hown
        obtain ⟨hfine, hokl⟩ := turnL_fine Hok.out (show vs.length ≤ 100 by omega)
        have hlen := turnL_length vs
        have etk : turnT vs vs.length = turnL vs := List.take_of_length_le (by rw [hlen]; exact Nat.le_refl _)
        rw [etk] at hrd1
        have E1 := denc_all A1 c1 (turnL vs) wr (by rw [hlen]; exact hrd1) hokl (by omega) (by omega) hcm1
        have E2 := fun w' h => rdenc_all A1 c1 (turnL vs) w' (by rw [hlen]; exact h) hokl (by omega)
        rw [encV_fine hfine, hlen] at E1
        simp only [encV_fine hfine, hlen] at E2
        obtain ⟨d1, d2⟩ := dec_enc hfine hokl (by omega)
        have hle : (S (encB (turnL vs))).size ≤ 10000 := by rw [S_size]; have := encB_len hfine hokl (by omega); omega
        have D1 := fun w => ddec_one (S (encB (turnL vs))) w (by omega)
        simp only [S_toList, d1, d2, hlen] at D1
        have HE1 := Lib.hid E1
        have HE2 := Lib.hid E2
        have HD1 := Lib.hid D1
        have Hr := Lib.hid hrd1
        have Hb := Lib.hid hbel
        have Hlen := Lib.hid hlen
        have SM := Lib.hid (fun A B ca cb w h1 h2 => same03_any A B ca cb (turnL vs) (turnL vs) w h1 h2 (by omega))
        rw [hlen, samesB_self] at SM
        clear E1 E2 D1 d1 d2 hfine hokl hrd1 hbel hown etk hlen
        generalize S (encB (turnL vs)) = T at *
        generalize (turnL vs).flatMap sampleCells = zs at *
        go_wp2_with fail
        refine HE1.out.mono ?_
        rintro e w1 ⟨rfl, hb1⟩
        have Hr1 := Lib.hid (Hr.out.below hb1)
        have Hb1 := Lib.hid (Hb.out.trans (hb1.mono hsz))
        clear hb1
        go_wp2_with fail
        refine (HD1.out _).mono ?_
        rintro e w2 ⟨B, d, rfl, hr2, _, _, hb2⟩
        have Hr2 := Lib.hid (Hr1.out.below hb2)
        have Hr3 := Lib.hid hr2
        have Hb2 := Lib.hid (Hb1.out.trans (hb2.mono Hb1.out.size))
        clear hb2 hr2
        go_wp2_with fail
        refine (HE2.out _ Hr2.out).mono ?_
        rintro e w3 ⟨rfl, hb3⟩
        have Hr4 := Lib.hid (Hr2.out.below hb3)
        have Hr5 := Lib.hid (Hr3.out.below hb3)
        have Hb3 := Lib.hid (Hb2.out.trans (hb3.mono Hb2.out.size))
        clear hb3
        go_wp2_with fail
        refine (SM.out _ _ _ _ _ Hr5.out Hr4.out).mono ?_
        rintro e w4 ⟨rfl, hb4⟩
        have Hb4 := Lib.hid (Hb3.out.trans (hb4.mono Hb3.out.size))
        clear hb4
        go_wp2_with fail
        go_ret
        exact ⟨rfl, Hb4.out⟩
end Go.Proofs.Ytjendmojkdkipaa
