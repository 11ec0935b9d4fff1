/-
  The walks of the sums: the program's, by a table, and the document's.
-/
import Derived.Test.YtfhgjangeicbjaaDoorOwn
import Derived.Test.YtfhgjangeicbjaaDoorCrcPlain
import Derived.Lib.LaidTab
namespace Go.Proofs.YtfhgjangeicbjaaDoor
open Go Go.RowKit

/-- the table lies where the program lays it -/
def Tab (w : World) : Prop := 0 < w.heap.size ∧ ∀ i, i < 16 → w.cell? ⟨0, i, none⟩ = some (.int .u16 (stepOf i : Nat))
theorem Tab.below {w w' : World} (h : Tab w) (hb : Below w.heap.size w w') : Tab w' :=
  ⟨Nat.lt_of_lt_of_le h.1 hb.size, fun i hi => (hb.cell (p := ⟨0, i, none⟩) h.1).trans (h.2 i hi)⟩
theorem Tab.alloc {w : World} (h : Tab w) (o : Obj) : Tab (w.alloc o) := h.below ((Below.refl _ _).alloc (Nat.le_refl _) o)

theorem tab_of {P : Program} {W : World} (h : Lib.TabIs P W "strandline/frame.steps" .u16 [0, 4129, 8258, 12387, 16516, 20645, 24774, 28903, 33032, 37161, 41290, 45419, 49548, 53677, 57806, 61935]) (hg : P.globalNamed "strandline/frame.steps" = some 0) : Tab W := by
  have key : ∀ i, i < 16 → W.cell? ⟨0, i, none⟩ = some (.int .u16 (stepOf i : Nat)) := by
    intro i hi
    have h1 := h.cell hg i hi
    rw [h1]
    have h2 := congrArg (fun l => l[i]?) stepOf_table
    simp only [List.getElem?_map, List.getElem?_range hi, Option.map_some] at h2
    have h3 : ∀ (l : List Nat) (zs : List Int), zs = l.map (fun (n : Nat) => (n : Int)) → l[i]? = some (stepOf i) → zs.getD i 0 = (stepOf i : Int) := by
      intro l zs hz hl
      rw [hz, List.getD_eq_getElem?_getD, List.getElem?_map, hl]; rfl
    rw [h3 _ _ (by rfl) h2.symm]
  exact ⟨World.block_lt_of_cell? W _ (key 0 (by decide)), key⟩

theorem getElem_data {s : ByteArray} {j : Nat} (h : j < s.size) : s.data.toList.take (j + 1) = s.data.toList.take j ++ [s[j]] := by
  have hl : j < s.data.toList.length := by rw [← Lib.size_eq]; exact h
  rw [List.take_succ_eq_append_getElem hl]; rfl
theorem crc_snoc (l : List UInt8) (b : UInt8) : crc (l ++ [b]) = crcByte (crc l) b.toNat := by unfold crc; rw [crcFrom_append]; rfl

theorem half_prog {c n : Nat} (h : stepOf n < 65536) : bits .xor .u16 (IntKind.u16.wrap ((c : Int) * 16)) (stepOf n : Nat) = (((c * 16 % 65536) ^^^ stepOf n : Nat) : Int) := by
  have e : IntKind.u16.wrap ((c : Int) * 16) = ((c * 16 % 65536 : Nat) : Int) := by
    simp [IntKind.wrap, IntKind.bits, IntKind.signed]
  rw [e, u16_xor_nat _ _ (Nat.mod_lt _ (by decide)) h]
theorem stepOf_lt (n : Nat) : stepOf n < 65536 := bit4_lt _
theorem nib_prog {c h : Nat} (hc : c < 65536) (hh : h < 16) : bits .xor .u16 ((c : Int) / 4096) (h : Nat) = ((c / 4096 ^^^ h : Nat) : Int) := by
  have e : (c : Int) / 4096 = ((c / 4096 : Nat) : Int) := by omega
  rw [e, u16_xor_nat _ _ (by omega) (by omega)]
theorem nib_lt {c h : Nat} (hc : c < 65536) (hh : h < 16) : c / 4096 ^^^ h < 16 := Nat.xor_lt_two_pow (n := 4) (by omega) hh
theorem and15 {b : Nat} (hb : b < 256) : bits .and .u8 (b : Int) 15 = (b : Int) % 16 := by
  have := bits_mask .u8 8 (by decide) wraps_u8 4 (by decide) (b : Int) (by omega) (by omega)
  simpa using this

set_option maxRecDepth 100000 in
set_option maxHeartbeats 1000000 in
theorem crc_any (s : ByteArray) (w : World) (ht : Tab w) (hs : s.size < 1099511627776) :
    Calls Tryd.prog 33 #[.string s] w fun e w' => e = .returned (.int .i64 (crc s.data.toList)) ∧ Below w.heap.size w w' := by
  obtain ⟨cap, w1, hcv, hb1, hlt1, -, hcell⟩ := bytes_of_string (P := Tryd.prog) w 9 38 5 s Tryd.underlying9 Tryd.underlying38 Tryd.underlying5
  have Hcell := Lib.hid hcell
  have HT := Lib.hid (ht.below hb1)
  clear hcell ht
  go_enter Tryd.func33, Tryd.ntmps33
  go_wp2_with fail
  go_loop [3, 9] (fun c i => ∃ j : Nat, i = .int .i64 j ∧ j ≤ s.size ∧ c = .int .u16 (crc (s.data.toList.take j) : Nat)) (fun _ i => s.size - (intOf i).toNat)
  case atStart => exact ⟨0, rfl, by omega, rfl⟩
  case round =>
    obtain ⟨j, rfl, hj, rfl⟩ := hrel
    by_cases hlt : j < s.size
    · have hc := crc_lt (s.data.toList.take j)
      have Hsn := Lib.hid (crc_snoc (s.data.toList.take j) s[j])
      have hb := (s[j]).toNat_lt
      have hcj := Hcell.out j hlt
      have Htk := Lib.hid (getElem_data hlt)
      generalize crc (s.data.toList.take j) = c at hc Hsn
      generalize hbn : s[j].toNat = b at hb hcj Hsn
      rw [byte_halves c b hb] at Hsn
      have e1 := nib_prog (h := b / 16) hc (by omega)
      have l1 := nib_lt (h := b / 16) hc (by omega)
      generalize hn1 : c / 4096 ^^^ b / 16 = n1 at e1 l1 Hsn
      have e2 := half_prog (c := c) (n := n1) (stepOf_lt n1)
      have t1 := HT.out.2 n1 l1
      have l2 : c * 16 % 65536 ^^^ stepOf n1 < 65536 := xor_lt16 (Nat.mod_lt _ (by decide)) (stepOf_lt _)
      generalize hc1 : c * 16 % 65536 ^^^ stepOf n1 = c1 at e2 l2 Hsn
      have e3 := nib_prog (h := b % 16) l2 (by omega)
      have l3 := nib_lt (h := b % 16) l2 (by omega)
      generalize hn2 : c1 / 4096 ^^^ b % 16 = n2 at e3 l3 Hsn
      have e4 := half_prog (c := c1) (n := n2) (stepOf_lt n2)
      have t2 := HT.out.2 n2 l3
      have e5 := and15 hb
      have e1' : bits .xor .u16 ((c : Int) / 4096) ((b : Int) / 16) = (n1 : Int) := by rw [← e1]; simp
      have e3' : bits .xor .u16 ((c1 : Int) / 4096) ((b : Int) % 16) = (n2 : Int) := by rw [← e3]; simp
      clear e1 e3 hn1 hc1 hn2 hbn
      generalize stepOf n1 = s1 at *
      generalize stepOf n2 = s2 at *
      go_wp2_with fail
      go_round
      case rel => exact ⟨j + 1, by go_num, by omega, by rw [Htk.out, Hsn.out]⟩
      case measure => simp [intOf]; omega
    · have hc := crc_lt (s.data.toList.take j)
      have Hj := Lib.hid (show s.data.toList.take j = s.data.toList from List.take_of_length_le (by rw [← Lib.size_eq]; omega))
      go_wp2_with fail
      go_ret
      exact ⟨ret_int (by rw [Hj.out]), hb1⟩

/-- k bits more -/
def bits1 : Nat → Nat → Nat
  | 0, x => x
  | k + 1, x => bit1 (bits1 k x)
theorem bits1_lt {x : Nat} (h : x < 65536) : ∀ k, bits1 k x < 65536 := by
  intro k
  cases k with
  | zero => exact h
  | succ k => exact bit1_lt _

set_option maxRecDepth 100000 in
set_option maxHeartbeats 1000000 in
theorem rcrc_any (s : ByteArray) (w : World) (hs : s.size < 1099511627776) :
    Calls Tryd.prog 35 #[.string s] w fun e w' => e = .returned (.int .i64 (crc s.data.toList)) ∧ w = w' := by
  go_enter Tryd.func35, Tryd.ntmps35
  go_wp2_with fail
  go_loop [3, 4] (fun c i => ∃ j : Nat, i = .int .i64 j ∧ j ≤ s.size ∧ c = .int .i64 (crc (s.data.toList.take j) : Nat)) (fun _ i => s.size - (intOf i).toNat)
  case atStart => exact ⟨0, rfl, by omega, rfl⟩
  case round =>
    obtain ⟨j, rfl, hj, rfl⟩ := hrel
    by_cases hlt : j < s.size
    · have hc := crc_lt (s.data.toList.take j)
      have Hsn := Lib.hid (crc_snoc (s.data.toList.take j) s[j])
      have Htk := Lib.hid (getElem_data hlt)
      have hb := (s[j]).toNat_lt
      generalize crc (s.data.toList.take j) = c at hc Hsn
      have e1 := i64_xor_nat c (s[j].toNat * 256) (by omega) (by omega)
      have hx : c ^^^ s[j].toNat * 256 < 65536 := xor_lt16 hc (by omega)
      unfold crcByte at Hsn
      generalize hx0 : c ^^^ s[j].toNat * 256 = x at e1 hx Hsn
      have e1' : bits .xor .i64 (c : Int) ((s[j].toNat : Int) * 256) = (x : Int) := by rw [← e1]; simp
      clear e1 hx0
      go_wp2_with fail
      go_loop [3, 5] (fun c k => ∃ m : Nat, k = .int .i64 m ∧ m ≤ 8 ∧ c = .int .i64 (bits1 m x : Nat)) (fun _ k => 8 - (intOf k).toNat)
      case atStart => exact ⟨0, rfl, by omega, rfl⟩
      case round =>
        obtain ⟨m, rfl, hm, rfl⟩ := hrel
        clear e1' hb
        by_cases hm8 : m < 8
        · have hy := bits1_lt hx m
          have Hy : Hid (bits1 (m + 1) x = bit1 (bits1 m x)) := rfl
          generalize bits1 m x = y at hy Hy
          by_cases h15 : 32768 ≤ y
          · have e2 := i64_xor_nat (y * 2 - 65536) 4129 (by omega) (by omega)
            have Hl := Lib.hid (bit1_large h15 hy)
            have e2' : bits .xor .i64 ((y : Int) * 2 - 65536) 4129 = (((y * 2 - 65536) ^^^ 4129 : Nat) : Int) := by rw [← e2]; congr 1; omega
            have hd : decide (65536 ≤ (y : Int) * 2) = true := by simp; omega
            clear e2 h15 hc hx
            go_wp2_with fail
            go_round
            case rel => exact ⟨m + 1, by go_num, by omega, by rw [Hy.out, Hl.out]⟩
            case measure => simp [intOf]; omega
          · have Hl := Lib.hid (bit1_small (show y < 32768 by omega))
            have hd : decide (65536 ≤ (y : Int) * 2) = false := by simp; omega
            have hy2 : y < 32768 := by omega
            clear hy h15 hc hx
            go_wp2_with fail
            go_round
            case rel => exact ⟨m + 1, by go_num, by omega, by rw [Hy.out, Hl.out]; go_num⟩
            case measure => simp [intOf]; omega
        · obtain rfl : m = 8 := by omega
          go_wp2_with fail
          go_round
          case rel => exact ⟨j + 1, by go_num, by omega, by rw [Htk.out, Hsn.out]; rfl⟩
          case measure => simp [intOf]; omega
    · have Hj := Lib.hid (show s.data.toList.take j = s.data.toList from List.take_of_length_le (by rw [← Lib.size_eq]; omega))
      go_wp2_with fail
      go_ret
      exact ⟨ret_int (by rw [Hj.out]), rfl⟩
end Go.Proofs.YtfhgjangeicbjaaDoor
