/-
  The walk of cursor.bytes: the bytes of hexadecimal digits.
-/
import Derived.Test.YtfhgjangeicbjaaDoorHexPlain
import Derived.Test.YtfhgjangeicbjaaDoorBuilder
namespace Go.Proofs.YtfhgjangeicbjaaDoor
open Go Go.RowKit

/-- the digit that waits for its other half -/
def halfL (h : Int) : List UInt8 := if h < 0 then [] else [hexd h.toNat]

/-- digits that are read are bytes, or none are -/
def RetBytes (s : ByteArray) (w : World) (e : Ending) (w' : World) : Prop :=
  ∃ (l : List UInt8) (ok : Bool), e = .returned (.tuple #[.string (S l), .bool ok]) ∧ l.length ≤ s.size ∧ (ok = true → hex l = s.data.toList) ∧ (ok = false → ∀ m, hex m ≠ s.data.toList) ∧ Below w.heap.size w w'

theorem halfL_nat (g : Nat) : halfL (g : Int) = [hexd g] := by
  unfold halfL; rw [if_neg (by omega)]; rfl

theorem take_next {s : ByteArray} {p : Nat} (h : p < s.size) : s.data.toList.take (p + 1) = s.data.toList.take p ++ [s[p]] := by
  have hl : p < s.data.toList.length := by rw [← Lib.size_eq]; exact h
  rw [List.take_succ_eq_append_getElem hl]; rfl

theorem no_digit {s : ByteArray} {p : Nat} (h : p < s.size) (hd : dig s[p] = 16) (m : List UInt8) : hex m ≠ s.data.toList := by
  intro e
  have hl : p < s.data.toList.length := by rw [← Lib.size_eq]; exact h
  have := hex_digits m s[p] (by rw [e]; exact List.getElem_mem hl)
  omega

theorem dig_cases {c : UInt8} {d : Nat} (h : d = dig c) (hd : dig c < 16) : (48 ≤ c.toNat ∧ c.toNat ≤ 57 ∧ c.toNat = d + 48) ∨ (97 ≤ c.toNat ∧ c.toNat ≤ 102 ∧ c.toNat = d + 87) := by
  unfold dig at h hd
  by_cases h1 : 48 ≤ c.toNat ∧ c.toNat ≤ 57
  · rw [if_pos h1] at h; omega
  · rw [if_neg h1] at h hd
    by_cases h2 : 97 ≤ c.toNat ∧ c.toNat ≤ 102
    · rw [if_pos h2] at h; omega
    · rw [if_neg h2] at hd; omega

theorem no_cases {c : UInt8} (h : dig c = 16) : c.toNat < 48 ∨ (57 < c.toNat ∧ c.toNat < 97) ∨ 102 < c.toNat := by
  unfold dig at h
  by_cases h1 : 48 ≤ c.toNat ∧ c.toNat ≤ 57
  · rw [if_pos h1] at h; omega
  · rw [if_neg h1] at h
    by_cases h2 : 97 ≤ c.toNat ∧ c.toNat ≤ 102
    · rw [if_pos h2] at h; omega
    · omega

theorem hex_half {acc : List UInt8} {g d : Nat} (hg : g < 16) (hd : d < 16) : hex (acc ++ [byt (16 * g + d)]) = hex acc ++ [hexd g] ++ [hexd d] := by
  have hbt : (byt (16 * g + d)).toNat = 16 * g + d := u8_lt _ (by omega)
  rw [hex_snoc, hbt, show (16 * g + d) / 16 = g by omega, show (16 * g + d) % 16 = d by omega]

theorem odd_none {s : ByteArray} {acc : List UInt8} {c : UInt8} (h : s.data.toList = hex acc ++ [c]) (m : List UInt8) : hex m ≠ s.data.toList := by
  intro e
  have := congrArg List.length (e.trans h)
  rw [List.length_append, hex_length, hex_length] at this
  simp at this; omega

theorem or16 {a b : Nat} (ha : a < 16) (hb : b < 16) : bits .or .i64 ((a : Int) * 16) (b : Int) = ((16 * a + b : Nat) : Int) := by
  have e : (a : Int) * 16 = ((16 * a : Nat) : Int) := by omega
  rw [e, i64_or_nat _ _ (by omega) (by omega)]
  congr 1
  have : ∀ x y : Fin 16, 16 * x.val ||| y.val = 16 * x.val + y.val := by decide
  exact this ⟨a, ha⟩ ⟨b, hb⟩

set_option maxRecDepth 100000 in
set_option maxHeartbeats 2000000 in
theorem bytes_any (s : ByteArray) (w : World) (hs : s.size < 1099511627776) :
    Calls Tryd.prog 24 #[.string s] w (RetBytes s w) := by
  go_enter Tryd.func24, Tryd.ntmps24
  go_wp2
  go_loopw [5] (fun hv wr => ∃ (p : Nat) (acc : List UInt8) (h : Int), hv = .int .i64 h ∧ (h = -1 ∨ 0 ≤ h ∧ h < 16) ∧ p ≤ s.size ∧ s.data.toList.take p = hex acc ++ halfL h ∧ acc.length ≤ p ∧
      Bld (w.heap.size + 2) w.heap.size acc wr ∧ wr.heap[w.heap.size + 1]? = some (.stringIter s p) ∧ Below w.heap.size w wr) (fun _ wr => s.size - wr.iterPos (w.heap.size + 1))
  case atStart =>
    refine ⟨0, [], -1, rfl, .inl rfl, by omega, rfl, by simp, ?_, ?_, ?_⟩
    · exact fresh_later (by rw [← heap_alloc_new w (.cells #[.pointer none, .slice none 0 0] 48)]; exact Lib.alloc_old _ _ _ (by simp)) (by omega)
    · have := heap_alloc_new (w.alloc (.cells #[.pointer none, .slice none 0 0] 48)) (.stringIter s 0)
      simp only [World.size_alloc] at this
      exact this
    · exact below_two _ _ _
  case round =>
    obtain ⟨p, acc, h, rfl, hh, hp, hsp, hac, hB, hit, hbel⟩ := hrel
    have hsz : w.heap.size + 1 < wr.heap.size := (Array.getElem?_eq_some_iff.1 hit).1
    by_cases hlt : p < s.size
    · have hnx : ∀ ty, (Instr.next (.pointer (some ⟨w.heap.size + 1, 0, none⟩)) true ty).run Tryd.prog wr = _ := fun ty => Lib.run_next_any_at wr (w.heap.size + 1) s p ty hit hlt
      by_cases hd : dig s[p] < 16
      · obtain ⟨d, hde⟩ : ∃ d, d = dig s[p] := ⟨_, rfl⟩
        have hx : (48 ≤ s[p].toNat ∧ s[p].toNat ≤ 57 ∧ s[p].toNat = d + 48) ∨ (97 ≤ s[p].toNat ∧ s[p].toNat ≤ 102 ∧ s[p].toNat = d + 87) := dig_cases hde hd
        have ha : s[p].toNat < 128 := by omega
        rw [decode_ascii s p hlt ha] at hnx
        have hB1 := hB.iterAt hit (p + 1)
        have hit1 := Lib.iterAt_heap wr (w.heap.size + 1) s p (p + 1) hit
        have hbel1 := Lib.below_iterAt hbel (k := w.heap.size + 1) (by omega) s (p + 1)
        have hsz1 : w.heap.size + 2 ≤ (wr.iterAt (w.heap.size + 1) s (p + 1)).heap.size := by rw [Lib.iterAt_size]; omega
        rw [hde.symm] at hd
        have Htk := Lib.hid (take_next hlt)
        have Hc : Hid (hexd d = s[p]) := by rw [hde]; exact hexd_dig (by rw [← hde]; exact hd)
        have Hsp := Lib.hid hsp
        have Hit := Lib.hid hit
        generalize s[p].toNat = x at *
        generalize wr.iterAt (w.heap.size + 1) s (p + 1) = w1 at *
        clear hde hsp hB hit hbel
        have hd16 : (d : Int) < 16 := by omega
        rcases hh with rfl | ⟨h0, h16⟩
        · rcases hx with ⟨x1, x2, hxd⟩ | ⟨x1, x2, hxd⟩
          all_goals
            subst hxd
            go_wp2_with fail
            go_roundw
            case rel =>
              refine ⟨p + 1, acc, d, by go_num, .inr ⟨by omega, hd16⟩, by omega, ?_, by omega, hB1, hit1, hbel1⟩
              rw [Htk.out, Hsp.out, ← Hc.out]; simp [halfL]
            case measure =>
              simp only [World.iterPos, hit1, Hit.out]
              omega
        · obtain ⟨g, rfl⟩ : ∃ g : Nat, h = (g : Int) := ⟨h.toNat, by omega⟩
          have hg : g < 16 := by omega
          have hbt : (byt (16 * g + d)).toNat = 16 * g + d := u8_lt _ (by omega)
          have ho := or16 hg hd
          have hn : decide ((g : Int) < 0) = false := by simp
          obtain ⟨y, hy⟩ : ∃ y, y = 16 * g + d := ⟨_, rfl⟩
          have hy255 : y < 256 := by omega
          rw [← hy] at ho
          have W := Lib.hid (fun y' h1 => writeByte_any _ _ _ y' (byt (16 * g + d)) _ h1 hB1 (by omega) hsz1)
          have Hy := Lib.hid hy
          rw [← hy] at hbt
          clear hy
          rcases hx with ⟨x1, x2, hxd⟩ | ⟨x1, x2, hxd⟩
          all_goals
            subst hxd
            go_wp2_with fail
            refine (W.out _ ?_).mono ?_
            · rw [← Hy.out, hbt]
              try (rw [show (d : Int) + 87 - 97 + 10 = (d : Int) by omega, ho]; omega)
            rintro e w2 ⟨rfl, hB2, hbs⟩
            have hit2 := (hbs.block (w.heap.size + 1) (by omega) (by omega)).trans hit1
            go_wp2_with fail
            go_roundw
            case rel =>
              refine ⟨p + 1, _, -1, rfl, .inl rfl, by omega, ?_, ?_, hB2, hit2, hbel1.trans (hbs.below (by omega) (by omega))⟩
              · rw [Htk.out, Hsp.out, ← Hc.out, hex_half hg hd, halfL_nat]; simp [halfL]
              · rw [List.length_append, List.length_cons, List.length_nil]; omega
            case measure =>
              simp only [World.iterPos, hit2, Hit.out]
              omega
      · have hd16 : dig s[p] = 16 := by have := dig_le s[p]; omega
        have hno := no_digit hlt hd16
        have hr : (Utf8.decode s p).1 < 48 ∨ (57 < (Utf8.decode s p).1 ∧ (Utf8.decode s p).1 < 97) ∨ 102 < (Utf8.decode s p).1 := by
          by_cases ha : s[p].toNat < 128
          · rw [decode_ascii s p hlt ha]
            exact no_cases hd16
          · have := (decode_high s p hlt (by omega)).1
            omega
        have hr2 := decode_le s p
        have hbel1 := Lib.below_iterAt hbel (k := w.heap.size + 1) (by omega) s (p + (Utf8.decode s p).2)
        have Hno := Lib.hid hno
        generalize (Utf8.decode s p).1 = x at *
        generalize wr.iterAt (w.heap.size + 1) s (p + (Utf8.decode s p).2) = w1 at *
        clear hno hd hd16 hB hit
        rcases hr with hr | ⟨hr, hr'⟩ | hr
        all_goals
          go_wp2_with fail
          go_ret2
          exact ⟨[], false, rfl, by simp, nofun, fun _ => Hno.out, hbel1⟩
    · have hnx : ∀ ty, (Instr.next (.pointer (some ⟨w.heap.size + 1, 0, none⟩)) true ty).run Tryd.prog wr = _ := fun ty => Lib.run_next_end_at wr (w.heap.size + 1) s p ty hit hlt
      obtain rfl : p = s.size := by omega
      rw [List.take_of_length_le (by rw [← Lib.size_eq]; exact Nat.le_refl _)] at hsp
      have Hsp := Lib.hid hsp
      clear hsp
      have C := Lib.hid (string_any _ _ _ _ hB (by omega))
      clear hB
      go_wp2_with fail
      refine C.out.mono ?_
      rintro e w1 ⟨rfl, hb1⟩
      rcases hh with rfl | ⟨h0, h16⟩
      · go_wp2_with fail
        go_ret2
        refine ⟨acc, true, rfl, by omega, fun _ => ?_, nofun, hbel.trans (hb1.mono (by omega))⟩
        rw [Hsp.out]; simp [halfL]
      · have hd : decide (h < 0) = false := by simp; omega
        go_wp2_with fail
        go_ret2
        refine ⟨acc, false, rfl, by omega, nofun, fun _ => ?_, hbel.trans (hb1.mono (by omega))⟩
        exact odd_none (by rw [Hsp.out, halfL, if_neg (by omega)])
end Go.Proofs.YtfhgjangeicbjaaDoor
