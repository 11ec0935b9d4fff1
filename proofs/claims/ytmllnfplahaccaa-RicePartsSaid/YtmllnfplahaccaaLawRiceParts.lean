/-
  The walk of the law 'RiceParts'.
-/
import Derived.Test.YtmllnfplahaccaaWLaw
namespace Go.Proofs.Ytmllnfplahaccaa
open Go Go.RowKit

/-- two writers in one world -/
structure Duo (B b c : Nat) (s t : WSt) (F G : Nat → Prop) (w : World) : Prop where
  one : WrF b s F w
  two : WrF c t G w
  dis : ∀ k, F k → ¬ G k
  fb : ∀ k, F k → B ≤ k
  gb : ∀ k, G k → B ≤ k
theorem Duo.size {B b c : Nat} {s t : WSt} {F G : Nat → Prop} {w : World} (h : Duo B b c s t F G w) : B ≤ w.heap.size := by
  have h1 := h.fb b h.one.at_
  have h2 := h.one.lt b h.one.at_
  omega
theorem Duo.left {B b c : Nat} {s s' t : WSt} {F F' G : Nat → Prop} {w w' : World} (h : Duo B b c s t F G w) (h1 : WrF b s' F' w') (h2 : Frm F F' w w') : Duo B b c s' t F' G w' ∧ Below B w w' :=
  ⟨⟨h1, h.two.frm (wr_local c t) h2 h.dis, h2.apart h.dis h.two.lt, fun k hk => (h2.new k hk).elim (h.fb k) (fun e => Nat.le_trans h.size e), h.gb⟩, h2.below h.size h.fb⟩
theorem Duo.right {B b c : Nat} {s t t' : WSt} {F G G' : Nat → Prop} {w w' : World} (h : Duo B b c s t F G w) (h1 : WrF c t' G' w') (h2 : Frm G G' w w') : Duo B b c s t' F G' w' ∧ Below B w w' :=
  ⟨⟨h.one.frm (wr_local b s) h2 (fun k hg hf => h.dis k hf hg), h1, fun k hf hg => h2.apart (fun k hg hf => h.dis k hf hg) h.one.lt k hg hf, h.fb, fun k hk => (h2.new k hk).elim (h.gb k) (fun e => Nat.le_trans h.size e)⟩, h2.below h.size h.gb⟩
theorem duo_new (w : World) (o : Obj) (ho : o = .cells #[.pointer none, .slice none 0 0, .int .u64 0, .int .i64 0] 58) :
    Duo w.heap.size w.heap.size (w.heap.size + 1) WSt.none WSt.none (fun k => k = w.heap.size) (fun k => k = w.heap.size + 1) ((w.alloc o).alloc o) ∧ Below w.heap.size w ((w.alloc o).alloc o) := by
  subst ho
  have a1 := newW w
  obtain ⟨w1, hw1⟩ : ∃ w1, w1 = w.alloc (.cells #[.pointer none, .slice none 0 0, .int .u64 0, .int .i64 0] 58) := ⟨_, rfl⟩
  have hs1 : w1.heap.size = w.heap.size + 1 := by rw [hw1]; simp
  have a2 := newW w1
  have hb1 : Below w.heap.size w w1 := by rw [hw1]; exact Below.one w _
  rw [hs1] at a2
  rw [← hw1] at a1 ⊢
  exact ⟨⟨a1.below (wr_local _ _) (Below.one w1 _), a2, by intro k h1 h2; omega, by intro k h1; omega, by intro k h1; omega⟩, hb1.then (Below.one w1 _)⟩

/-- the bits, at once and in two parts -/
theorem parts_plain {n m t : Nat} (a : WSt) (hm : m ≤ 64) (ht : t ≤ m) (hn : n < 2 ^ m) (ha : a.ok) :
    n / 2 ^ t < 2 ^ (m - t) ∧ n % 2 ^ t < 2 ^ t ∧ (a.all n m).ok ∧ (a.all n m).L.length ≤ a.L.length + 9 ∧ (a.all (n / 2 ^ t) (m - t)).ok ∧ (a.all (n / 2 ^ t) (m - t)).L.length ≤ a.L.length + 9 ∧
      ((a.all (n / 2 ^ t) (m - t)).all (n % 2 ^ t) t).ok ∧ ((a.all (n / 2 ^ t) (m - t)).all (n % 2 ^ t) t).L.length ≤ a.L.length + 18 ∧
      ((a.all (n / 2 ^ t) (m - t)).all (n % 2 ^ t) t).bits = (a.all n m).bits := by
  have hp := Nat.two_pow_pos t
  have h1 : n / 2 ^ t < 2 ^ (m - t) := by
    rw [Nat.div_lt_iff_lt_mul hp, ← Nat.pow_add, show m - t + t = m by omega]; exact hn
  obtain ⟨o1, l1⟩ := all_ok m a n ha
  obtain ⟨o2, l2⟩ := all_ok (m - t) a (n / 2 ^ t) ha
  obtain ⟨o3, l3⟩ := all_ok t _ (n % 2 ^ t) o2
  refine ⟨h1, Nat.mod_lt _ hp, o1, by omega, o2, by omega, o3, by omega, ?_⟩
  rw [all_is, all_is, all_is, List.append_assoc]
  congr 1
  have := lowL_split (a := n / 2 ^ t) (n := n % 2 ^ t) (k := t) (m - t) (Nat.mod_lt _ hp)
  rw [Nat.mul_comm, Nat.div_add_mod, show m - t + t = m by omega] at this
  exact this.symm

theorem mask_facts {t : Nat} (ht : t ≤ 64) (n : Nat) (hn : n < 18446744073709551616) : ∃ P : Int, IntKind.u64.wrap ((2 : Int) ^ t) = P ∧ IntKind.u64.wrap (P - 1) = (2 : Int) ^ t - 1 ∧ bits .and .u64 (n : Int) ((2 : Int) ^ t - 1) = ((n % 2 ^ t : Nat) : Int) := by
  have hm := bits_mask .u64 64 (by decide) wraps_u64 t ht (n : Int) (by omega) (by omega)
  have hmi : (n : Int) % 2 ^ t = ((n % 2 ^ t : Nat) : Int) := by norm_cast
  rw [hmi] at hm
  by_cases h : t = 64
  · subst h; exact ⟨0, by decide, by decide, hm⟩
  · have hp : (2 : Nat) ^ t ≤ 2 ^ 63 := Nat.pow_le_pow_right (n := 2) (by decide) (by omega)
    have hp0 := Nat.two_pow_pos t
    have hpi : (2 : Int) ^ t = ((2 ^ t : Nat) : Int) := by norm_cast
    exact ⟨(2 : Int) ^ t, IntWalk.u64_in _ (by omega), IntWalk.u64_in _ (by omega), hm⟩

set_option maxRecDepth 100000 in
set_option maxHeartbeats 1000000 in
theorem riceParts_walk (n at' many ahead k : Nat) (hn : n < 18446744073709551616) (hat : at' < 256) (hmany : many < 256) (hahead : ahead < 18446744073709551616) (hk : k < 256) (w : World) :
    Calls Try.prog 7 #[.int .u64 n, .int .u8 at', .int .u8 many, .int .u64 ahead, .int .u8 k] w fun e w' => e = .returned (.bool true) ∧ Below w.heap.size w w' := by
  obtain ⟨m, hm⟩ : ∃ m, m = many % 65 := ⟨_, rfl⟩
  obtain ⟨kk, hkk⟩ : ∃ kk, kk = k % 41 := ⟨_, rfl⟩
  obtain ⟨t, ht⟩ : ∃ t, t = at' % (m + 1) := ⟨_, rfl⟩
  have htm : t ≤ m := by have := Nat.mod_lt at' (show 0 < m + 1 by omega); omega
  obtain ⟨n', hn'⟩ : ∃ n', n' = n % 2 ^ m := ⟨_, rfl⟩
  have hm64 : m ≤ 64 := by omega
  have hn'm : n' < 2 ^ m := by rw [hn']; exact Nat.mod_lt _ (Nat.two_pow_pos m)
  have hp64 : (2 : Nat) ^ m ≤ 18446744073709551616 := Nat.pow_le_pow_right (n := 2) (by decide) hm64
  have hn'64 : n' < 18446744073709551616 := by omega
  obtain ⟨o1, l1⟩ := rice_ok (n := ahead) (k := kk) none_ok (by omega)
  have hl0 : WSt.none.L.length = 0 := rfl
  obtain ⟨s1, hs1⟩ : ∃ s1, s1 = WSt.none.rice ahead kk := ⟨_, rfl⟩
  rw [← hs1] at o1 l1
  obtain ⟨f1, f2, p1, q1, p2, q2, p3, q3, hbits⟩ := parts_plain (n := n') (m := m) (t := t) s1 hm64 htm hn'm o1
  have hout := out_eq p3.1 p1.1 hbits
  have hb1 : (s1.all n' m).bits.length = costOne ahead kk + m := by rw [all_is, List.length_append, lowL_length, hs1, rice_is, none_bits, List.nil_append, codeL_length]
  have hlen1 : 8 * (s1.all n' m).L.length + (s1.all n' m).m = costOne ahead kk + m := by rw [← bits_len, hb1]
  have hlen3 : 8 * ((s1.all (n' / 2 ^ t) (m - t)).all (n' % 2 ^ t) t).L.length + ((s1.all (n' / 2 ^ t) (m - t)).all (n' % 2 ^ t) t).m = costOne ahead kk + m := by rw [← bits_len, hbits, hb1]
  have A1 := Lib.hid (fun b F w' (h : WrF b WSt.none F w') => riceF0 b WSt.none F ahead kk w' h none_ok hahead (by omega) (by omega))
  rw [← hs1] at A1
  have A2 := Lib.hid (fun b F w' (h : WrF b s1 F w') => putF0 b s1 F n' m w' h o1 hn'64 hm64 hn'm (by omega))
  have A3 := Lib.hid (fun b F w' (h : WrF b s1 F w') => putF0 b s1 F (n' / 2 ^ t) (m - t) w' h o1 (Nat.lt_of_le_of_lt (Nat.div_le_self _ _) hn'64) (by omega) f1 (by omega))
  have A4 := Lib.hid (fun b F w' (h : WrF b (s1.all (n' / 2 ^ t) (m - t)) F w') => putF0 b _ F (n' % 2 ^ t) t w' h p2 (Nat.lt_of_le_of_lt (Nat.mod_le _ _) hn'64) (by omega) f2 (by omega))
  have Y1 := Lib.hid (fun b F w' (h : WrF b (s1.all n' m) F w') => bytesF b _ F w' h p1 (by omega))
  have Y2 := Lib.hid (fun b F w' (h : WrF b ((s1.all (n' / 2 ^ t) (m - t)).all (n' % 2 ^ t) t) F w') => bytesF b _ F w' h p3 (by omega))
  rw [hout] at Y2
  have N1 := Lib.hid (fun b w' (h : WBlk b (s1.all n' m).L.length (s1.all n' m).a (s1.all n' m).m w') => wlen_any b _ _ _ w' h p1.1 (by omega))
  have N2 := Lib.hid (fun b w' (h : WBlk b ((s1.all (n' / 2 ^ t) (m - t)).all (n' % 2 ^ t) t).L.length ((s1.all (n' / 2 ^ t) (m - t)).all (n' % 2 ^ t) t).a ((s1.all (n' / 2 ^ t) (m - t)).all (n' % 2 ^ t) t).m w') => wlen_any b _ _ _ w' h p3.1 (by omega))
  rw [hlen1] at N1
  rw [hlen3] at N2
  have CD : ∀ w', Calls Try.prog 34 #[.int .u64 ahead, .int .i64 kk] w' fun e w'' => (∃ O c, e = .returned (.slice O (costOne ahead kk) c)) ∧ Below w'.heap.size w' w'' := fun w' =>
    (code_any ahead kk w' hahead (by omega)).mono fun e w'' ⟨O, c, h1, _, h3⟩ => ⟨⟨O, c, by rw [h1, codeL_length]⟩, h3⟩
  have HCD := Lib.hid CD
  obtain ⟨d, hd⟩ : ∃ d, d = m - t := ⟨_, rfl⟩
  obtain ⟨P, g1, g2, g3⟩ := mask_facts (t := t) (by omega) n' hn'64
  obtain ⟨P', r1, r2, r3⟩ := mask_facts hm64 n hn
  rw [← hn'] at r3
  have e1 : (many : Int) % 65 = (m : Int) := by omega
  have e2 : (k : Int) % 41 = (kk : Int) := by omega
  have e3 : (at' : Int) % ((m : Int) + 1) = (t : Int) := by rw [ht]; norm_cast
  have b1 : (many : Int) < 256 := by omega
  have b2 : (k : Int) < 256 := by omega
  have b3 : (at' : Int) < 256 := by omega
  have b4 : (m : Int) ≤ 64 := by omega
  have b5 : (t : Int) ≤ 64 := by omega
  have b6 : (kk : Int) ≤ 40 := by omega
  have w1 : IntKind.u64.wrap (t : Int) = (t : Int) := IntWalk.u64_in _ (by omega)
  have w2 : IntKind.u64.wrap (m : Int) = (m : Int) := IntWalk.u64_in _ (by omega)
  have m1 : min t 64 = t := by omega
  have m2 : min m 64 = m := by omega
  have sh := shr_nat n' t
  have hcase : (decide ((m : Int) < 64) = true) ∨ (decide ((m : Int) < 64) = false ∧ n = n') := by
    by_cases h : m = 64
    · exact .inr ⟨decide_eq_false (by omega), by rw [hn', h, Nat.mod_eq_of_lt (by omega)]⟩
    · exact .inl (decide_eq_true (by omega))
  have E4 := Lib.hid (show (m : Int) - (t : Int) = (d : Int) by omega)
  have hcb : ((costOne ahead kk : Nat) : Int) ≤ 88 := by have := costOne_le (n := ahead) (k := kk) (by omega); omega
  rw [← hd] at A3 A4 Y2 N2
  have DN := duo_new w (.cells #[.pointer none, .slice none 0 0, .int .u64 0, .int .i64 0] 58) rfl
  clear hd
  clear CD hm hkk ht hn' hm64 hn'm hp64 hn'64 o1 l1 hl0 hs1 f1 f2 p1 q1 p2 q2 p3 q3 hbits hout hb1 hlen1 hlen3 hn hat hmany hahead hk
  generalize n' / 2 ^ t = x1 at *
  generalize n' % 2 ^ t = x2 at *
  generalize costOne ahead kk = c at *
  generalize (s1.all x1 d).all x2 t = s4 at *
  generalize s1.all x1 d = s3 at *
  generalize s1.all n' m = s2 at *
  generalize S s2.out = txt at *
  generalize hB : w.heap.size = B at *
  have HB := Lib.hid hB
  have HDN := Lib.hid DN
  clear DN hB
  generalize hW : (w.alloc (.cells #[.pointer none, .slice none 0 0, .int .u64 0, .int .i64 0] 58)).alloc (.cells #[.pointer none, .slice none 0 0, .int .u64 0, .int .i64 0] 58) = wn at *
  have HW := Lib.hid hW
  clear hW
  rcases hcase with hm6 | ⟨hm6, hnn⟩
  · have hz := hm6
    clear hz
    go_enter Try.func7, Try.ntmps7
    go_wp2_with fail
    refine (new_any _).mono ?_
    rintro e w1 ⟨rfl, rfl⟩
    go_wp2_with fail
    refine (new_any _).mono ?_
    rintro e w1 ⟨rfl, hww⟩
    rw [HW.out] at hww
    subst hww
    go_wp2_with fail
    rw [HB.out]
    refine (A1.out _ _ _ HDN.out.1.one).mono ?_
    rintro e w2 ⟨rfl, F2, hW2, hf2⟩
    have HD2 := Lib.hid (HDN.out.1.left hW2 hf2)
    have HB2 := Lib.hid (HDN.out.2.trans HD2.out.2)
    clear hW2 hf2
    go_wp2_with fail
    refine (A1.out _ _ _ HD2.out.1.two).mono ?_
    rintro e w3 ⟨rfl, F3, hW3, hf3⟩
    have HD3 := Lib.hid (HD2.out.1.right hW3 hf3)
    have HB3 := Lib.hid (HB2.out.trans HD3.out.2)
    clear hW3 hf3
    go_wp2_with fail
    refine (A2.out _ _ _ HD3.out.1.one).mono ?_
    rintro e w4 ⟨rfl, F4, hW4, hf4⟩
    have HD4 := Lib.hid (HD3.out.1.left hW4 hf4)
    have HB4 := Lib.hid (HB3.out.trans HD4.out.2)
    clear hW4 hf4
    go_wp2_with fail
    rw [E4.out]
    refine (A3.out _ _ _ HD4.out.1.two).mono ?_
    rintro e w5 ⟨rfl, F5, hW5, hf5⟩
    have HD5 := Lib.hid (HD4.out.1.right hW5 hf5)
    have HB5 := Lib.hid (HB4.out.trans HD5.out.2)
    clear hW5 hf5
    go_wp2_with fail
    refine (A4.out _ _ _ HD5.out.1.two).mono ?_
    rintro e w6 ⟨rfl, F6, hW6, hf6⟩
    have HD6 := Lib.hid (HD5.out.1.right hW6 hf6)
    have HB6 := Lib.hid (HB5.out.trans HD6.out.2)
    clear hW6 hf6
    go_wp2_with fail
    refine (Y1.out _ _ _ HD6.out.1.one).mono ?_
    rintro e w7 ⟨rfl, hs7⟩
    have hlt1 := HD6.out.1.one.lt _ HD6.out.1.one.at_
    have hK7 := (WrF.blk HD6.out.1.one).later (hs7.block _ ⟨hlt1, .inr rfl⟩)
    have hT7 := HD6.out.1.two.later (wr_local _ _) hs7.size fun k hk => hs7.block k ⟨HD6.out.1.two.lt k hk, .inl fun e => HD6.out.1.dis k e hk⟩
    have HB7 := Lib.hid (HB6.out.trans (hs7.below fun k hk => ⟨by have := HD6.out.1.size; omega, .inl fun e => by have := HD6.out.1.fb k e; omega⟩))
    have HK7 := Lib.hid hK7
    have HT7 := Lib.hid hT7
    have Hlt := Lib.hid (Nat.lt_of_lt_of_le hlt1 hs7.size)
    have Hng := Lib.hid (HD6.out.1.dis _ HD6.out.1.one.at_)
    clear hlt1 hK7 hT7 hs7
    go_wp2_with fail
    refine (Y2.out _ _ _ HT7.out).mono ?_
    rintro e w8 ⟨rfl, hs8⟩
    have HK8 := Lib.hid (HK7.out.later (hs8.block _ ⟨Hlt.out, .inl Hng.out⟩))
    have HL8 := Lib.hid ((WrF.blk HT7.out).later (hs8.block _ ⟨HT7.out.lt _ HT7.out.at_, .inr rfl⟩))
    have HB8 := Lib.hid (HB7.out.trans (hs8.below fun k hk => ⟨by have := Hlt.out; omega, .inl fun e => by have := HD6.out.1.gb k e; omega⟩))
    clear hs8
    go_wp2_with fail
    refine (N1.out _ _ HK8.out).mono ?_
    rintro e w9 ⟨rfl, hs9⟩
    have HL9 := Lib.hid (HL8.out.later (hs9.block _ trivial))
    have HK9 := Lib.hid (HK8.out.later (hs9.block _ trivial))
    have HB9 := Lib.hid (HB8.out.trans (hs9.below (B := B) fun _ _ => trivial))
    clear hs9
    go_wp2_with fail
    refine (N2.out _ _ HL9.out).mono ?_
    rintro e w10 ⟨rfl, hs10⟩
    have HK10 := Lib.hid (HK9.out.later (hs10.block _ trivial))
    have HB10 := Lib.hid (HB9.out.trans (hs10.below (B := B) fun _ _ => trivial))
    clear hs10
    go_wp2_with fail
    refine (N1.out _ _ HK10.out).mono ?_
    rintro e w11 ⟨rfl, hs11⟩
    have HB11 := Lib.hid (HB10.out.trans (hs11.below (B := B) fun _ _ => trivial))
    have Hsz := Lib.hid (show B ≤ w11.heap.size by have := Hlt.out; have := HB11.out.size; have := HB.out; omega)
    clear hs11
    go_wp2_with fail
    refine (HCD.out _).mono ?_
    rintro e w12 ⟨⟨O, co, rfl⟩, hb12⟩
    have HB12 := Lib.hid (HB11.out.trans (hb12.mono Hsz.out))
    clear hb12
    go_wp2_with fail
    go_ret
    exact ⟨rfl, HB12.out⟩
  · subst hnn
    go_enter Try.func7, Try.ntmps7
    go_wp2_with fail
    refine (new_any _).mono ?_
    rintro e w1 ⟨rfl, rfl⟩
    go_wp2_with fail
    refine (new_any _).mono ?_
    rintro e w1 ⟨rfl, hww⟩
    rw [HW.out] at hww
    subst hww
    go_wp2_with fail
    rw [HB.out]
    refine (A1.out _ _ _ HDN.out.1.one).mono ?_
    rintro e w2 ⟨rfl, F2, hW2, hf2⟩
    have HD2 := Lib.hid (HDN.out.1.left hW2 hf2)
    have HB2 := Lib.hid (HDN.out.2.trans HD2.out.2)
    clear hW2 hf2
    go_wp2_with fail
    refine (A1.out _ _ _ HD2.out.1.two).mono ?_
    rintro e w3 ⟨rfl, F3, hW3, hf3⟩
    have HD3 := Lib.hid (HD2.out.1.right hW3 hf3)
    have HB3 := Lib.hid (HB2.out.trans HD3.out.2)
    clear hW3 hf3
    go_wp2_with fail
    refine (A2.out _ _ _ HD3.out.1.one).mono ?_
    rintro e w4 ⟨rfl, F4, hW4, hf4⟩
    have HD4 := Lib.hid (HD3.out.1.left hW4 hf4)
    have HB4 := Lib.hid (HB3.out.trans HD4.out.2)
    clear hW4 hf4
    go_wp2_with fail
    rw [E4.out]
    refine (A3.out _ _ _ HD4.out.1.two).mono ?_
    rintro e w5 ⟨rfl, F5, hW5, hf5⟩
    have HD5 := Lib.hid (HD4.out.1.right hW5 hf5)
    have HB5 := Lib.hid (HB4.out.trans HD5.out.2)
    clear hW5 hf5
    go_wp2_with fail
    refine (A4.out _ _ _ HD5.out.1.two).mono ?_
    rintro e w6 ⟨rfl, F6, hW6, hf6⟩
    have HD6 := Lib.hid (HD5.out.1.right hW6 hf6)
    have HB6 := Lib.hid (HB5.out.trans HD6.out.2)
    clear hW6 hf6
    go_wp2_with fail
    refine (Y1.out _ _ _ HD6.out.1.one).mono ?_
    rintro e w7 ⟨rfl, hs7⟩
    have hlt1 := HD6.out.1.one.lt _ HD6.out.1.one.at_
    have hK7 := (WrF.blk HD6.out.1.one).later (hs7.block _ ⟨hlt1, .inr rfl⟩)
    have hT7 := HD6.out.1.two.later (wr_local _ _) hs7.size fun k hk => hs7.block k ⟨HD6.out.1.two.lt k hk, .inl fun e => HD6.out.1.dis k e hk⟩
    have HB7 := Lib.hid (HB6.out.trans (hs7.below fun k hk => ⟨by have := HD6.out.1.size; omega, .inl fun e => by have := HD6.out.1.fb k e; omega⟩))
    have HK7 := Lib.hid hK7
    have HT7 := Lib.hid hT7
    have Hlt := Lib.hid (Nat.lt_of_lt_of_le hlt1 hs7.size)
    have Hng := Lib.hid (HD6.out.1.dis _ HD6.out.1.one.at_)
    clear hlt1 hK7 hT7 hs7
    go_wp2_with fail
    refine (Y2.out _ _ _ HT7.out).mono ?_
    rintro e w8 ⟨rfl, hs8⟩
    have HK8 := Lib.hid (HK7.out.later (hs8.block _ ⟨Hlt.out, .inl Hng.out⟩))
    have HL8 := Lib.hid ((WrF.blk HT7.out).later (hs8.block _ ⟨HT7.out.lt _ HT7.out.at_, .inr rfl⟩))
    have HB8 := Lib.hid (HB7.out.trans (hs8.below fun k hk => ⟨by have := Hlt.out; omega, .inl fun e => by have := HD6.out.1.gb k e; omega⟩))
    clear hs8
    go_wp2_with fail
    refine (N1.out _ _ HK8.out).mono ?_
    rintro e w9 ⟨rfl, hs9⟩
    have HL9 := Lib.hid (HL8.out.later (hs9.block _ trivial))
    have HK9 := Lib.hid (HK8.out.later (hs9.block _ trivial))
    have HB9 := Lib.hid (HB8.out.trans (hs9.below (B := B) fun _ _ => trivial))
    clear hs9
    go_wp2_with fail
    refine (N2.out _ _ HL9.out).mono ?_
    rintro e w10 ⟨rfl, hs10⟩
    have HK10 := Lib.hid (HK9.out.later (hs10.block _ trivial))
    have HB10 := Lib.hid (HB9.out.trans (hs10.below (B := B) fun _ _ => trivial))
    clear hs10
    go_wp2_with fail
    refine (N1.out _ _ HK10.out).mono ?_
    rintro e w11 ⟨rfl, hs11⟩
    have HB11 := Lib.hid (HB10.out.trans (hs11.below (B := B) fun _ _ => trivial))
    have Hsz := Lib.hid (show B ≤ w11.heap.size by have := Hlt.out; have := HB11.out.size; have := HB.out; omega)
    clear hs11
    go_wp2_with fail
    refine (HCD.out _).mono ?_
    rintro e w12 ⟨⟨O, co, rfl⟩, hb12⟩
    have HB12 := Lib.hid (HB11.out.trans (hb12.mono Hsz.out))
    clear hb12
    go_wp2_with fail
    go_ret
    exact ⟨rfl, HB12.out⟩
end Go.Proofs.Ytmllnfplahaccaa
