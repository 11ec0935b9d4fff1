/-
  One element appended to a row of the call's own, with the book-keeping that all walks of this claim want; bytes as a text. Over any program.
-/
import Derived.Test.YtjendmojkdkipaaBase
import Derived.Laws.IdiomStrings
import Derived.Maps.AppendAt
namespace Go.Proofs.Ytjendmojkdkipaa
open Go Go.RowKit

/-- bytes, as cells -/
def cellsOf (l : List UInt8) : List Value := l.map fun b => .int .u8 (b.toNat : Int)
theorem cellsOf_length (l : List UInt8) : (cellsOf l).length = l.length := by simp [cellsOf]
theorem cellsOf_append (l r : List UInt8) : cellsOf (l ++ r) = cellsOf l ++ cellsOf r := by simp [cellsOf]
theorem cellsOf_snoc (l : List UInt8) (c : UInt8) : cellsOf (l ++ [c]) = cellsOf l ++ [.int .u8 (c.toNat : Int)] := by simp [cellsOf]

/-- bytes, as a text -/
def S (l : List UInt8) : ByteArray := ⟨l.toArray⟩
theorem S_size (l : List UInt8) : (S l).size = l.length := by simp [S, ByteArray.size]
theorem S_data (s : ByteArray) : S s.data.toList = s := by simp [S]
theorem S_toList (l : List UInt8) : (S l).data.toList = l := by simp [S]
theorem S_inj {a b : List UInt8} (h : S a = S b) : a = b := by
  have := congrArg (fun s => s.data.toList) h; simpa [S] using this
theorem S_append (a b : List UInt8) : S a ++ S b = S (a ++ b) := by
  apply ByteArray.ext; simp [S, ByteArray.data_append]

theorem cell_new (w : World) (us : Array Value) (t : TypeId) : ∀ j u, us.toList[j]? = some u → (w.alloc (.cells us t)).cell? ((⟨w.heap.size, 0, none⟩ : Addr).add j) = some u := by
  intro j u hj
  have hadd : (⟨w.heap.size, 0, none⟩ : Addr).add j = ⟨w.heap.size, j, none⟩ := by unfold Addr.add; split <;> simp_all
  rw [hadd, cell_of_row (w.alloc (.cells us t)) w.heap.size j us t (0, 0) (heap_alloc_new w _)]
  simpa using hj

theorem wpList_append_elem {P : Program} {ops : Array Oper} {rest : List Oper} {o : Oper} {a : Act} {Q : Exit → Act → World → Prop} (hgd : o.guard = none) (s x : Operand) (T : TypeId)
    (ho : o.op = Op.call { callee := Callee.builtin Builtin.append, args := #[s, x], argTypes := #[T, T] })
    (e : TypeId) (z : Value) (size bytes : Nat) (ht : P.underlying T = some (.slice e)) (hinf : (P.info? e).map (fun i => (i.zero, i.size, i.bytes)) = some (some z, size, bytes))
    (hzs : z.cells.size = size) (hsz : 0 < size) (base n : Nat) (xs : List Value) (v : Value) (W w0 : World) (us : Array Value) (hus : us.size = size) (h1 : ∀ u ∈ us.toList, u.oneCell' = true)
    (hown : w0.ownsRow base e size v n xs) (hs : a.eval s = v) (hbel : Below base W w0) (hbase : base ≤ w0.heap.size) (hx : a.eval x = .slice (some ⟨w0.heap.size, 0, none⟩) 1 1)
    (hn : n + 1 ≤ maxLen) (hb : (n + 1) * bytes ≤ 140737488355328)
    (h : ∀ v' w', w'.ownsRow base e size v' (n + 1) (xs ++ us.toList) → w0.grownBy w' v.ownBlock → Below base W w' → base ≤ w'.heap.size → w0.heap.size < w'.heap.size → v' ≠ .slice none 0 0 → wpList P ops Q rest (a.put o.dst v') w') :
    wpList P ops Q (o :: rest) a (w0.alloc (.cells us e)) := by
  obtain ⟨i, hi, hz, hz1, hz2⟩ := info_parts hinf
  have hg0 := World.grownBy_alloc w0 (.cells us e) v.ownBlock
  refine wpList_append_own _ hgd s x T ho base e i z size bytes ht hi hz hz1 hz2 hzs hsz v n xs hs (hown.alloc _) ⟨w0.heap.size, 0, none⟩ 1 1 us.toList hx (by simp [hus]) (cell_new w0 us e) h1 hn hb (by simp; omega) ?_
  intro v' w' hown' hgr hnil
  have hsize : w0.heap.size < w'.heap.size := by have := hgr.size; simp at this; omega
  refine h v' w' hown' ⟨hgr.os.trans hg0.os, hgr.tape.trans hg0.tape, hgr.output.trans hg0.output, by omega, fun k hk hne => (hgr.block k (by simp; omega) hne).trans (hg0.block k hk hne)⟩ ?_ (by omega) hsize ?_
  · refine (hbel.alloc hbase _).grown hgr (by simp; omega) fun k hk => ?_
    exact (hown.lt k hk).1
  · intro e'
    have := hnil.1 e'
    simp at this

/-- 'append(b, c)', b a row of bytes of the call's own -/
theorem wpList_append_byte {P : Program} {ops : Array Oper} {rest : List Oper} {o : Oper} {a : Act} {Q : Exit → Act → World → Prop} (hgd : o.guard = none) (s x : Operand) (T : TypeId)
    (ho : o.op = Op.call { callee := Callee.builtin Builtin.append, args := #[s, x], argTypes := #[T, T] })
    (e : TypeId) (ht : P.underlying T = some (.slice e)) (hinf : (P.info? e).map (fun i => (i.zero, i.size, i.bytes)) = some (some (.int .u8 0), 1, 1))
    (base n : Nat) (l : List UInt8) (v : Value) (W w0 : World) (y : Int) (c : UInt8) (hy : y = (c.toNat : Int))
    (hown : w0.ownsRow base e 1 v n (cellsOf l)) (hs : a.eval s = v) (hbel : Below base W w0) (hbase : base ≤ w0.heap.size) (hx : a.eval x = .slice (some ⟨w0.heap.size, 0, none⟩) 1 1)
    (hn : n + 1 ≤ 140737488355328)
    (h : ∀ v' w', w'.ownsRow base e 1 v' (n + 1) (cellsOf (l ++ [c])) → w0.grownBy w' v.ownBlock → Below base W w' → base ≤ w'.heap.size → w0.heap.size < w'.heap.size → v' ≠ .slice none 0 0 → wpList P ops Q rest (a.put o.dst v') w') :
    wpList P ops Q (o :: rest) a (w0.alloc (.cells #[.int .u8 y] e)) := by
  subst hy
  refine wpList_append_elem hgd s x T ho e (.int .u8 0) 1 1 ht hinf rfl (by decide) base n (cellsOf l) v W w0 #[.int .u8 (c.toNat : Int)] rfl (by intro u hu; simp at hu; subst hu; rfl) hown hs hbel hbase hx (by unfold maxLen; omega) (by omega) ?_
  intro v' w' h1
  exact h v' w' (by rw [cellsOf_snoc]; exact h1)

/-- 'string(b)' of a row of the call's own -/
theorem run_ownedBytes_string {P : Program} {w : World} {B n : Nat} {src dst e : TypeId} {v : Value} {l : List UInt8} (h : w.ownsRow B e 1 v n (cellsOf l))
    (hs : P.underlying src = some (.slice e)) (he : P.underlying e = some (.int .u8)) (hd : P.underlying dst = some .string) (hv : v ≠ .slice none 0 0) :
    (convert src dst v).run P w = .ok (.string (S l)) w := by
  have hn := h.1
  have hc : ∀ g, v.ownBlock = some g → ∀ j (hj : j < l.length), w.cell? ((⟨g, 0, none⟩ : Addr).add j) = some (.int .u8 (l[j].toNat : Int)) :=
    fun g hg j hj => h.cells hg j _ (by simp [cellsOf, hj])
  rcases h.2 with ⟨rfl, _⟩ | ⟨g, cap, cur, rfl, hb, hg, hr⟩
  · exact absurd rfl hv
  · rw [cellsOf_length] at hn
    obtain rfl : n = l.length := by omega
    exact run_convert_bytes_back w src dst e ⟨g, 0, none⟩ cap l hs he hd (hc g rfl)

/-- 'string([]byte{c})' -/
theorem run_one_string {P : Program} (w : World) {src dst e : TypeId} (y : Int) (c : UInt8) (hy : y = (c.toNat : Int))
    (hs : P.underlying src = some (.slice e)) (he : P.underlying e = some (.int .u8)) (hd : P.underlying dst = some .string) :
    (convert src dst (.slice (some ⟨w.heap.size, 0, none⟩) 1 1)).run P (w.alloc (.cells #[.int .u8 y] e)) = .ok (.string (S [c])) (w.alloc (.cells #[.int .u8 y] e)) := by
  subst hy
  refine run_convert_bytes_back (w.alloc (.cells #[.int .u8 (c.toNat : Int)] e)) src dst e ⟨w.heap.size, 0, none⟩ 1 [c] hs he hd fun j hj => ?_
  obtain rfl : j = 0 := by simpa using hj
  exact cell_new w #[.int .u8 (c.toNat : Int)] e 0 _ rfl

/-- 'string([]byte{b, c})' -/
theorem run_two_string {P : Program} (w : World) {src dst e : TypeId} (x y : Int) (b c : UInt8) (hx : x = (b.toNat : Int)) (hy : y = (c.toNat : Int))
    (hs : P.underlying src = some (.slice e)) (he : P.underlying e = some (.int .u8)) (hd : P.underlying dst = some .string) :
    (convert src dst (.slice (some ⟨w.heap.size, 0, none⟩) 2 2)).run P (w.alloc (.cells #[.int .u8 x, .int .u8 y] e)) = .ok (.string (S [b, c])) (w.alloc (.cells #[.int .u8 x, .int .u8 y] e)) := by
  subst hx hy
  refine run_convert_bytes_back (w.alloc (.cells #[.int .u8 (b.toNat : Int), .int .u8 (c.toNat : Int)] e)) src dst e ⟨w.heap.size, 0, none⟩ 2 [b, c] hs he hd fun j hj => ?_
  have hj2 : j < 2 := by simpa using hj
  match j, hj2 with
  | 0, _ => exact cell_new w #[.int .u8 (b.toNat : Int), .int .u8 (c.toNat : Int)] e 0 _ rfl
  | 1, _ => exact cell_new w #[.int .u8 (b.toNat : Int), .int .u8 (c.toNat : Int)] e 1 _ rfl
/-- '[]byte(s)': a new row that holds the bytes -/
theorem bytes_of_string {P : Program} (w : World) (src dst e : TypeId) (s : ByteArray) (hs : P.underlying src = some .string) (hd : P.underlying dst = some (.slice e)) (he : P.underlying e = some (.int .u8)) :
    ∃ cap w1, (convert src dst (.string s)).run P w = .ok (.slice (some ⟨w.heap.size, 0, none⟩) s.size cap) w1 ∧ Below w.heap.size w w1 ∧ w.heap.size < w1.heap.size ∧ s.size ≤ cap ∧
      ∀ j (hj : j < s.size), w1.cell? ⟨w.heap.size, j, none⟩ = some (.int .u8 (s[j].toNat : Int)) := by
  refine ⟨_, _, run_bytes_of_string w src dst e s hs hd he, ?_, ?_, grownCap_ge _ _ _ _, fun j hj => ?_⟩
  · exact (Below.refl _ _).drew.alloc (Nat.le_refl _) _
  · simp
  · rw [cell_of_row (w.drew.alloc _) w.heap.size j _ e _ (heap_alloc_new w.drew _)]
    exact bytesRow_at s _ j hj

theorem i64_xor_nat (a b : Nat) (ha : a < 9223372036854775808) (hb : b < 9223372036854775808) : bits .xor .i64 (a : Int) (b : Int) = ((a ^^^ b : Nat) : Int) := by
  have hx : a ^^^ b < 2 ^ 63 := Nat.xor_lt_two_pow (by omega) (by omega)
  have h1 : (BitVec.ofInt 64 (a : Int)).toNat = a := by
    rw [BitVec.ofInt_natCast, BitVec.toNat_ofNat]; exact Nat.mod_eq_of_lt (by omega)
  have h2 : (BitVec.ofInt 64 (b : Int)).toNat = b := by
    rw [BitVec.ofInt_natCast, BitVec.toNat_ofNat]; exact Nat.mod_eq_of_lt (by omega)
  show IntKind.i64.wrap ((BitVec.ofInt 64 (a : Int) ^^^ BitVec.ofInt 64 (b : Int)).toNat : Int) = _
  rw [BitVec.toNat_xor, h1, h2, IntKind.wrap_i64]
  omega
theorem i64_or_nat (a b : Nat) (ha : a < 9223372036854775808) (hb : b < 9223372036854775808) : bits .or .i64 (a : Int) (b : Int) = ((a ||| b : Nat) : Int) := by
  have hx : a ||| b < 2 ^ 63 := Nat.or_lt_two_pow (by omega) (by omega)
  have h1 : (BitVec.ofInt 64 (a : Int)).toNat = a := by
    rw [BitVec.ofInt_natCast, BitVec.toNat_ofNat]; exact Nat.mod_eq_of_lt (by omega)
  have h2 : (BitVec.ofInt 64 (b : Int)).toNat = b := by
    rw [BitVec.ofInt_natCast, BitVec.toNat_ofNat]; exact Nat.mod_eq_of_lt (by omega)
  show IntKind.i64.wrap ((BitVec.ofInt 64 (a : Int) ||| BitVec.ofInt 64 (b : Int)).toNat : Int) = _
  rw [BitVec.toNat_or, h1, h2, IntKind.wrap_i64]
  omega

/-- 'string(b)' of two bytes that lie somewhere -/
theorem run_two_at {P : Program} {src dst e : TypeId} (x y : Int) (b c : UInt8) (hx : x = (b.toNat : Int)) (hy : y = (c.toNat : Int))
    (hs : P.underlying src = some (.slice e)) (he : P.underlying e = some (.int .u8)) (hd : P.underlying dst = some .string) (w : World) (g : Nat) (h0 : w.cell? ⟨g, 0, none⟩ = some (.int .u8 x)) (h1 : w.cell? ⟨g, 1, none⟩ = some (.int .u8 y)) :
    (convert src dst (.slice (some ⟨g, 0, none⟩) 2 2)).run P w = .ok (.string (S [b, c])) w := by
  subst hx hy
  refine run_convert_bytes_back w src dst e ⟨g, 0, none⟩ 2 [b, c] hs he hd fun j hj => ?_
  have hj2 : j < 2 := by simpa using hj
  match j, hj2 with
  | 0, _ => exact h0
  | 1, _ => exact h1

end Go.Proofs.Ytjendmojkdkipaa
