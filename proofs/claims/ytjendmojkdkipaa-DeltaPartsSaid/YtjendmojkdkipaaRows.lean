/-
  No cell of these rows narrows 'for every input' (looked for: loops, veiled, ifaces, maps, wideKeys, modest, calm, conditions, laid).
  DERIVED. THE GIVEN ROWS OF THIS SEAT. 6 by the template 'for every input the law returns true; each argument reads behind the call as it read before'; 0 by the template 'total and deterministic' (their statements: YtjendmojkdkipaaTotals.lean).
  GIVEN WITH THE SEED: the statements are not yours to turn. If you find one false, say at which input.
  Laid BY PROGRAM, IN A SANDBOX (cutbox-rows.mjs): the forced cells as the released guide's own fill.sh prints them over the translation 8c9c261053a212a7… (all of the seat's roots in one cut). By AI agents, Wed Nov 11 2026. No macro, syntax, notation, axiom, sorry.
-/
import Derived.Test.YtjendmojkdkipaaChecked
import GoSem.Claim
import GoSem.ClaimJoined
import GoSem.ClaimMapViews
import Derived.JoinedTies
import Derived.KernelRfl
namespace Go.Proofs.Ytjendmojkdkipaa
/- THE CELL 'sum', in the pinned program and in every row, IS THE sha256 OF THE DUMP (.gsa) THAT YtjendmojkdkipaaProg.lean LOADS. Nothing in Lean hashes anything: it is a label: what it is worth is what the hold of that sum in a sandbox is worth. -/
noncomputable def Try.pinned : Pinned := { name := "ytjendmojkdkipaa", sum := "8c9c261053a212a73d7bf2534c392d825e6ba3ae2a3f32e46fcd048ce092e688", checked := Try.checked }
namespace Rows
def none {H : Type} : Left H := { results := [], args := [] }

/-- 'strandlinelaw03.DeltaEven': WHATEVER THE INPUT: true; the input reads as it did. -/
def deltaEvenSpec : ChangeSpec := { name := "deltaEven", fn := fun _ => fun
  | [d1, d2, d3, d4] => { results := [.lit (.bool true)], args := [d1, d2, d3, d4] }
  | _ => none }
def deltaEvenRow : OpenClaim := { program := "ytjendmojkdkipaa", sum := "8c9c261053a212a73d7bf2534c392d825e6ba3ae2a3f32e46fcd048ce092e688", func := "strandline/strandlinelaw03.DeltaEven", spec := "deltaEven", inPlace := ["internal/abi.NoEscape"], unfollowed := true, recurses := true, apart := false }
def DeltaEvenSaid : Prop := deltaEvenRow.holds Try.pinned (OpenSpec.ofChange deltaEvenSpec)

/-- ITS FALSE NEIGHBOUR: 'it returns false'. Refute it at one input. -/
def deltaEvenWrong : ChangeSpec := { name := "deltaEven", fn := fun _ => fun
  | [d1, d2, d3, d4] => { results := [.lit (.bool false)], args := [d1, d2, d3, d4] }
  | _ => none }
def DeltaEvenWrongFalsely : Prop := deltaEvenRow.holds Try.pinned (OpenSpec.ofChange deltaEvenWrong)

/-- 'strandlinelaw03.DeltaDecodes': WHATEVER THE INPUT: true; the input reads as it did. -/
def deltaDecodesSpec : ChangeSpec := { name := "deltaDecodes", fn := fun _ => fun
  | [d] => { results := [.lit (.bool true)], args := [d] }
  | _ => none }
def deltaDecodesRow : OpenClaim := { program := "ytjendmojkdkipaa", sum := "8c9c261053a212a73d7bf2534c392d825e6ba3ae2a3f32e46fcd048ce092e688", func := "strandline/strandlinelaw03.DeltaDecodes", spec := "deltaDecodes", inPlace := ["internal/abi.NoEscape"], unfollowed := true, recurses := true, apart := false }
def DeltaDecodesSaid : Prop := deltaDecodesRow.holds Try.pinned (OpenSpec.ofChange deltaDecodesSpec)

/-- ITS FALSE NEIGHBOUR: 'it returns false'. Refute it at one input. -/
def deltaDecodesWrong : ChangeSpec := { name := "deltaDecodes", fn := fun _ => fun
  | [d] => { results := [.lit (.bool false)], args := [d] }
  | _ => none }
def DeltaDecodesWrongFalsely : Prop := deltaDecodesRow.holds Try.pinned (OpenSpec.ofChange deltaDecodesWrong)

/-- 'strandlinelaw03.DeltaTurns': WHATEVER THE INPUT: true; the input reads as it did. -/
def deltaTurnsSpec : ChangeSpec := { name := "deltaTurns", fn := fun _ => fun
  | [d] => { results := [.lit (.bool true)], args := [d] }
  | _ => none }
def deltaTurnsRow : OpenClaim := { program := "ytjendmojkdkipaa", sum := "8c9c261053a212a73d7bf2534c392d825e6ba3ae2a3f32e46fcd048ce092e688", func := "strandline/strandlinelaw03.DeltaTurns", spec := "deltaTurns", inPlace := ["internal/abi.NoEscape"], unfollowed := true, recurses := true, apart := false }
def DeltaTurnsSaid : Prop := deltaTurnsRow.holds Try.pinned (OpenSpec.ofChange deltaTurnsSpec)

/-- ITS FALSE NEIGHBOUR: 'it returns false'. Refute it at one input. -/
def deltaTurnsWrong : ChangeSpec := { name := "deltaTurns", fn := fun _ => fun
  | [d] => { results := [.lit (.bool false)], args := [d] }
  | _ => none }
def DeltaTurnsWrongFalsely : Prop := deltaTurnsRow.holds Try.pinned (OpenSpec.ofChange deltaTurnsWrong)

/-- 'strandlinelaw03.DeltaMoved': WHATEVER THE INPUT: true; the input reads as it did. -/
def deltaMovedSpec : ChangeSpec := { name := "deltaMoved", fn := fun _ => fun
  | [d1, d2] => { results := [.lit (.bool true)], args := [d1, d2] }
  | _ => none }
def deltaMovedRow : OpenClaim := { program := "ytjendmojkdkipaa", sum := "8c9c261053a212a73d7bf2534c392d825e6ba3ae2a3f32e46fcd048ce092e688", func := "strandline/strandlinelaw03.DeltaMoved", spec := "deltaMoved", inPlace := ["internal/abi.NoEscape"], unfollowed := true, recurses := true, apart := false }
def DeltaMovedSaid : Prop := deltaMovedRow.holds Try.pinned (OpenSpec.ofChange deltaMovedSpec)

/-- ITS FALSE NEIGHBOUR: 'it returns false'. Refute it at one input. -/
def deltaMovedWrong : ChangeSpec := { name := "deltaMoved", fn := fun _ => fun
  | [d1, d2] => { results := [.lit (.bool false)], args := [d1, d2] }
  | _ => none }
def DeltaMovedWrongFalsely : Prop := deltaMovedRow.holds Try.pinned (OpenSpec.ofChange deltaMovedWrong)

/-- 'strandlinelaw03.DeltaParts': WHATEVER THE INPUT: true; the input reads as it did. -/
def deltaPartsSpec : ChangeSpec := { name := "deltaParts", fn := fun _ => fun
  | [d1, d2, d3] => { results := [.lit (.bool true)], args := [d1, d2, d3] }
  | _ => none }
def deltaPartsRow : OpenClaim := { program := "ytjendmojkdkipaa", sum := "8c9c261053a212a73d7bf2534c392d825e6ba3ae2a3f32e46fcd048ce092e688", func := "strandline/strandlinelaw03.DeltaParts", spec := "deltaParts", inPlace := ["internal/abi.NoEscape"], unfollowed := true, recurses := true, apart := false }
def DeltaPartsSaid : Prop := deltaPartsRow.holds Try.pinned (OpenSpec.ofChange deltaPartsSpec)

/-- ITS FALSE NEIGHBOUR: 'it returns false'. Refute it at one input. -/
def deltaPartsWrong : ChangeSpec := { name := "deltaParts", fn := fun _ => fun
  | [d1, d2, d3] => { results := [.lit (.bool false)], args := [d1, d2, d3] }
  | _ => none }
def DeltaPartsWrongFalsely : Prop := deltaPartsRow.holds Try.pinned (OpenSpec.ofChange deltaPartsWrong)

/-- 'strandlinelaw03.DeltaEncodes': WHATEVER THE INPUT: true; the input reads as it did. -/
def deltaEncodesSpec : ChangeSpec := { name := "deltaEncodes", fn := fun _ => fun
  | [d] => { results := [.lit (.bool true)], args := [d] }
  | _ => none }
def deltaEncodesRow : OpenClaim := { program := "ytjendmojkdkipaa", sum := "8c9c261053a212a73d7bf2534c392d825e6ba3ae2a3f32e46fcd048ce092e688", func := "strandline/strandlinelaw03.DeltaEncodes", spec := "deltaEncodes", inPlace := ["internal/abi.NoEscape"], unfollowed := true, recurses := true, apart := false }
def DeltaEncodesSaid : Prop := deltaEncodesRow.holds Try.pinned (OpenSpec.ofChange deltaEncodesSpec)

/-- ITS FALSE NEIGHBOUR: 'it returns false'. Refute it at one input. -/
def deltaEncodesWrong : ChangeSpec := { name := "deltaEncodes", fn := fun _ => fun
  | [d] => { results := [.lit (.bool false)], args := [d] }
  | _ => none }
def DeltaEncodesWrongFalsely : Prop := deltaEncodesRow.holds Try.pinned (OpenSpec.ofChange deltaEncodesWrong)

/- THE SECOND FORM. 'bulk': how many values and letters a reading holds, each counted each time it is reached (what is shared counts as often as it is met; a slice's spare places count too). A statement '..UptoSaid' is the law's where the arguments, and the package variables that the reading takes, are together of bulk at most 1048576: NARROWER than '..Said'. Prove '..Said' where nothing that the law and all that it calls make is longer than what came in: it says more and counts as full. Else prove '..UptoSaid'. A law counts once. -/
mutual
def uptoBulk {H : Type} : DataW H → Nat
  | .lit (.string bytes) => bytes.length + 1
  | .lit _ => 1
  | .nil => 1
  | .ptr d => uptoBulk d + 1
  | .slice elems spare => uptoBulkAll elems + uptoBulkAll spare + 1
  | .agg parts => uptoBulkAll parts + 1
  | .iface _ d => uptoBulk d + 1
  | .map entries => uptoBulkEntries entries + 1
  | .held _ => 1
def uptoBulkAll {H : Type} : List (DataW H) → Nat
  | [] => 0
  | d :: r => uptoBulk d + uptoBulkAll r
def uptoBulkEntries {H : Type} : List (Lit × DataW H) → Nat
  | [] => 0
  | x :: r => uptoBulkEntry x + uptoBulkEntries r
def uptoBulkEntry {H : Type} : Lit × DataW H → Nat
  | (.string bytes, d) => bytes.length + uptoBulk d + 1
  | (_, d) => uptoBulk d + 1
 end
def uptoSmall : (H : Type) → List (DataW H) → Bool := fun _ ds => decide (uptoBulkAll ds ≤ 1048576)
def OpenSpec.upto (s : _root_.Go.ChangeSpec) : _root_.Go.OpenSpec := { _root_.Go.OpenSpec.ofChange s with cond := some uptoSmall }

/-- 'strandlinelaw03.DeltaEven', WHERE WHAT IT READS IS OF BULK AT MOST 1048576: true; the input reads as it did. -/
def deltaEvenUptoRow : OpenClaim := { program := "ytjendmojkdkipaa", sum := "8c9c261053a212a73d7bf2534c392d825e6ba3ae2a3f32e46fcd048ce092e688", func := "strandline/strandlinelaw03.DeltaEven", spec := "deltaEven", inPlace := ["internal/abi.NoEscape"], unfollowed := true, recurses := true, apart := false, narrowed := true }
def DeltaEvenUptoSaid : Prop := deltaEvenUptoRow.holds Try.pinned (OpenSpec.upto deltaEvenSpec)

/-- 'strandlinelaw03.DeltaDecodes', WHERE WHAT IT READS IS OF BULK AT MOST 1048576: true; the input reads as it did. -/
def deltaDecodesUptoRow : OpenClaim := { program := "ytjendmojkdkipaa", sum := "8c9c261053a212a73d7bf2534c392d825e6ba3ae2a3f32e46fcd048ce092e688", func := "strandline/strandlinelaw03.DeltaDecodes", spec := "deltaDecodes", inPlace := ["internal/abi.NoEscape"], unfollowed := true, recurses := true, apart := false, narrowed := true }
def DeltaDecodesUptoSaid : Prop := deltaDecodesUptoRow.holds Try.pinned (OpenSpec.upto deltaDecodesSpec)

/-- 'strandlinelaw03.DeltaTurns', WHERE WHAT IT READS IS OF BULK AT MOST 1048576: true; the input reads as it did. -/
def deltaTurnsUptoRow : OpenClaim := { program := "ytjendmojkdkipaa", sum := "8c9c261053a212a73d7bf2534c392d825e6ba3ae2a3f32e46fcd048ce092e688", func := "strandline/strandlinelaw03.DeltaTurns", spec := "deltaTurns", inPlace := ["internal/abi.NoEscape"], unfollowed := true, recurses := true, apart := false, narrowed := true }
def DeltaTurnsUptoSaid : Prop := deltaTurnsUptoRow.holds Try.pinned (OpenSpec.upto deltaTurnsSpec)

/-- 'strandlinelaw03.DeltaMoved', WHERE WHAT IT READS IS OF BULK AT MOST 1048576: true; the input reads as it did. -/
def deltaMovedUptoRow : OpenClaim := { program := "ytjendmojkdkipaa", sum := "8c9c261053a212a73d7bf2534c392d825e6ba3ae2a3f32e46fcd048ce092e688", func := "strandline/strandlinelaw03.DeltaMoved", spec := "deltaMoved", inPlace := ["internal/abi.NoEscape"], unfollowed := true, recurses := true, apart := false, narrowed := true }
def DeltaMovedUptoSaid : Prop := deltaMovedUptoRow.holds Try.pinned (OpenSpec.upto deltaMovedSpec)

/-- 'strandlinelaw03.DeltaParts', WHERE WHAT IT READS IS OF BULK AT MOST 1048576: true; the input reads as it did. -/
def deltaPartsUptoRow : OpenClaim := { program := "ytjendmojkdkipaa", sum := "8c9c261053a212a73d7bf2534c392d825e6ba3ae2a3f32e46fcd048ce092e688", func := "strandline/strandlinelaw03.DeltaParts", spec := "deltaParts", inPlace := ["internal/abi.NoEscape"], unfollowed := true, recurses := true, apart := false, narrowed := true }
def DeltaPartsUptoSaid : Prop := deltaPartsUptoRow.holds Try.pinned (OpenSpec.upto deltaPartsSpec)

/-- 'strandlinelaw03.DeltaEncodes', WHERE WHAT IT READS IS OF BULK AT MOST 1048576: true; the input reads as it did. -/
def deltaEncodesUptoRow : OpenClaim := { program := "ytjendmojkdkipaa", sum := "8c9c261053a212a73d7bf2534c392d825e6ba3ae2a3f32e46fcd048ce092e688", func := "strandline/strandlinelaw03.DeltaEncodes", spec := "deltaEncodes", inPlace := ["internal/abi.NoEscape"], unfollowed := true, recurses := true, apart := false, narrowed := true }
def DeltaEncodesUptoSaid : Prop := deltaEncodesUptoRow.holds Try.pinned (OpenSpec.upto deltaEncodesSpec)

end Rows
end Go.Proofs.Ytjendmojkdkipaa
