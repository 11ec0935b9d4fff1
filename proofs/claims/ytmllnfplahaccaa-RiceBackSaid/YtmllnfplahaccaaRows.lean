/-
  No cell of these rows narrows 'for every input' (looked for: loops, veiled, ifaces, maps, wideKeys, modest, calm, conditions, laid).
  DERIVED. THE GIVEN ROWS OF THIS SEAT. 7 by the template 'for every input the law returns true; each argument reads behind the call as it read before'; 0 by the template 'total and deterministic' (their statements: YtmllnfplahaccaaTotals.lean).
  GIVEN WITH THE SEED: the statements are not yours to turn. If you find one false, say at which input.
  Laid BY PROGRAM, IN A SANDBOX (cutbox-rows.mjs): the forced cells as the released guide's own fill.sh prints them over the translation 6d82157ba30cf4fa… (all of the seat's roots in one cut). By AI agents, Wed Nov 11 2026. No macro, syntax, notation, axiom, sorry.
-/
import Derived.Test.YtmllnfplahaccaaChecked
import GoSem.Claim
import GoSem.ClaimJoined
import GoSem.ClaimMapViews
import Derived.JoinedTies
import Derived.KernelRfl
namespace Go.Proofs.Ytmllnfplahaccaa
/- THE CELL 'sum', in the pinned program and in every row, IS THE sha256 OF THE DUMP (.gsa) THAT YtmllnfplahaccaaProg.lean LOADS. Nothing in Lean hashes anything: it is a label: what it is worth is what the hold of that sum in a sandbox is worth. -/
noncomputable def Try.pinned : Pinned := { name := "ytmllnfplahaccaa", sum := "6d82157ba30cf4fa285925c52b77405b2f55b6ddf42a7bbc31729bd8128a79d2", checked := Try.checked }
namespace Rows
def none {H : Type} : Left H := { results := [], args := [] }

/-- 'strandlinelaw02.RiceCosts': WHATEVER THE INPUT: true; the input reads as it did. -/
def riceCostsSpec : ChangeSpec := { name := "riceCosts", fn := fun _ => fun
  | [d1, d2] => { results := [.lit (.bool true)], args := [d1, d2] }
  | _ => none }
def riceCostsRow : OpenClaim := { program := "ytmllnfplahaccaa", sum := "6d82157ba30cf4fa285925c52b77405b2f55b6ddf42a7bbc31729bd8128a79d2", func := "strandline/strandlinelaw02.RiceCosts", spec := "riceCosts", unfollowed := true, recurses := true, apart := false }
def RiceCostsSaid : Prop := riceCostsRow.holds Try.pinned (OpenSpec.ofChange riceCostsSpec)

/-- ITS FALSE NEIGHBOUR: 'it returns false'. Refute it at one input. -/
def riceCostsWrong : ChangeSpec := { name := "riceCosts", fn := fun _ => fun
  | [d1, d2] => { results := [.lit (.bool false)], args := [d1, d2] }
  | _ => none }
def RiceCostsWrongFalsely : Prop := riceCostsRow.holds Try.pinned (OpenSpec.ofChange riceCostsWrong)

/-- 'strandlinelaw02.RiceSmall': WHATEVER THE INPUT: true; the input reads as it did. -/
def riceSmallSpec : ChangeSpec := { name := "riceSmall", fn := fun _ => fun
  | [d1, d2] => { results := [.lit (.bool true)], args := [d1, d2] }
  | _ => none }
def riceSmallRow : OpenClaim := { program := "ytmllnfplahaccaa", sum := "6d82157ba30cf4fa285925c52b77405b2f55b6ddf42a7bbc31729bd8128a79d2", func := "strandline/strandlinelaw02.RiceSmall", spec := "riceSmall", inPlace := ["internal/abi.NoEscape"], apart := false }
def RiceSmallSaid : Prop := riceSmallRow.holds Try.pinned (OpenSpec.ofChange riceSmallSpec)

/-- ITS FALSE NEIGHBOUR: 'it returns false'. Refute it at one input. -/
def riceSmallWrong : ChangeSpec := { name := "riceSmall", fn := fun _ => fun
  | [d1, d2] => { results := [.lit (.bool false)], args := [d1, d2] }
  | _ => none }
def RiceSmallWrongFalsely : Prop := riceSmallRow.holds Try.pinned (OpenSpec.ofChange riceSmallWrong)

/-- 'strandlinelaw02.RiceReads': WHATEVER THE INPUT: true; the input reads as it did. -/
def riceReadsSpec : ChangeSpec := { name := "riceReads", fn := fun _ => fun
  | [d1, d2] => { results := [.lit (.bool true)], args := [d1, d2] }
  | _ => none }
def riceReadsRow : OpenClaim := { program := "ytmllnfplahaccaa", sum := "6d82157ba30cf4fa285925c52b77405b2f55b6ddf42a7bbc31729bd8128a79d2", func := "strandline/strandlinelaw02.RiceReads", spec := "riceReads", apart := false }
def RiceReadsSaid : Prop := riceReadsRow.holds Try.pinned (OpenSpec.ofChange riceReadsSpec)

/-- ITS FALSE NEIGHBOUR: 'it returns false'. Refute it at one input. -/
def riceReadsWrong : ChangeSpec := { name := "riceReads", fn := fun _ => fun
  | [d1, d2] => { results := [.lit (.bool false)], args := [d1, d2] }
  | _ => none }
def RiceReadsWrongFalsely : Prop := riceReadsRow.holds Try.pinned (OpenSpec.ofChange riceReadsWrong)

/-- 'strandlinelaw02.RiceWrites': WHATEVER THE INPUT: true; the input reads as it did. -/
def riceWritesSpec : ChangeSpec := { name := "riceWrites", fn := fun _ => fun
  | [d] => { results := [.lit (.bool true)], args := [d] }
  | _ => none }
def riceWritesRow : OpenClaim := { program := "ytmllnfplahaccaa", sum := "6d82157ba30cf4fa285925c52b77405b2f55b6ddf42a7bbc31729bd8128a79d2", func := "strandline/strandlinelaw02.RiceWrites", spec := "riceWrites", inPlace := ["internal/abi.NoEscape"], apart := false }
def RiceWritesSaid : Prop := riceWritesRow.holds Try.pinned (OpenSpec.ofChange riceWritesSpec)

/-- ITS FALSE NEIGHBOUR: 'it returns false'. Refute it at one input. -/
def riceWritesWrong : ChangeSpec := { name := "riceWrites", fn := fun _ => fun
  | [d] => { results := [.lit (.bool false)], args := [d] }
  | _ => none }
def RiceWritesWrongFalsely : Prop := riceWritesRow.holds Try.pinned (OpenSpec.ofChange riceWritesWrong)

/-- 'strandlinelaw02.RiceParts': WHATEVER THE INPUT: true; the input reads as it did. -/
def ricePartsSpec : ChangeSpec := { name := "riceParts", fn := fun _ => fun
  | [d1, d2, d3, d4, d5] => { results := [.lit (.bool true)], args := [d1, d2, d3, d4, d5] }
  | _ => none }
def ricePartsRow : OpenClaim := { program := "ytmllnfplahaccaa", sum := "6d82157ba30cf4fa285925c52b77405b2f55b6ddf42a7bbc31729bd8128a79d2", func := "strandline/strandlinelaw02.RiceParts", spec := "riceParts", inPlace := ["internal/abi.NoEscape"], apart := false }
def RicePartsSaid : Prop := ricePartsRow.holds Try.pinned (OpenSpec.ofChange ricePartsSpec)

/-- ITS FALSE NEIGHBOUR: 'it returns false'. Refute it at one input. -/
def ricePartsWrong : ChangeSpec := { name := "riceParts", fn := fun _ => fun
  | [d1, d2, d3, d4, d5] => { results := [.lit (.bool false)], args := [d1, d2, d3, d4, d5] }
  | _ => none }
def RicePartsWrongFalsely : Prop := ricePartsRow.holds Try.pinned (OpenSpec.ofChange ricePartsWrong)

/-- 'strandlinelaw02.RiceFar': WHATEVER THE INPUT: true; the input reads as it did. -/
def riceFarSpec : ChangeSpec := { name := "riceFar", fn := fun _ => fun
  | [d1, d2] => { results := [.lit (.bool true)], args := [d1, d2] }
  | _ => none }
def riceFarRow : OpenClaim := { program := "ytmllnfplahaccaa", sum := "6d82157ba30cf4fa285925c52b77405b2f55b6ddf42a7bbc31729bd8128a79d2", func := "strandline/strandlinelaw02.RiceFar", spec := "riceFar", inPlace := ["internal/abi.NoEscape"], apart := false }
def RiceFarSaid : Prop := riceFarRow.holds Try.pinned (OpenSpec.ofChange riceFarSpec)

/-- ITS FALSE NEIGHBOUR: 'it returns false'. Refute it at one input. -/
def riceFarWrong : ChangeSpec := { name := "riceFar", fn := fun _ => fun
  | [d1, d2] => { results := [.lit (.bool false)], args := [d1, d2] }
  | _ => none }
def RiceFarWrongFalsely : Prop := riceFarRow.holds Try.pinned (OpenSpec.ofChange riceFarWrong)

/-- 'strandlinelaw02.RiceBack': WHATEVER THE INPUT: true; the input reads as it did. -/
def riceBackSpec : ChangeSpec := { name := "riceBack", fn := fun _ => fun
  | [d] => { results := [.lit (.bool true)], args := [d] }
  | _ => none }
def riceBackRow : OpenClaim := { program := "ytmllnfplahaccaa", sum := "6d82157ba30cf4fa285925c52b77405b2f55b6ddf42a7bbc31729bd8128a79d2", func := "strandline/strandlinelaw02.RiceBack", spec := "riceBack", inPlace := ["internal/abi.NoEscape"], apart := false }
def RiceBackSaid : Prop := riceBackRow.holds Try.pinned (OpenSpec.ofChange riceBackSpec)

/-- ITS FALSE NEIGHBOUR: 'it returns false'. Refute it at one input. -/
def riceBackWrong : ChangeSpec := { name := "riceBack", fn := fun _ => fun
  | [d] => { results := [.lit (.bool false)], args := [d] }
  | _ => none }
def RiceBackWrongFalsely : Prop := riceBackRow.holds Try.pinned (OpenSpec.ofChange riceBackWrong)

/- THE SECOND FORM. 'bulk': how many values and letters a reading holds, each counted each time it is reached (what is shared counts as often as it is met; a slice's spare places count too). A statement '..UptoSaid' is the law's where the arguments, and the package variables that the reading takes, are together of bulk at most 1048576: NARROWER than '..Said'. Prove '..Said' where nothing that the law and all that it calls make is longer than what came in: it says more and counts as full. Else prove '..UptoSaid'. A law counts once. -/
mutual
def uptoBulk {H : Type} : DataW H → Nat
  | .lit (.string bytes) => bytes.length + 1
  | .lit _ => 1
  | .nil => 1
  | .ptr d => uptoBulk d + 1
  | .slice elems spare => uptoBulkAll elems + uptoBulkAll spare + 1
  | .agg parts => uptoBulkAll parts + 1
  | .iface _ d => uptoBulk d + 1
  | .map entries => uptoBulkEntries entries + 1
  | .held _ => 1
def uptoBulkAll {H : Type} : List (DataW H) → Nat
  | [] => 0
  | d :: r => uptoBulk d + uptoBulkAll r
def uptoBulkEntries {H : Type} : List (Lit × DataW H) → Nat
  | [] => 0
  | x :: r => uptoBulkEntry x + uptoBulkEntries r
def uptoBulkEntry {H : Type} : Lit × DataW H → Nat
  | (.string bytes, d) => bytes.length + uptoBulk d + 1
  | (_, d) => uptoBulk d + 1
 end
def uptoSmall : (H : Type) → List (DataW H) → Bool := fun _ ds => decide (uptoBulkAll ds ≤ 1048576)
def OpenSpec.upto (s : _root_.Go.ChangeSpec) : _root_.Go.OpenSpec := { _root_.Go.OpenSpec.ofChange s with cond := some uptoSmall }

/-- 'strandlinelaw02.RiceCosts', WHERE WHAT IT READS IS OF BULK AT MOST 1048576: true; the input reads as it did. -/
def riceCostsUptoRow : OpenClaim := { program := "ytmllnfplahaccaa", sum := "6d82157ba30cf4fa285925c52b77405b2f55b6ddf42a7bbc31729bd8128a79d2", func := "strandline/strandlinelaw02.RiceCosts", spec := "riceCosts", unfollowed := true, recurses := true, apart := false, narrowed := true }
def RiceCostsUptoSaid : Prop := riceCostsUptoRow.holds Try.pinned (OpenSpec.upto riceCostsSpec)

/-- 'strandlinelaw02.RiceSmall', WHERE WHAT IT READS IS OF BULK AT MOST 1048576: true; the input reads as it did. -/
def riceSmallUptoRow : OpenClaim := { program := "ytmllnfplahaccaa", sum := "6d82157ba30cf4fa285925c52b77405b2f55b6ddf42a7bbc31729bd8128a79d2", func := "strandline/strandlinelaw02.RiceSmall", spec := "riceSmall", inPlace := ["internal/abi.NoEscape"], apart := false, narrowed := true }
def RiceSmallUptoSaid : Prop := riceSmallUptoRow.holds Try.pinned (OpenSpec.upto riceSmallSpec)

/-- 'strandlinelaw02.RiceReads', WHERE WHAT IT READS IS OF BULK AT MOST 1048576: true; the input reads as it did. -/
def riceReadsUptoRow : OpenClaim := { program := "ytmllnfplahaccaa", sum := "6d82157ba30cf4fa285925c52b77405b2f55b6ddf42a7bbc31729bd8128a79d2", func := "strandline/strandlinelaw02.RiceReads", spec := "riceReads", apart := false, narrowed := true }
def RiceReadsUptoSaid : Prop := riceReadsUptoRow.holds Try.pinned (OpenSpec.upto riceReadsSpec)

/-- 'strandlinelaw02.RiceWrites', WHERE WHAT IT READS IS OF BULK AT MOST 1048576: true; the input reads as it did. -/
def riceWritesUptoRow : OpenClaim := { program := "ytmllnfplahaccaa", sum := "6d82157ba30cf4fa285925c52b77405b2f55b6ddf42a7bbc31729bd8128a79d2", func := "strandline/strandlinelaw02.RiceWrites", spec := "riceWrites", inPlace := ["internal/abi.NoEscape"], apart := false, narrowed := true }
def RiceWritesUptoSaid : Prop := riceWritesUptoRow.holds Try.pinned (OpenSpec.upto riceWritesSpec)

/-- 'strandlinelaw02.RiceParts', WHERE WHAT IT READS IS OF BULK AT MOST 1048576: true; the input reads as it did. -/
def ricePartsUptoRow : OpenClaim := { program := "ytmllnfplahaccaa", sum := "6d82157ba30cf4fa285925c52b77405b2f55b6ddf42a7bbc31729bd8128a79d2", func := "strandline/strandlinelaw02.RiceParts", spec := "riceParts", inPlace := ["internal/abi.NoEscape"], apart := false, narrowed := true }
def RicePartsUptoSaid : Prop := ricePartsUptoRow.holds Try.pinned (OpenSpec.upto ricePartsSpec)

/-- 'strandlinelaw02.RiceFar', WHERE WHAT IT READS IS OF BULK AT MOST 1048576: true; the input reads as it did. -/
def riceFarUptoRow : OpenClaim := { program := "ytmllnfplahaccaa", sum := "6d82157ba30cf4fa285925c52b77405b2f55b6ddf42a7bbc31729bd8128a79d2", func := "strandline/strandlinelaw02.RiceFar", spec := "riceFar", inPlace := ["internal/abi.NoEscape"], apart := false, narrowed := true }
def RiceFarUptoSaid : Prop := riceFarUptoRow.holds Try.pinned (OpenSpec.upto riceFarSpec)

/-- 'strandlinelaw02.RiceBack', WHERE WHAT IT READS IS OF BULK AT MOST 1048576: true; the input reads as it did. -/
def riceBackUptoRow : OpenClaim := { program := "ytmllnfplahaccaa", sum := "6d82157ba30cf4fa285925c52b77405b2f55b6ddf42a7bbc31729bd8128a79d2", func := "strandline/strandlinelaw02.RiceBack", spec := "riceBack", inPlace := ["internal/abi.NoEscape"], apart := false, narrowed := true }
def RiceBackUptoSaid : Prop := riceBackUptoRow.holds Try.pinned (OpenSpec.upto riceBackSpec)

end Rows
end Go.Proofs.Ytmllnfplahaccaa
