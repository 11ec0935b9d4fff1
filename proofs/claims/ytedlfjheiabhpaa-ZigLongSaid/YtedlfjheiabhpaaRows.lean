/-
  No cell of these rows narrows 'for every input' (looked for: loops, veiled, ifaces, maps, wideKeys, modest, calm, conditions, laid).
  DERIVED. THE GIVEN ROWS OF THIS SEAT. 8 by the template 'for every input the law returns true; each argument reads behind the call as it read before'; 0 by the template 'total and deterministic' (their statements: YtedlfjheiabhpaaTotals.lean).
  GIVEN WITH THE SEED: the statements are not yours to turn. If you find one false, say at which input.
  Laid BY PROGRAM, IN A SANDBOX (cutbox-rows.mjs): the forced cells as the released guide's own fill.sh prints them over the translation 6b7259a818ff59dd… (all of the seat's roots in one cut). By AI agents, Wed Nov 11 2026. No macro, syntax, notation, axiom, sorry.
-/
import Derived.Test.YtedlfjheiabhpaaChecked
import GoSem.Claim
import GoSem.ClaimJoined
import GoSem.ClaimMapViews
import Derived.JoinedTies
import Derived.KernelRfl
namespace Go.Proofs.Ytedlfjheiabhpaa
/- THE CELL 'sum', in the pinned program and in every row, IS THE sha256 OF THE DUMP (.gsa) THAT YtedlfjheiabhpaaProg.lean LOADS. Nothing in Lean hashes anything: it is a label: what it is worth is what the hold of that sum in a sandbox is worth. -/
noncomputable def Try.pinned : Pinned := { name := "ytedlfjheiabhpaa", sum := "6b7259a818ff59dd1facc54dd50bc543f09bbeb991ccbe2e90f20c94a1e6794f", checked := Try.checked }
namespace Rows
def none {H : Type} : Left H := { results := [], args := [] }

/-- 'strandlinelaw01.ZigFolds': WHATEVER THE INPUT: true; the input reads as it did. -/
def zigFoldsSpec : ChangeSpec := { name := "zigFolds", fn := fun _ => fun
  | [d1, d2] => { results := [.lit (.bool true)], args := [d1, d2] }
  | _ => none }
def zigFoldsRow : OpenClaim := { program := "ytedlfjheiabhpaa", sum := "6b7259a818ff59dd1facc54dd50bc543f09bbeb991ccbe2e90f20c94a1e6794f", func := "strandline/strandlinelaw01.ZigFolds", spec := "zigFolds", apart := false }
def ZigFoldsSaid : Prop := zigFoldsRow.holds Try.pinned (OpenSpec.ofChange zigFoldsSpec)

/-- ITS FALSE NEIGHBOUR: 'it returns false'. Refute it at one input. -/
def zigFoldsWrong : ChangeSpec := { name := "zigFolds", fn := fun _ => fun
  | [d1, d2] => { results := [.lit (.bool false)], args := [d1, d2] }
  | _ => none }
def ZigFoldsWrongFalsely : Prop := zigFoldsRow.holds Try.pinned (OpenSpec.ofChange zigFoldsWrong)

/-- 'strandlinelaw01.ZigLong': WHATEVER THE INPUT: true; the input reads as it did. -/
def zigLongSpec : ChangeSpec := { name := "zigLong", fn := fun _ => fun
  | [d] => { results := [.lit (.bool true)], args := [d] }
  | _ => none }
def zigLongRow : OpenClaim := { program := "ytedlfjheiabhpaa", sum := "6b7259a818ff59dd1facc54dd50bc543f09bbeb991ccbe2e90f20c94a1e6794f", func := "strandline/strandlinelaw01.ZigLong", spec := "zigLong", apart := false }
def ZigLongSaid : Prop := zigLongRow.holds Try.pinned (OpenSpec.ofChange zigLongSpec)

/-- ITS FALSE NEIGHBOUR: 'it returns false'. Refute it at one input. -/
def zigLongWrong : ChangeSpec := { name := "zigLong", fn := fun _ => fun
  | [d] => { results := [.lit (.bool false)], args := [d] }
  | _ => none }
def ZigLongWrongFalsely : Prop := zigLongRow.holds Try.pinned (OpenSpec.ofChange zigLongWrong)

/-- 'strandlinelaw01.ZigWrites': WHATEVER THE INPUT: true; the input reads as it did. -/
def zigWritesSpec : ChangeSpec := { name := "zigWrites", fn := fun _ => fun
  | [d1, d2, d3] => { results := [.lit (.bool true)], args := [d1, d2, d3] }
  | _ => none }
def zigWritesRow : OpenClaim := { program := "ytedlfjheiabhpaa", sum := "6b7259a818ff59dd1facc54dd50bc543f09bbeb991ccbe2e90f20c94a1e6794f", func := "strandline/strandlinelaw01.ZigWrites", spec := "zigWrites", apart := false }
def ZigWritesSaid : Prop := zigWritesRow.holds Try.pinned (OpenSpec.ofChange zigWritesSpec)

/-- ITS FALSE NEIGHBOUR: 'it returns false'. Refute it at one input. -/
def zigWritesWrong : ChangeSpec := { name := "zigWrites", fn := fun _ => fun
  | [d1, d2, d3] => { results := [.lit (.bool false)], args := [d1, d2, d3] }
  | _ => none }
def ZigWritesWrongFalsely : Prop := zigWritesRow.holds Try.pinned (OpenSpec.ofChange zigWritesWrong)

/-- 'strandlinelaw01.ZigPairs': WHATEVER THE INPUT: true; the input reads as it did. -/
def zigPairsSpec : ChangeSpec := { name := "zigPairs", fn := fun _ => fun
  | [d1, d2, d3, d4, d5, d6] => { results := [.lit (.bool true)], args := [d1, d2, d3, d4, d5, d6] }
  | _ => none }
def zigPairsRow : OpenClaim := { program := "ytedlfjheiabhpaa", sum := "6b7259a818ff59dd1facc54dd50bc543f09bbeb991ccbe2e90f20c94a1e6794f", func := "strandline/strandlinelaw01.ZigPairs", spec := "zigPairs", apart := false }
def ZigPairsSaid : Prop := zigPairsRow.holds Try.pinned (OpenSpec.ofChange zigPairsSpec)

/-- ITS FALSE NEIGHBOUR: 'it returns false'. Refute it at one input. -/
def zigPairsWrong : ChangeSpec := { name := "zigPairs", fn := fun _ => fun
  | [d1, d2, d3, d4, d5, d6] => { results := [.lit (.bool false)], args := [d1, d2, d3, d4, d5, d6] }
  | _ => none }
def ZigPairsWrongFalsely : Prop := zigPairsRow.holds Try.pinned (OpenSpec.ofChange zigPairsWrong)

/-- 'strandlinelaw01.ZigOne': WHATEVER THE INPUT: true; the input reads as it did. -/
def zigOneSpec : ChangeSpec := { name := "zigOne", fn := fun _ => fun
  | [d] => { results := [.lit (.bool true)], args := [d] }
  | _ => none }
def zigOneRow : OpenClaim := { program := "ytedlfjheiabhpaa", sum := "6b7259a818ff59dd1facc54dd50bc543f09bbeb991ccbe2e90f20c94a1e6794f", func := "strandline/strandlinelaw01.ZigOne", spec := "zigOne", apart := false }
def ZigOneSaid : Prop := zigOneRow.holds Try.pinned (OpenSpec.ofChange zigOneSpec)

/-- ITS FALSE NEIGHBOUR: 'it returns false'. Refute it at one input. -/
def zigOneWrong : ChangeSpec := { name := "zigOne", fn := fun _ => fun
  | [d] => { results := [.lit (.bool false)], args := [d] }
  | _ => none }
def ZigOneWrongFalsely : Prop := zigOneRow.holds Try.pinned (OpenSpec.ofChange zigOneWrong)

/-- 'strandlinelaw01.ZigCut': WHATEVER THE INPUT: true; the input reads as it did. -/
def zigCutSpec : ChangeSpec := { name := "zigCut", fn := fun _ => fun
  | [d1, d2, d3] => { results := [.lit (.bool true)], args := [d1, d2, d3] }
  | _ => none }
def zigCutRow : OpenClaim := { program := "ytedlfjheiabhpaa", sum := "6b7259a818ff59dd1facc54dd50bc543f09bbeb991ccbe2e90f20c94a1e6794f", func := "strandline/strandlinelaw01.ZigCut", spec := "zigCut", apart := false }
def ZigCutSaid : Prop := zigCutRow.holds Try.pinned (OpenSpec.ofChange zigCutSpec)

/-- ITS FALSE NEIGHBOUR: 'it returns false'. Refute it at one input. -/
def zigCutWrong : ChangeSpec := { name := "zigCut", fn := fun _ => fun
  | [d1, d2, d3] => { results := [.lit (.bool false)], args := [d1, d2, d3] }
  | _ => none }
def ZigCutWrongFalsely : Prop := zigCutRow.holds Try.pinned (OpenSpec.ofChange zigCutWrong)

/-- 'strandlinelaw01.ZigReads': WHATEVER THE INPUT: true; the input reads as it did. -/
def zigReadsSpec : ChangeSpec := { name := "zigReads", fn := fun _ => fun
  | [d1, d2] => { results := [.lit (.bool true)], args := [d1, d2] }
  | _ => none }
def zigReadsRow : OpenClaim := { program := "ytedlfjheiabhpaa", sum := "6b7259a818ff59dd1facc54dd50bc543f09bbeb991ccbe2e90f20c94a1e6794f", func := "strandline/strandlinelaw01.ZigReads", spec := "zigReads", apart := false }
def ZigReadsSaid : Prop := zigReadsRow.holds Try.pinned (OpenSpec.ofChange zigReadsSpec)

/-- ITS FALSE NEIGHBOUR: 'it returns false'. Refute it at one input. -/
def zigReadsWrong : ChangeSpec := { name := "zigReads", fn := fun _ => fun
  | [d1, d2] => { results := [.lit (.bool false)], args := [d1, d2] }
  | _ => none }
def ZigReadsWrongFalsely : Prop := zigReadsRow.holds Try.pinned (OpenSpec.ofChange zigReadsWrong)

/-- 'strandlinelaw01.ZigBack': WHATEVER THE INPUT: true; the input reads as it did. -/
def zigBackSpec : ChangeSpec := { name := "zigBack", fn := fun _ => fun
  | [d1, d2, d3, d4, d5] => { results := [.lit (.bool true)], args := [d1, d2, d3, d4, d5] }
  | _ => none }
def zigBackRow : OpenClaim := { program := "ytedlfjheiabhpaa", sum := "6b7259a818ff59dd1facc54dd50bc543f09bbeb991ccbe2e90f20c94a1e6794f", func := "strandline/strandlinelaw01.ZigBack", spec := "zigBack", apart := false }
def ZigBackSaid : Prop := zigBackRow.holds Try.pinned (OpenSpec.ofChange zigBackSpec)

/-- ITS FALSE NEIGHBOUR: 'it returns false'. Refute it at one input. -/
def zigBackWrong : ChangeSpec := { name := "zigBack", fn := fun _ => fun
  | [d1, d2, d3, d4, d5] => { results := [.lit (.bool false)], args := [d1, d2, d3, d4, d5] }
  | _ => none }
def ZigBackWrongFalsely : Prop := zigBackRow.holds Try.pinned (OpenSpec.ofChange zigBackWrong)

/- THE SECOND FORM. 'bulk': how many values and letters a reading holds, each counted each time it is reached (what is shared counts as often as it is met; a slice's spare places count too). A statement '..UptoSaid' is the law's where the arguments, and the package variables that the reading takes, are together of bulk at most 1048576: NARROWER than '..Said'. Prove '..Said' where nothing that the law and all that it calls make is longer than what came in: it says more and counts as full. Else prove '..UptoSaid'. A law counts once. -/
mutual
def uptoBulk {H : Type} : DataW H → Nat
  | .lit (.string bytes) => bytes.length + 1
  | .lit _ => 1
  | .nil => 1
  | .ptr d => uptoBulk d + 1
  | .slice elems spare => uptoBulkAll elems + uptoBulkAll spare + 1
  | .agg parts => uptoBulkAll parts + 1
  | .iface _ d => uptoBulk d + 1
  | .map entries => uptoBulkEntries entries + 1
  | .held _ => 1
def uptoBulkAll {H : Type} : List (DataW H) → Nat
  | [] => 0
  | d :: r => uptoBulk d + uptoBulkAll r
def uptoBulkEntries {H : Type} : List (Lit × DataW H) → Nat
  | [] => 0
  | x :: r => uptoBulkEntry x + uptoBulkEntries r
def uptoBulkEntry {H : Type} : Lit × DataW H → Nat
  | (.string bytes, d) => bytes.length + uptoBulk d + 1
  | (_, d) => uptoBulk d + 1
 end
def uptoSmall : (H : Type) → List (DataW H) → Bool := fun _ ds => decide (uptoBulkAll ds ≤ 1048576)
def OpenSpec.upto (s : _root_.Go.ChangeSpec) : _root_.Go.OpenSpec := { _root_.Go.OpenSpec.ofChange s with cond := some uptoSmall }

/-- 'strandlinelaw01.ZigFolds', WHERE WHAT IT READS IS OF BULK AT MOST 1048576: true; the input reads as it did. -/
def zigFoldsUptoRow : OpenClaim := { program := "ytedlfjheiabhpaa", sum := "6b7259a818ff59dd1facc54dd50bc543f09bbeb991ccbe2e90f20c94a1e6794f", func := "strandline/strandlinelaw01.ZigFolds", spec := "zigFolds", apart := false, narrowed := true }
def ZigFoldsUptoSaid : Prop := zigFoldsUptoRow.holds Try.pinned (OpenSpec.upto zigFoldsSpec)

/-- 'strandlinelaw01.ZigLong', WHERE WHAT IT READS IS OF BULK AT MOST 1048576: true; the input reads as it did. -/
def zigLongUptoRow : OpenClaim := { program := "ytedlfjheiabhpaa", sum := "6b7259a818ff59dd1facc54dd50bc543f09bbeb991ccbe2e90f20c94a1e6794f", func := "strandline/strandlinelaw01.ZigLong", spec := "zigLong", apart := false, narrowed := true }
def ZigLongUptoSaid : Prop := zigLongUptoRow.holds Try.pinned (OpenSpec.upto zigLongSpec)

/-- 'strandlinelaw01.ZigWrites', WHERE WHAT IT READS IS OF BULK AT MOST 1048576: true; the input reads as it did. -/
def zigWritesUptoRow : OpenClaim := { program := "ytedlfjheiabhpaa", sum := "6b7259a818ff59dd1facc54dd50bc543f09bbeb991ccbe2e90f20c94a1e6794f", func := "strandline/strandlinelaw01.ZigWrites", spec := "zigWrites", apart := false, narrowed := true }
def ZigWritesUptoSaid : Prop := zigWritesUptoRow.holds Try.pinned (OpenSpec.upto zigWritesSpec)

/-- 'strandlinelaw01.ZigPairs', WHERE WHAT IT READS IS OF BULK AT MOST 1048576: true; the input reads as it did. -/
def zigPairsUptoRow : OpenClaim := { program := "ytedlfjheiabhpaa", sum := "6b7259a818ff59dd1facc54dd50bc543f09bbeb991ccbe2e90f20c94a1e6794f", func := "strandline/strandlinelaw01.ZigPairs", spec := "zigPairs", apart := false, narrowed := true }
def ZigPairsUptoSaid : Prop := zigPairsUptoRow.holds Try.pinned (OpenSpec.upto zigPairsSpec)

/-- 'strandlinelaw01.ZigOne', WHERE WHAT IT READS IS OF BULK AT MOST 1048576: true; the input reads as it did. -/
def zigOneUptoRow : OpenClaim := { program := "ytedlfjheiabhpaa", sum := "6b7259a818ff59dd1facc54dd50bc543f09bbeb991ccbe2e90f20c94a1e6794f", func := "strandline/strandlinelaw01.ZigOne", spec := "zigOne", apart := false, narrowed := true }
def ZigOneUptoSaid : Prop := zigOneUptoRow.holds Try.pinned (OpenSpec.upto zigOneSpec)

/-- 'strandlinelaw01.ZigCut', WHERE WHAT IT READS IS OF BULK AT MOST 1048576: true; the input reads as it did. -/
def zigCutUptoRow : OpenClaim := { program := "ytedlfjheiabhpaa", sum := "6b7259a818ff59dd1facc54dd50bc543f09bbeb991ccbe2e90f20c94a1e6794f", func := "strandline/strandlinelaw01.ZigCut", spec := "zigCut", apart := false, narrowed := true }
def ZigCutUptoSaid : Prop := zigCutUptoRow.holds Try.pinned (OpenSpec.upto zigCutSpec)

/-- 'strandlinelaw01.ZigReads', WHERE WHAT IT READS IS OF BULK AT MOST 1048576: true; the input reads as it did. -/
def zigReadsUptoRow : OpenClaim := { program := "ytedlfjheiabhpaa", sum := "6b7259a818ff59dd1facc54dd50bc543f09bbeb991ccbe2e90f20c94a1e6794f", func := "strandline/strandlinelaw01.ZigReads", spec := "zigReads", apart := false, narrowed := true }
def ZigReadsUptoSaid : Prop := zigReadsUptoRow.holds Try.pinned (OpenSpec.upto zigReadsSpec)

/-- 'strandlinelaw01.ZigBack', WHERE WHAT IT READS IS OF BULK AT MOST 1048576: true; the input reads as it did. -/
def zigBackUptoRow : OpenClaim := { program := "ytedlfjheiabhpaa", sum := "6b7259a818ff59dd1facc54dd50bc543f09bbeb991ccbe2e90f20c94a1e6794f", func := "strandline/strandlinelaw01.ZigBack", spec := "zigBack", apart := false, narrowed := true }
def ZigBackUptoSaid : Prop := zigBackUptoRow.holds Try.pinned (OpenSpec.upto zigBackSpec)

end Rows
end Go.Proofs.Ytedlfjheiabhpaa
