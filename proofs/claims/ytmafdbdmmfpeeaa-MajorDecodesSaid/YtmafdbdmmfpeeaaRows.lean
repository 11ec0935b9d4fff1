/-
  No cell of these rows narrows 'for every input' (looked for: loops, veiled, ifaces, maps, wideKeys, modest, calm, conditions, laid).
  DERIVED. THE GIVEN ROWS OF THIS SEAT. 5 by the template 'for every input the law returns true; each argument reads behind the call as it read before'; 0 by the template 'total and deterministic' (their statements: YtmafdbdmmfpeeaaTotals.lean).
  GIVEN WITH THE SEED: the statements are not yours to turn. If you find one false, say at which input.
  Laid BY PROGRAM, IN A SANDBOX (cutbox-rows.mjs): the forced cells as the released guide's own fill.sh prints them over the translation 5205cca95747126b… (all of the seat's roots in one cut). By AI agents, Wed Nov 11 2026. No macro, syntax, notation, axiom, sorry.
-/
import Derived.Test.YtmafdbdmmfpeeaaChecked
import GoSem.Claim
import GoSem.ClaimJoined
import GoSem.ClaimMapViews
import Derived.JoinedTies
import Derived.KernelRfl
namespace Go.Proofs.Ytmafdbdmmfpeeaa
/- THE CELL 'sum', in the pinned program and in every row, IS THE sha256 OF THE DUMP (.gsa) THAT YtmafdbdmmfpeeaaProg.lean LOADS. Nothing in Lean hashes anything: it is a label: what it is worth is what the hold of that sum in a sandbox is worth. -/
noncomputable def Try.pinned : Pinned := { name := "ytmafdbdmmfpeeaa", sum := "5205cca95747126b533a28cef47f10c5f97f2186af284081f5fc0959262d7c99", checked := Try.checked }
namespace Rows
def none {H : Type} : Left H := { results := [], args := [] }

/-- 'strandlinelaw15.MajorFinds': WHATEVER THE INPUT: true; the input reads as it did. -/
def majorFindsSpec : ChangeSpec := { name := "majorFinds", fn := fun _ => fun
  | [d1, d2] => { results := [.lit (.bool true)], args := [d1, d2] }
  | _ => none }
def majorFindsRow : OpenClaim := { program := "ytmafdbdmmfpeeaa", sum := "5205cca95747126b533a28cef47f10c5f97f2186af284081f5fc0959262d7c99", func := "strandline/strandlinelaw15.MajorFinds", spec := "majorFinds", inPlace := ["internal/abi.NoEscape"], unfollowed := true, recurses := true, apart := false }
def MajorFindsSaid : Prop := majorFindsRow.holds Try.pinned (OpenSpec.ofChange majorFindsSpec)

/-- ITS FALSE NEIGHBOUR: 'it returns false'. Refute it at one input. -/
def majorFindsWrong : ChangeSpec := { name := "majorFinds", fn := fun _ => fun
  | [d1, d2] => { results := [.lit (.bool false)], args := [d1, d2] }
  | _ => none }
def MajorFindsWrongFalsely : Prop := majorFindsRow.holds Try.pinned (OpenSpec.ofChange majorFindsWrong)

/-- 'strandlinelaw15.MajorSmall': WHATEVER THE INPUT: true; the input reads as it did. -/
def majorSmallSpec : ChangeSpec := { name := "majorSmall", fn := fun _ => fun
  | [d] => { results := [.lit (.bool true)], args := [d] }
  | _ => none }
def majorSmallRow : OpenClaim := { program := "ytmafdbdmmfpeeaa", sum := "5205cca95747126b533a28cef47f10c5f97f2186af284081f5fc0959262d7c99", func := "strandline/strandlinelaw15.MajorSmall", spec := "majorSmall", inPlace := ["internal/abi.NoEscape"], unfollowed := true, recurses := true, apart := false }
def MajorSmallSaid : Prop := majorSmallRow.holds Try.pinned (OpenSpec.ofChange majorSmallSpec)

/-- ITS FALSE NEIGHBOUR: 'it returns false'. Refute it at one input. -/
def majorSmallWrong : ChangeSpec := { name := "majorSmall", fn := fun _ => fun
  | [d] => { results := [.lit (.bool false)], args := [d] }
  | _ => none }
def MajorSmallWrongFalsely : Prop := majorSmallRow.holds Try.pinned (OpenSpec.ofChange majorSmallWrong)

/-- 'strandlinelaw15.MajorEncodes': WHATEVER THE INPUT: true; the input reads as it did. -/
def majorEncodesSpec : ChangeSpec := { name := "majorEncodes", fn := fun _ => fun
  | [d] => { results := [.lit (.bool true)], args := [d] }
  | _ => none }
def majorEncodesRow : OpenClaim := { program := "ytmafdbdmmfpeeaa", sum := "5205cca95747126b533a28cef47f10c5f97f2186af284081f5fc0959262d7c99", func := "strandline/strandlinelaw15.MajorEncodes", spec := "majorEncodes", inPlace := ["internal/abi.NoEscape"], unfollowed := true, recurses := true, apart := false }
def MajorEncodesSaid : Prop := majorEncodesRow.holds Try.pinned (OpenSpec.ofChange majorEncodesSpec)

/-- ITS FALSE NEIGHBOUR: 'it returns false'. Refute it at one input. -/
def majorEncodesWrong : ChangeSpec := { name := "majorEncodes", fn := fun _ => fun
  | [d] => { results := [.lit (.bool false)], args := [d] }
  | _ => none }
def MajorEncodesWrongFalsely : Prop := majorEncodesRow.holds Try.pinned (OpenSpec.ofChange majorEncodesWrong)

/-- 'strandlinelaw15.MajorDecodes': WHATEVER THE INPUT: true; the input reads as it did. -/
def majorDecodesSpec : ChangeSpec := { name := "majorDecodes", fn := fun _ => fun
  | [d] => { results := [.lit (.bool true)], args := [d] }
  | _ => none }
def majorDecodesRow : OpenClaim := { program := "ytmafdbdmmfpeeaa", sum := "5205cca95747126b533a28cef47f10c5f97f2186af284081f5fc0959262d7c99", func := "strandline/strandlinelaw15.MajorDecodes", spec := "majorDecodes", inPlace := ["internal/abi.NoEscape"], unfollowed := true, recurses := true, apart := false }
def MajorDecodesSaid : Prop := majorDecodesRow.holds Try.pinned (OpenSpec.ofChange majorDecodesSpec)

/-- ITS FALSE NEIGHBOUR: 'it returns false'. Refute it at one input. -/
def majorDecodesWrong : ChangeSpec := { name := "majorDecodes", fn := fun _ => fun
  | [d] => { results := [.lit (.bool false)], args := [d] }
  | _ => none }
def MajorDecodesWrongFalsely : Prop := majorDecodesRow.holds Try.pinned (OpenSpec.ofChange majorDecodesWrong)

/-- 'strandlinelaw15.MajorEach': WHATEVER THE INPUT: true; the input reads as it did. -/
def majorEachSpec : ChangeSpec := { name := "majorEach", fn := fun _ => fun
  | [d1, d2] => { results := [.lit (.bool true)], args := [d1, d2] }
  | _ => none }
def majorEachRow : OpenClaim := { program := "ytmafdbdmmfpeeaa", sum := "5205cca95747126b533a28cef47f10c5f97f2186af284081f5fc0959262d7c99", func := "strandline/strandlinelaw15.MajorEach", spec := "majorEach", inPlace := ["internal/abi.NoEscape"], unfollowed := true, recurses := true, apart := false }
def MajorEachSaid : Prop := majorEachRow.holds Try.pinned (OpenSpec.ofChange majorEachSpec)

/-- ITS FALSE NEIGHBOUR: 'it returns false'. Refute it at one input. -/
def majorEachWrong : ChangeSpec := { name := "majorEach", fn := fun _ => fun
  | [d1, d2] => { results := [.lit (.bool false)], args := [d1, d2] }
  | _ => none }
def MajorEachWrongFalsely : Prop := majorEachRow.holds Try.pinned (OpenSpec.ofChange majorEachWrong)

/- THE SECOND FORM. 'bulk': how many values and letters a reading holds, each counted each time it is reached (what is shared counts as often as it is met; a slice's spare places count too). A statement '..UptoSaid' is the law's where the arguments, and the package variables that the reading takes, are together of bulk at most 1048576: NARROWER than '..Said'. Prove '..Said' where nothing that the law and all that it calls make is longer than what came in: it says more and counts as full. Else prove '..UptoSaid'. A law counts once. -/
mutual
def uptoBulk {H : Type} : DataW H → Nat
  | .lit (.string bytes) => bytes.length + 1
  | .lit _ => 1
  | .nil => 1
  | .ptr d => uptoBulk d + 1
  | .slice elems spare => uptoBulkAll elems + uptoBulkAll spare + 1
  | .agg parts => uptoBulkAll parts + 1
  | .iface _ d => uptoBulk d + 1
  | .map entries => uptoBulkEntries entries + 1
  | .held _ => 1
def uptoBulkAll {H : Type} : List (DataW H) → Nat
  | [] => 0
  | d :: r => uptoBulk d + uptoBulkAll r
def uptoBulkEntries {H : Type} : List (Lit × DataW H) → Nat
  | [] => 0
  | x :: r => uptoBulkEntry x + uptoBulkEntries r
def uptoBulkEntry {H : Type} : Lit × DataW H → Nat
  | (.string bytes, d) => bytes.length + uptoBulk d + 1
  | (_, d) => uptoBulk d + 1
 end
def uptoSmall : (H : Type) → List (DataW H) → Bool := fun _ ds => decide (uptoBulkAll ds ≤ 1048576)
def OpenSpec.upto (s : _root_.Go.ChangeSpec) : _root_.Go.OpenSpec := { _root_.Go.OpenSpec.ofChange s with cond := some uptoSmall }

/-- 'strandlinelaw15.MajorFinds', WHERE WHAT IT READS IS OF BULK AT MOST 1048576: true; the input reads as it did. -/
def majorFindsUptoRow : OpenClaim := { program := "ytmafdbdmmfpeeaa", sum := "5205cca95747126b533a28cef47f10c5f97f2186af284081f5fc0959262d7c99", func := "strandline/strandlinelaw15.MajorFinds", spec := "majorFinds", inPlace := ["internal/abi.NoEscape"], unfollowed := true, recurses := true, apart := false, narrowed := true }
def MajorFindsUptoSaid : Prop := majorFindsUptoRow.holds Try.pinned (OpenSpec.upto majorFindsSpec)

/-- 'strandlinelaw15.MajorSmall', WHERE WHAT IT READS IS OF BULK AT MOST 1048576: true; the input reads as it did. -/
def majorSmallUptoRow : OpenClaim := { program := "ytmafdbdmmfpeeaa", sum := "5205cca95747126b533a28cef47f10c5f97f2186af284081f5fc0959262d7c99", func := "strandline/strandlinelaw15.MajorSmall", spec := "majorSmall", inPlace := ["internal/abi.NoEscape"], unfollowed := true, recurses := true, apart := false, narrowed := true }
def MajorSmallUptoSaid : Prop := majorSmallUptoRow.holds Try.pinned (OpenSpec.upto majorSmallSpec)

/-- 'strandlinelaw15.MajorEncodes', WHERE WHAT IT READS IS OF BULK AT MOST 1048576: true; the input reads as it did. -/
def majorEncodesUptoRow : OpenClaim := { program := "ytmafdbdmmfpeeaa", sum := "5205cca95747126b533a28cef47f10c5f97f2186af284081f5fc0959262d7c99", func := "strandline/strandlinelaw15.MajorEncodes", spec := "majorEncodes", inPlace := ["internal/abi.NoEscape"], unfollowed := true, recurses := true, apart := false, narrowed := true }
def MajorEncodesUptoSaid : Prop := majorEncodesUptoRow.holds Try.pinned (OpenSpec.upto majorEncodesSpec)

/-- 'strandlinelaw15.MajorDecodes', WHERE WHAT IT READS IS OF BULK AT MOST 1048576: true; the input reads as it did. -/
def majorDecodesUptoRow : OpenClaim := { program := "ytmafdbdmmfpeeaa", sum := "5205cca95747126b533a28cef47f10c5f97f2186af284081f5fc0959262d7c99", func := "strandline/strandlinelaw15.MajorDecodes", spec := "majorDecodes", inPlace := ["internal/abi.NoEscape"], unfollowed := true, recurses := true, apart := false, narrowed := true }
def MajorDecodesUptoSaid : Prop := majorDecodesUptoRow.holds Try.pinned (OpenSpec.upto majorDecodesSpec)

/-- 'strandlinelaw15.MajorEach', WHERE WHAT IT READS IS OF BULK AT MOST 1048576: true; the input reads as it did. -/
def majorEachUptoRow : OpenClaim := { program := "ytmafdbdmmfpeeaa", sum := "5205cca95747126b533a28cef47f10c5f97f2186af284081f5fc0959262d7c99", func := "strandline/strandlinelaw15.MajorEach", spec := "majorEach", inPlace := ["internal/abi.NoEscape"], unfollowed := true, recurses := true, apart := false, narrowed := true }
def MajorEachUptoSaid : Prop := majorEachUptoRow.holds Try.pinned (OpenSpec.upto majorEachSpec)

end Rows
end Go.Proofs.Ytmafdbdmmfpeeaa
