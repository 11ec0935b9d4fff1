/-
  No cell of these rows narrows 'for every input' (looked for: loops, veiled, ifaces, maps, wideKeys, modest, calm, conditions, laid).
  DERIVED. THE GIVEN ROWS OF THIS SEAT. 7 by the template 'for every input the law returns true; each argument reads behind the call as it read before'; 0 by the template 'total and deterministic' (their statements: YthmikefinibecaaTotals.lean).
  GIVEN WITH THE SEED: the statements are not yours to turn. If you find one false, say at which input.
  Laid BY PROGRAM, IN A SANDBOX (cutbox-rows.mjs): the forced cells as the released guide's own fill.sh prints them over the translation aa6c84f11a8ec73c… (all of the seat's roots in one cut). By AI agents, Wed Nov 11 2026. No macro, syntax, notation, axiom, sorry.
-/
import Derived.Test.YthmikefinibecaaChecked
import GoSem.Claim
import GoSem.ClaimJoined
import GoSem.ClaimMapViews
import Derived.JoinedTies
import Derived.KernelRfl
namespace Go.Proofs.Ythmikefinibecaa
/- THE CELL 'sum', in the pinned program and in every row, IS THE sha256 OF THE DUMP (.gsa) THAT YthmikefinibecaaProg.lean LOADS. Nothing in Lean hashes anything: it is a label: what it is worth is what the hold of that sum in a sandbox is worth. -/
noncomputable def Try.pinned : Pinned := { name := "ythmikefinibecaa", sum := "aa6c84f11a8ec73c6954c37d208231bf760eb60f4a63532a47597339b1f44e8f", checked := Try.checked }
namespace Rows
def none {H : Type} : Left H := { results := [], args := [] }

/-- 'strandlinelaw16.RunsBetween': WHATEVER THE INPUT: true; the input reads as it did. -/
def runsBetweenSpec : ChangeSpec := { name := "runsBetween", fn := fun _ => fun
  | [d1, d2] => { results := [.lit (.bool true)], args := [d1, d2] }
  | _ => none }
def runsBetweenRow : OpenClaim := { program := "ythmikefinibecaa", sum := "aa6c84f11a8ec73c6954c37d208231bf760eb60f4a63532a47597339b1f44e8f", func := "strandline/strandlinelaw16.RunsBetween", spec := "runsBetween", unfollowed := true, recurses := true, apart := false }
def RunsBetweenSaid : Prop := runsBetweenRow.holds Try.pinned (OpenSpec.ofChange runsBetweenSpec)

/-- ITS FALSE NEIGHBOUR: 'it returns false'. Refute it at one input. -/
def runsBetweenWrong : ChangeSpec := { name := "runsBetween", fn := fun _ => fun
  | [d1, d2] => { results := [.lit (.bool false)], args := [d1, d2] }
  | _ => none }
def RunsBetweenWrongFalsely : Prop := runsBetweenRow.holds Try.pinned (OpenSpec.ofChange runsBetweenWrong)

/-- 'strandlinelaw16.RunsFences': WHATEVER THE INPUT: true; the input reads as it did. -/
def runsFencesSpec : ChangeSpec := { name := "runsFences", fn := fun _ => fun
  | [d] => { results := [.lit (.bool true)], args := [d] }
  | _ => none }
def runsFencesRow : OpenClaim := { program := "ythmikefinibecaa", sum := "aa6c84f11a8ec73c6954c37d208231bf760eb60f4a63532a47597339b1f44e8f", func := "strandline/strandlinelaw16.RunsFences", spec := "runsFences", inPlace := ["internal/abi.NoEscape"], unfollowed := true, recurses := true, apart := false }
def RunsFencesSaid : Prop := runsFencesRow.holds Try.pinned (OpenSpec.ofChange runsFencesSpec)

/-- ITS FALSE NEIGHBOUR: 'it returns false'. Refute it at one input. -/
def runsFencesWrong : ChangeSpec := { name := "runsFences", fn := fun _ => fun
  | [d] => { results := [.lit (.bool false)], args := [d] }
  | _ => none }
def RunsFencesWrongFalsely : Prop := runsFencesRow.holds Try.pinned (OpenSpec.ofChange runsFencesWrong)

/-- 'strandlinelaw16.RunsApart': WHATEVER THE INPUT: true; the input reads as it did. -/
def runsApartSpec : ChangeSpec := { name := "runsApart", fn := fun _ => fun
  | [d1, d2] => { results := [.lit (.bool true)], args := [d1, d2] }
  | _ => none }
def runsApartRow : OpenClaim := { program := "ythmikefinibecaa", sum := "aa6c84f11a8ec73c6954c37d208231bf760eb60f4a63532a47597339b1f44e8f", func := "strandline/strandlinelaw16.RunsApart", spec := "runsApart", inPlace := ["internal/abi.NoEscape"], unfollowed := true, recurses := true, apart := false }
def RunsApartSaid : Prop := runsApartRow.holds Try.pinned (OpenSpec.ofChange runsApartSpec)

/-- ITS FALSE NEIGHBOUR: 'it returns false'. Refute it at one input. -/
def runsApartWrong : ChangeSpec := { name := "runsApart", fn := fun _ => fun
  | [d1, d2] => { results := [.lit (.bool false)], args := [d1, d2] }
  | _ => none }
def RunsApartWrongFalsely : Prop := runsApartRow.holds Try.pinned (OpenSpec.ofChange runsApartWrong)

/-- 'strandlinelaw16.RunsEncodes': WHATEVER THE INPUT: true; the input reads as it did. -/
def runsEncodesSpec : ChangeSpec := { name := "runsEncodes", fn := fun _ => fun
  | [d] => { results := [.lit (.bool true)], args := [d] }
  | _ => none }
def runsEncodesRow : OpenClaim := { program := "ythmikefinibecaa", sum := "aa6c84f11a8ec73c6954c37d208231bf760eb60f4a63532a47597339b1f44e8f", func := "strandline/strandlinelaw16.RunsEncodes", spec := "runsEncodes", inPlace := ["internal/abi.NoEscape"], unfollowed := true, recurses := true, apart := false }
def RunsEncodesSaid : Prop := runsEncodesRow.holds Try.pinned (OpenSpec.ofChange runsEncodesSpec)

/-- ITS FALSE NEIGHBOUR: 'it returns false'. Refute it at one input. -/
def runsEncodesWrong : ChangeSpec := { name := "runsEncodes", fn := fun _ => fun
  | [d] => { results := [.lit (.bool false)], args := [d] }
  | _ => none }
def RunsEncodesWrongFalsely : Prop := runsEncodesRow.holds Try.pinned (OpenSpec.ofChange runsEncodesWrong)

/-- 'strandlinelaw16.RunsDecodes': WHATEVER THE INPUT: true; the input reads as it did. -/
def runsDecodesSpec : ChangeSpec := { name := "runsDecodes", fn := fun _ => fun
  | [d] => { results := [.lit (.bool true)], args := [d] }
  | _ => none }
def runsDecodesRow : OpenClaim := { program := "ythmikefinibecaa", sum := "aa6c84f11a8ec73c6954c37d208231bf760eb60f4a63532a47597339b1f44e8f", func := "strandline/strandlinelaw16.RunsDecodes", spec := "runsDecodes", inPlace := ["internal/abi.NoEscape"], unfollowed := true, recurses := true, apart := false }
def RunsDecodesSaid : Prop := runsDecodesRow.holds Try.pinned (OpenSpec.ofChange runsDecodesSpec)

/-- ITS FALSE NEIGHBOUR: 'it returns false'. Refute it at one input. -/
def runsDecodesWrong : ChangeSpec := { name := "runsDecodes", fn := fun _ => fun
  | [d] => { results := [.lit (.bool false)], args := [d] }
  | _ => none }
def RunsDecodesWrongFalsely : Prop := runsDecodesRow.holds Try.pinned (OpenSpec.ofChange runsDecodesWrong)

/-- 'strandlinelaw16.RunsIn': WHATEVER THE INPUT: true; the input reads as it did. -/
def runsInSpec : ChangeSpec := { name := "runsIn", fn := fun _ => fun
  | [d1, d2] => { results := [.lit (.bool true)], args := [d1, d2] }
  | _ => none }
def runsInRow : OpenClaim := { program := "ythmikefinibecaa", sum := "aa6c84f11a8ec73c6954c37d208231bf760eb60f4a63532a47597339b1f44e8f", func := "strandline/strandlinelaw16.RunsIn", spec := "runsIn", inPlace := ["internal/abi.NoEscape"], unfollowed := true, recurses := true, apart := false }
def RunsInSaid : Prop := runsInRow.holds Try.pinned (OpenSpec.ofChange runsInSpec)

/-- ITS FALSE NEIGHBOUR: 'it returns false'. Refute it at one input. -/
def runsInWrong : ChangeSpec := { name := "runsIn", fn := fun _ => fun
  | [d1, d2] => { results := [.lit (.bool false)], args := [d1, d2] }
  | _ => none }
def RunsInWrongFalsely : Prop := runsInRow.holds Try.pinned (OpenSpec.ofChange runsInWrong)

/-- 'strandlinelaw16.RunsCut': WHATEVER THE INPUT: true; the input reads as it did. -/
def runsCutSpec : ChangeSpec := { name := "runsCut", fn := fun _ => fun
  | [d1, d2, d3, d4] => { results := [.lit (.bool true)], args := [d1, d2, d3, d4] }
  | _ => none }
def runsCutRow : OpenClaim := { program := "ythmikefinibecaa", sum := "aa6c84f11a8ec73c6954c37d208231bf760eb60f4a63532a47597339b1f44e8f", func := "strandline/strandlinelaw16.RunsCut", spec := "runsCut", inPlace := ["internal/abi.NoEscape"], unfollowed := true, recurses := true, apart := false }
def RunsCutSaid : Prop := runsCutRow.holds Try.pinned (OpenSpec.ofChange runsCutSpec)

/-- ITS FALSE NEIGHBOUR: 'it returns false'. Refute it at one input. -/
def runsCutWrong : ChangeSpec := { name := "runsCut", fn := fun _ => fun
  | [d1, d2, d3, d4] => { results := [.lit (.bool false)], args := [d1, d2, d3, d4] }
  | _ => none }
def RunsCutWrongFalsely : Prop := runsCutRow.holds Try.pinned (OpenSpec.ofChange runsCutWrong)

/- THE SECOND FORM. 'bulk': how many values and letters a reading holds, each counted each time it is reached (what is shared counts as often as it is met; a slice's spare places count too). A statement '..UptoSaid' is the law's where the arguments, and the package variables that the reading takes, are together of bulk at most 1048576: NARROWER than '..Said'. Prove '..Said' where nothing that the law and all that it calls make is longer than what came in: it says more and counts as full. Else prove '..UptoSaid'. A law counts once. -/
mutual
def uptoBulk {H : Type} : DataW H → Nat
  | .lit (.string bytes) => bytes.length + 1
  | .lit _ => 1
  | .nil => 1
  | .ptr d => uptoBulk d + 1
  | .slice elems spare => uptoBulkAll elems + uptoBulkAll spare + 1
  | .agg parts => uptoBulkAll parts + 1
  | .iface _ d => uptoBulk d + 1
  | .map entries => uptoBulkEntries entries + 1
  | .held _ => 1
def uptoBulkAll {H : Type} : List (DataW H) → Nat
  | [] => 0
  | d :: r => uptoBulk d + uptoBulkAll r
def uptoBulkEntries {H : Type} : List (Lit × DataW H) → Nat
  | [] => 0
  | x :: r => uptoBulkEntry x + uptoBulkEntries r
def uptoBulkEntry {H : Type} : Lit × DataW H → Nat
  | (.string bytes, d) => bytes.length + uptoBulk d + 1
  | (_, d) => uptoBulk d + 1
 end
def uptoSmall : (H : Type) → List (DataW H) → Bool := fun _ ds => decide (uptoBulkAll ds ≤ 1048576)
def OpenSpec.upto (s : _root_.Go.ChangeSpec) : _root_.Go.OpenSpec := { _root_.Go.OpenSpec.ofChange s with cond := some uptoSmall }

/-- 'strandlinelaw16.RunsBetween', WHERE WHAT IT READS IS OF BULK AT MOST 1048576: true; the input reads as it did. -/
def runsBetweenUptoRow : OpenClaim := { program := "ythmikefinibecaa", sum := "aa6c84f11a8ec73c6954c37d208231bf760eb60f4a63532a47597339b1f44e8f", func := "strandline/strandlinelaw16.RunsBetween", spec := "runsBetween", unfollowed := true, recurses := true, apart := false, narrowed := true }
def RunsBetweenUptoSaid : Prop := runsBetweenUptoRow.holds Try.pinned (OpenSpec.upto runsBetweenSpec)

/-- 'strandlinelaw16.RunsFences', WHERE WHAT IT READS IS OF BULK AT MOST 1048576: true; the input reads as it did. -/
def runsFencesUptoRow : OpenClaim := { program := "ythmikefinibecaa", sum := "aa6c84f11a8ec73c6954c37d208231bf760eb60f4a63532a47597339b1f44e8f", func := "strandline/strandlinelaw16.RunsFences", spec := "runsFences", inPlace := ["internal/abi.NoEscape"], unfollowed := true, recurses := true, apart := false, narrowed := true }
def RunsFencesUptoSaid : Prop := runsFencesUptoRow.holds Try.pinned (OpenSpec.upto runsFencesSpec)

/-- 'strandlinelaw16.RunsApart', WHERE WHAT IT READS IS OF BULK AT MOST 1048576: true; the input reads as it did. -/
def runsApartUptoRow : OpenClaim := { program := "ythmikefinibecaa", sum := "aa6c84f11a8ec73c6954c37d208231bf760eb60f4a63532a47597339b1f44e8f", func := "strandline/strandlinelaw16.RunsApart", spec := "runsApart", inPlace := ["internal/abi.NoEscape"], unfollowed := true, recurses := true, apart := false, narrowed := true }
def RunsApartUptoSaid : Prop := runsApartUptoRow.holds Try.pinned (OpenSpec.upto runsApartSpec)

/-- 'strandlinelaw16.RunsEncodes', WHERE WHAT IT READS IS OF BULK AT MOST 1048576: true; the input reads as it did. -/
def runsEncodesUptoRow : OpenClaim := { program := "ythmikefinibecaa", sum := "aa6c84f11a8ec73c6954c37d208231bf760eb60f4a63532a47597339b1f44e8f", func := "strandline/strandlinelaw16.RunsEncodes", spec := "runsEncodes", inPlace := ["internal/abi.NoEscape"], unfollowed := true, recurses := true, apart := false, narrowed := true }
def RunsEncodesUptoSaid : Prop := runsEncodesUptoRow.holds Try.pinned (OpenSpec.upto runsEncodesSpec)

/-- 'strandlinelaw16.RunsDecodes', WHERE WHAT IT READS IS OF BULK AT MOST 1048576: true; the input reads as it did. -/
def runsDecodesUptoRow : OpenClaim := { program := "ythmikefinibecaa", sum := "aa6c84f11a8ec73c6954c37d208231bf760eb60f4a63532a47597339b1f44e8f", func := "strandline/strandlinelaw16.RunsDecodes", spec := "runsDecodes", inPlace := ["internal/abi.NoEscape"], unfollowed := true, recurses := true, apart := false, narrowed := true }
def RunsDecodesUptoSaid : Prop := runsDecodesUptoRow.holds Try.pinned (OpenSpec.upto runsDecodesSpec)

/-- 'strandlinelaw16.RunsIn', WHERE WHAT IT READS IS OF BULK AT MOST 1048576: true; the input reads as it did. -/
def runsInUptoRow : OpenClaim := { program := "ythmikefinibecaa", sum := "aa6c84f11a8ec73c6954c37d208231bf760eb60f4a63532a47597339b1f44e8f", func := "strandline/strandlinelaw16.RunsIn", spec := "runsIn", inPlace := ["internal/abi.NoEscape"], unfollowed := true, recurses := true, apart := false, narrowed := true }
def RunsInUptoSaid : Prop := runsInUptoRow.holds Try.pinned (OpenSpec.upto runsInSpec)

/-- 'strandlinelaw16.RunsCut', WHERE WHAT IT READS IS OF BULK AT MOST 1048576: true; the input reads as it did. -/
def runsCutUptoRow : OpenClaim := { program := "ythmikefinibecaa", sum := "aa6c84f11a8ec73c6954c37d208231bf760eb60f4a63532a47597339b1f44e8f", func := "strandline/strandlinelaw16.RunsCut", spec := "runsCut", inPlace := ["internal/abi.NoEscape"], unfollowed := true, recurses := true, apart := false, narrowed := true }
def RunsCutUptoSaid : Prop := runsCutUptoRow.holds Try.pinned (OpenSpec.upto runsCutSpec)

end Rows
end Go.Proofs.Ythmikefinibecaa
