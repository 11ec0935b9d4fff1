/-
  NARROWER THAN 'FOR EVERY INPUT', by the rows' own cells (each row's printed sentence says how): FrameSums: laid · FrameApart: laid · FrameScans: laid · FrameBack: laid · FrameChanged: laid · FrameJoined: laid.
  DERIVED. THE GIVEN ROWS OF THIS SEAT. 6 by the template 'for every input the law returns true; each argument reads behind the call as it read before'; 0 by the template 'total and deterministic' (their statements: YtgfchhbekbmlcaaDoorTotals.lean).
  GIVEN WITH THE SEED: the statements are not yours to turn. If you find one false, say at which input.
  Laid BY PROGRAM, IN A SANDBOX (cutbox-rows.mjs): the forced cells as the released guide's own fill.sh prints them over the translation 885e780b7ca6b208… (all of the seat's roots in one cut). By AI agents, Wed Nov 11 2026. No macro, syntax, notation, axiom, sorry.
-/
import Derived.Test.YtgfchhbekbmlcaaDoorChecked
import GoSem.Claim
import GoSem.ClaimJoined
import GoSem.ClaimMapViews
import Derived.JoinedTies
import Derived.KernelRfl
namespace Go.Proofs.YtgfchhbekbmlcaaDoor
/- THE CELL 'sum', in the pinned program and in every row, IS THE sha256 OF THE DUMP (.gsa) THAT YtgfchhbekbmlcaaDoorProg.lean LOADS. Nothing in Lean hashes anything: it is a label: what it is worth is what the hold of that sum in a sandbox is worth. -/
noncomputable def Tryd.pinned : Pinned := { name := "ytgfchhbekbmlcaadoor", sum := "885e780b7ca6b208a67c3dd577badfb222e21e3a7e8d9bcba4ed17a455c0ad0e", checked := Tryd.checked }
namespace Rows
def none {H : Type} : Left H := { results := [], args := [] }

/- WHAT THE LISTED PACKAGE-LEVEL VARIABLES READ AS WHEN THE CALL BEGINS. Each datum BY PROGRAM (the guide's laid-datum.mjs) off the statement by which the dump's own 'gosem.cut.vars' lays the variable. In a bare row this is a premise. The card (YtgfchhbekbmlcaaDoorCards.lean) ties it to the program's text. -/
def laid_strandline_frame_steps {H : Type} : DataW H := .agg [.lit (.int .u16 0), .lit (.int .u16 4129), .lit (.int .u16 8258), .lit (.int .u16 12387), .lit (.int .u16 16516), .lit (.int .u16 20645), .lit (.int .u16 24774), .lit (.int .u16 28903), .lit (.int .u16 33032), .lit (.int .u16 37161), .lit (.int .u16 41290), .lit (.int .u16 45419), .lit (.int .u16 49548), .lit (.int .u16 53677), .lit (.int .u16 57806), .lit (.int .u16 61935)]

/-- 'strandlinelaw08.FrameSums': WHATEVER THE INPUT: true; the input reads as it did. -/
def frameSumsSpec : ChangeSpec := { name := "frameSums", fn := fun _ => fun
  | [d] => { results := [.lit (.bool true)], args := [d] }
  | _ => none }
def frameSumsRow : OpenClaim := { program := "ytgfchhbekbmlcaadoor", sum := "885e780b7ca6b208a67c3dd577badfb222e21e3a7e8d9bcba4ed17a455c0ad0e", func := "strandline/strandlinelaw08.FrameSums", spec := "frameSums", named := ["strandline/frame.steps"], apart := false, laid := [("strandline/frame.steps", laid_strandline_frame_steps)] }
def FrameSumsSaid : Prop := frameSumsRow.holds Tryd.pinned (OpenSpec.ofChange frameSumsSpec)

/-- ITS FALSE NEIGHBOUR: 'it returns false'. Refute it at one input. -/
def frameSumsWrong : ChangeSpec := { name := "frameSums", fn := fun _ => fun
  | [d] => { results := [.lit (.bool false)], args := [d] }
  | _ => none }
def FrameSumsWrongFalsely : Prop := frameSumsRow.holds Tryd.pinned (OpenSpec.ofChange frameSumsWrong)

/-- 'strandlinelaw08.FrameApart': WHATEVER THE INPUT: true; the input reads as it did. -/
def frameApartSpec : ChangeSpec := { name := "frameApart", fn := fun _ => fun
  | [d1, d2] => { results := [.lit (.bool true)], args := [d1, d2] }
  | _ => none }
def frameApartRow : OpenClaim := { program := "ytgfchhbekbmlcaadoor", sum := "885e780b7ca6b208a67c3dd577badfb222e21e3a7e8d9bcba4ed17a455c0ad0e", func := "strandline/strandlinelaw08.FrameApart", spec := "frameApart", named := ["strandline/frame.steps"], apart := false, laid := [("strandline/frame.steps", laid_strandline_frame_steps)] }
def FrameApartSaid : Prop := frameApartRow.holds Tryd.pinned (OpenSpec.ofChange frameApartSpec)

/-- ITS FALSE NEIGHBOUR: 'it returns false'. Refute it at one input. -/
def frameApartWrong : ChangeSpec := { name := "frameApart", fn := fun _ => fun
  | [d1, d2] => { results := [.lit (.bool false)], args := [d1, d2] }
  | _ => none }
def FrameApartWrongFalsely : Prop := frameApartRow.holds Tryd.pinned (OpenSpec.ofChange frameApartWrong)

/-- 'strandlinelaw08.FrameScans': WHATEVER THE INPUT: true; the input reads as it did. -/
def frameScansSpec : ChangeSpec := { name := "frameScans", fn := fun _ => fun
  | [d] => { results := [.lit (.bool true)], args := [d] }
  | _ => none }
def frameScansRow : OpenClaim := { program := "ytgfchhbekbmlcaadoor", sum := "885e780b7ca6b208a67c3dd577badfb222e21e3a7e8d9bcba4ed17a455c0ad0e", func := "strandline/strandlinelaw08.FrameScans", spec := "frameScans", named := ["strandline/frame.steps"], apart := false, laid := [("strandline/frame.steps", laid_strandline_frame_steps)] }
def FrameScansSaid : Prop := frameScansRow.holds Tryd.pinned (OpenSpec.ofChange frameScansSpec)

/-- ITS FALSE NEIGHBOUR: 'it returns false'. Refute it at one input. -/
def frameScansWrong : ChangeSpec := { name := "frameScans", fn := fun _ => fun
  | [d] => { results := [.lit (.bool false)], args := [d] }
  | _ => none }
def FrameScansWrongFalsely : Prop := frameScansRow.holds Tryd.pinned (OpenSpec.ofChange frameScansWrong)

/-- 'strandlinelaw08.FrameBack': WHATEVER THE INPUT: true; the input reads as it did. -/
def frameBackSpec : ChangeSpec := { name := "frameBack", fn := fun _ => fun
  | [d1, d2] => { results := [.lit (.bool true)], args := [d1, d2] }
  | _ => none }
def frameBackRow : OpenClaim := { program := "ytgfchhbekbmlcaadoor", sum := "885e780b7ca6b208a67c3dd577badfb222e21e3a7e8d9bcba4ed17a455c0ad0e", func := "strandline/strandlinelaw08.FrameBack", spec := "frameBack", named := ["strandline/frame.steps"], apart := false, laid := [("strandline/frame.steps", laid_strandline_frame_steps)] }
def FrameBackSaid : Prop := frameBackRow.holds Tryd.pinned (OpenSpec.ofChange frameBackSpec)

/-- ITS FALSE NEIGHBOUR: 'it returns false'. Refute it at one input. -/
def frameBackWrong : ChangeSpec := { name := "frameBack", fn := fun _ => fun
  | [d1, d2] => { results := [.lit (.bool false)], args := [d1, d2] }
  | _ => none }
def FrameBackWrongFalsely : Prop := frameBackRow.holds Tryd.pinned (OpenSpec.ofChange frameBackWrong)

/-- 'strandlinelaw08.FrameChanged': WHATEVER THE INPUT: true; the input reads as it did. -/
def frameChangedSpec : ChangeSpec := { name := "frameChanged", fn := fun _ => fun
  | [d1, d2, d3] => { results := [.lit (.bool true)], args := [d1, d2, d3] }
  | _ => none }
def frameChangedRow : OpenClaim := { program := "ytgfchhbekbmlcaadoor", sum := "885e780b7ca6b208a67c3dd577badfb222e21e3a7e8d9bcba4ed17a455c0ad0e", func := "strandline/strandlinelaw08.FrameChanged", spec := "frameChanged", named := ["strandline/frame.steps"], apart := false, laid := [("strandline/frame.steps", laid_strandline_frame_steps)] }
def FrameChangedSaid : Prop := frameChangedRow.holds Tryd.pinned (OpenSpec.ofChange frameChangedSpec)

/-- ITS FALSE NEIGHBOUR: 'it returns false'. Refute it at one input. -/
def frameChangedWrong : ChangeSpec := { name := "frameChanged", fn := fun _ => fun
  | [d1, d2, d3] => { results := [.lit (.bool false)], args := [d1, d2, d3] }
  | _ => none }
def FrameChangedWrongFalsely : Prop := frameChangedRow.holds Tryd.pinned (OpenSpec.ofChange frameChangedWrong)

/-- 'strandlinelaw08.FrameJoined': WHATEVER THE INPUT: true; the input reads as it did. -/
def frameJoinedSpec : ChangeSpec := { name := "frameJoined", fn := fun _ => fun
  | [d1, d2] => { results := [.lit (.bool true)], args := [d1, d2] }
  | _ => none }
def frameJoinedRow : OpenClaim := { program := "ytgfchhbekbmlcaadoor", sum := "885e780b7ca6b208a67c3dd577badfb222e21e3a7e8d9bcba4ed17a455c0ad0e", func := "strandline/strandlinelaw08.FrameJoined", spec := "frameJoined", named := ["strandline/frame.steps"], apart := false, laid := [("strandline/frame.steps", laid_strandline_frame_steps)] }
def FrameJoinedSaid : Prop := frameJoinedRow.holds Tryd.pinned (OpenSpec.ofChange frameJoinedSpec)

/-- ITS FALSE NEIGHBOUR: 'it returns false'. Refute it at one input. -/
def frameJoinedWrong : ChangeSpec := { name := "frameJoined", fn := fun _ => fun
  | [d1, d2] => { results := [.lit (.bool false)], args := [d1, d2] }
  | _ => none }
def FrameJoinedWrongFalsely : Prop := frameJoinedRow.holds Tryd.pinned (OpenSpec.ofChange frameJoinedWrong)

/- THE SECOND FORM. 'bulk': how many values and letters a reading holds, each counted each time it is reached (what is shared counts as often as it is met; a slice's spare places count too). A statement '..UptoSaid' is the law's where the arguments, and the package variables that the reading takes, are together of bulk at most 1048576: NARROWER than '..Said'. Prove '..Said' where nothing that the law and all that it calls make is longer than what came in: it says more and counts as full. Else prove '..UptoSaid'. A law counts once. -/
mutual
def uptoBulk {H : Type} : DataW H → Nat
  | .lit (.string bytes) => bytes.length + 1
  | .lit _ => 1
  | .nil => 1
  | .ptr d => uptoBulk d + 1
  | .slice elems spare => uptoBulkAll elems + uptoBulkAll spare + 1
  | .agg parts => uptoBulkAll parts + 1
  | .iface _ d => uptoBulk d + 1
  | .map entries => uptoBulkEntries entries + 1
  | .held _ => 1
def uptoBulkAll {H : Type} : List (DataW H) → Nat
  | [] => 0
  | d :: r => uptoBulk d + uptoBulkAll r
def uptoBulkEntries {H : Type} : List (Lit × DataW H) → Nat
  | [] => 0
  | x :: r => uptoBulkEntry x + uptoBulkEntries r
def uptoBulkEntry {H : Type} : Lit × DataW H → Nat
  | (.string bytes, d) => bytes.length + uptoBulk d + 1
  | (_, d) => uptoBulk d + 1
 end
def uptoSmall : (H : Type) → List (DataW H) → Bool := fun _ ds => decide (uptoBulkAll ds ≤ 1048576)
def OpenSpec.upto (s : _root_.Go.ChangeSpec) : _root_.Go.OpenSpec := { _root_.Go.OpenSpec.ofChange s with cond := some uptoSmall }

/-- 'strandlinelaw08.FrameSums', WHERE WHAT IT READS IS OF BULK AT MOST 1048576: true; the input reads as it did. -/
def frameSumsUptoRow : OpenClaim := { program := "ytgfchhbekbmlcaadoor", sum := "885e780b7ca6b208a67c3dd577badfb222e21e3a7e8d9bcba4ed17a455c0ad0e", func := "strandline/strandlinelaw08.FrameSums", spec := "frameSums", named := ["strandline/frame.steps"], apart := false, laid := [("strandline/frame.steps", laid_strandline_frame_steps)], narrowed := true }
def FrameSumsUptoSaid : Prop := frameSumsUptoRow.holds Tryd.pinned (OpenSpec.upto frameSumsSpec)

/-- 'strandlinelaw08.FrameApart', WHERE WHAT IT READS IS OF BULK AT MOST 1048576: true; the input reads as it did. -/
def frameApartUptoRow : OpenClaim := { program := "ytgfchhbekbmlcaadoor", sum := "885e780b7ca6b208a67c3dd577badfb222e21e3a7e8d9bcba4ed17a455c0ad0e", func := "strandline/strandlinelaw08.FrameApart", spec := "frameApart", named := ["strandline/frame.steps"], apart := false, laid := [("strandline/frame.steps", laid_strandline_frame_steps)], narrowed := true }
def FrameApartUptoSaid : Prop := frameApartUptoRow.holds Tryd.pinned (OpenSpec.upto frameApartSpec)

/-- 'strandlinelaw08.FrameScans', WHERE WHAT IT READS IS OF BULK AT MOST 1048576: true; the input reads as it did. -/
def frameScansUptoRow : OpenClaim := { program := "ytgfchhbekbmlcaadoor", sum := "885e780b7ca6b208a67c3dd577badfb222e21e3a7e8d9bcba4ed17a455c0ad0e", func := "strandline/strandlinelaw08.FrameScans", spec := "frameScans", named := ["strandline/frame.steps"], apart := false, laid := [("strandline/frame.steps", laid_strandline_frame_steps)], narrowed := true }
def FrameScansUptoSaid : Prop := frameScansUptoRow.holds Tryd.pinned (OpenSpec.upto frameScansSpec)

/-- 'strandlinelaw08.FrameBack', WHERE WHAT IT READS IS OF BULK AT MOST 1048576: true; the input reads as it did. -/
def frameBackUptoRow : OpenClaim := { program := "ytgfchhbekbmlcaadoor", sum := "885e780b7ca6b208a67c3dd577badfb222e21e3a7e8d9bcba4ed17a455c0ad0e", func := "strandline/strandlinelaw08.FrameBack", spec := "frameBack", named := ["strandline/frame.steps"], apart := false, laid := [("strandline/frame.steps", laid_strandline_frame_steps)], narrowed := true }
def FrameBackUptoSaid : Prop := frameBackUptoRow.holds Tryd.pinned (OpenSpec.upto frameBackSpec)

/-- 'strandlinelaw08.FrameChanged', WHERE WHAT IT READS IS OF BULK AT MOST 1048576: true; the input reads as it did. -/
def frameChangedUptoRow : OpenClaim := { program := "ytgfchhbekbmlcaadoor", sum := "885e780b7ca6b208a67c3dd577badfb222e21e3a7e8d9bcba4ed17a455c0ad0e", func := "strandline/strandlinelaw08.FrameChanged", spec := "frameChanged", named := ["strandline/frame.steps"], apart := false, laid := [("strandline/frame.steps", laid_strandline_frame_steps)], narrowed := true }
def FrameChangedUptoSaid : Prop := frameChangedUptoRow.holds Tryd.pinned (OpenSpec.upto frameChangedSpec)

/-- 'strandlinelaw08.FrameJoined', WHERE WHAT IT READS IS OF BULK AT MOST 1048576: true; the input reads as it did. -/
def frameJoinedUptoRow : OpenClaim := { program := "ytgfchhbekbmlcaadoor", sum := "885e780b7ca6b208a67c3dd577badfb222e21e3a7e8d9bcba4ed17a455c0ad0e", func := "strandline/strandlinelaw08.FrameJoined", spec := "frameJoined", named := ["strandline/frame.steps"], apart := false, laid := [("strandline/frame.steps", laid_strandline_frame_steps)], narrowed := true }
def FrameJoinedUptoSaid : Prop := frameJoinedUptoRow.holds Tryd.pinned (OpenSpec.upto frameJoinedSpec)

end Rows
end Go.Proofs.YtgfchhbekbmlcaaDoor
