/-
  NARROWER THAN 'FOR EVERY INPUT', by the rows' own cells (each row's printed sentence says how): CursorEncodes: laid · CursorDecodes: laid · CursorChanged: laid · CursorApart: laid · CursorAll: laid.
  DERIVED. THE GIVEN ROWS OF THIS SEAT. 5 by the template 'for every input the law returns true; each argument reads behind the call as it read before'; 0 by the template 'total and deterministic' (their statements: YtfhgjangeicbjaaDoorTotals.lean).
  GIVEN WITH THE SEED: the statements are not yours to turn. If you find one false, say at which input.
  Laid BY PROGRAM, IN A SANDBOX (cutbox-rows.mjs): the forced cells as the released guide's own fill.sh prints them over the translation 69ae0176c606045a… (all of the seat's roots in one cut). By AI agents, Wed Nov 11 2026. No macro, syntax, notation, axiom, sorry.
-/
import Derived.Test.YtfhgjangeicbjaaDoorChecked
import GoSem.Claim
import GoSem.ClaimJoined
import GoSem.ClaimMapViews
import Derived.JoinedTies
import Derived.KernelRfl
namespace Go.Proofs.YtfhgjangeicbjaaDoor
/- THE CELL 'sum', in the pinned program and in every row, IS THE sha256 OF THE DUMP (.gsa) THAT YtfhgjangeicbjaaDoorProg.lean LOADS. Nothing in Lean hashes anything: it is a label: what it is worth is what the hold of that sum in a sandbox is worth. -/
noncomputable def Tryd.pinned : Pinned := { name := "ytfhgjangeicbjaadoor", sum := "69ae0176c606045a06c88f0ca747d68c1aa8af28b1a1e65f948cc6ce912c26ed", checked := Tryd.checked }
namespace Rows
def none {H : Type} : Left H := { results := [], args := [] }

/- WHAT THE LISTED PACKAGE-LEVEL VARIABLES READ AS WHEN THE CALL BEGINS. Each datum BY PROGRAM (the guide's laid-datum.mjs) off the statement by which the dump's own 'gosem.cut.vars' lays the variable. In a bare row this is a premise. The card (YtfhgjangeicbjaaDoorCards.lean) ties it to the program's text. -/
def laid_strandline_frame_steps {H : Type} : DataW H := .agg [.lit (.int .u16 0), .lit (.int .u16 4129), .lit (.int .u16 8258), .lit (.int .u16 12387), .lit (.int .u16 16516), .lit (.int .u16 20645), .lit (.int .u16 24774), .lit (.int .u16 28903), .lit (.int .u16 33032), .lit (.int .u16 37161), .lit (.int .u16 41290), .lit (.int .u16 45419), .lit (.int .u16 49548), .lit (.int .u16 53677), .lit (.int .u16 57806), .lit (.int .u16 61935)]

/-- 'strandlinelaw20.CursorEncodes': WHATEVER THE INPUT: true; the input reads as it did. -/
def cursorEncodesSpec : ChangeSpec := { name := "cursorEncodes", fn := fun _ => fun
  | [d] => { results := [.lit (.bool true)], args := [d] }
  | _ => none }
def cursorEncodesRow : OpenClaim := { program := "ytfhgjangeicbjaadoor", sum := "69ae0176c606045a06c88f0ca747d68c1aa8af28b1a1e65f948cc6ce912c26ed", func := "strandline/strandlinelaw20.CursorEncodes", spec := "cursorEncodes", inPlace := ["internal/abi.NoEscape"], named := ["strandline/frame.steps"], apart := false, laid := [("strandline/frame.steps", laid_strandline_frame_steps)] }
def CursorEncodesSaid : Prop := cursorEncodesRow.holds Tryd.pinned (OpenSpec.ofChange cursorEncodesSpec)

/-- ITS FALSE NEIGHBOUR: 'it returns false'. Refute it at one input. -/
def cursorEncodesWrong : ChangeSpec := { name := "cursorEncodes", fn := fun _ => fun
  | [d] => { results := [.lit (.bool false)], args := [d] }
  | _ => none }
def CursorEncodesWrongFalsely : Prop := cursorEncodesRow.holds Tryd.pinned (OpenSpec.ofChange cursorEncodesWrong)

/-- 'strandlinelaw20.CursorDecodes': WHATEVER THE INPUT: true; the input reads as it did. -/
def cursorDecodesSpec : ChangeSpec := { name := "cursorDecodes", fn := fun _ => fun
  | [d] => { results := [.lit (.bool true)], args := [d] }
  | _ => none }
def cursorDecodesRow : OpenClaim := { program := "ytfhgjangeicbjaadoor", sum := "69ae0176c606045a06c88f0ca747d68c1aa8af28b1a1e65f948cc6ce912c26ed", func := "strandline/strandlinelaw20.CursorDecodes", spec := "cursorDecodes", inPlace := ["internal/abi.NoEscape"], named := ["strandline/frame.steps"], apart := false, laid := [("strandline/frame.steps", laid_strandline_frame_steps)] }
def CursorDecodesSaid : Prop := cursorDecodesRow.holds Tryd.pinned (OpenSpec.ofChange cursorDecodesSpec)

/-- ITS FALSE NEIGHBOUR: 'it returns false'. Refute it at one input. -/
def cursorDecodesWrong : ChangeSpec := { name := "cursorDecodes", fn := fun _ => fun
  | [d] => { results := [.lit (.bool false)], args := [d] }
  | _ => none }
def CursorDecodesWrongFalsely : Prop := cursorDecodesRow.holds Tryd.pinned (OpenSpec.ofChange cursorDecodesWrong)

/-- 'strandlinelaw20.CursorChanged': WHATEVER THE INPUT: true; the input reads as it did. -/
def cursorChangedSpec : ChangeSpec := { name := "cursorChanged", fn := fun _ => fun
  | [d1, d2, d3] => { results := [.lit (.bool true)], args := [d1, d2, d3] }
  | _ => none }
def cursorChangedRow : OpenClaim := { program := "ytfhgjangeicbjaadoor", sum := "69ae0176c606045a06c88f0ca747d68c1aa8af28b1a1e65f948cc6ce912c26ed", func := "strandline/strandlinelaw20.CursorChanged", spec := "cursorChanged", inPlace := ["internal/abi.NoEscape"], named := ["strandline/frame.steps"], apart := false, laid := [("strandline/frame.steps", laid_strandline_frame_steps)] }
def CursorChangedSaid : Prop := cursorChangedRow.holds Tryd.pinned (OpenSpec.ofChange cursorChangedSpec)

/-- ITS FALSE NEIGHBOUR: 'it returns false'. Refute it at one input. -/
def cursorChangedWrong : ChangeSpec := { name := "cursorChanged", fn := fun _ => fun
  | [d1, d2, d3] => { results := [.lit (.bool false)], args := [d1, d2, d3] }
  | _ => none }
def CursorChangedWrongFalsely : Prop := cursorChangedRow.holds Tryd.pinned (OpenSpec.ofChange cursorChangedWrong)

/-- 'strandlinelaw20.CursorApart': WHATEVER THE INPUT: true; the input reads as it did. -/
def cursorApartSpec : ChangeSpec := { name := "cursorApart", fn := fun _ => fun
  | [d1, d2] => { results := [.lit (.bool true)], args := [d1, d2] }
  | _ => none }
def cursorApartRow : OpenClaim := { program := "ytfhgjangeicbjaadoor", sum := "69ae0176c606045a06c88f0ca747d68c1aa8af28b1a1e65f948cc6ce912c26ed", func := "strandline/strandlinelaw20.CursorApart", spec := "cursorApart", inPlace := ["internal/abi.NoEscape"], named := ["strandline/frame.steps"], apart := false, laid := [("strandline/frame.steps", laid_strandline_frame_steps)] }
def CursorApartSaid : Prop := cursorApartRow.holds Tryd.pinned (OpenSpec.ofChange cursorApartSpec)

/-- ITS FALSE NEIGHBOUR: 'it returns false'. Refute it at one input. -/
def cursorApartWrong : ChangeSpec := { name := "cursorApart", fn := fun _ => fun
  | [d1, d2] => { results := [.lit (.bool false)], args := [d1, d2] }
  | _ => none }
def CursorApartWrongFalsely : Prop := cursorApartRow.holds Tryd.pinned (OpenSpec.ofChange cursorApartWrong)

/-- 'strandlinelaw20.CursorAll': WHATEVER THE INPUT: true; the input reads as it did. -/
def cursorAllSpec : ChangeSpec := { name := "cursorAll", fn := fun _ => fun
  | [d1, d2, d3] => { results := [.lit (.bool true)], args := [d1, d2, d3] }
  | _ => none }
def cursorAllRow : OpenClaim := { program := "ytfhgjangeicbjaadoor", sum := "69ae0176c606045a06c88f0ca747d68c1aa8af28b1a1e65f948cc6ce912c26ed", func := "strandline/strandlinelaw20.CursorAll", spec := "cursorAll", inPlace := ["internal/abi.NoEscape"], named := ["strandline/frame.steps"], apart := false, laid := [("strandline/frame.steps", laid_strandline_frame_steps)] }
def CursorAllSaid : Prop := cursorAllRow.holds Tryd.pinned (OpenSpec.ofChange cursorAllSpec)

/-- ITS FALSE NEIGHBOUR: 'it returns false'. Refute it at one input. -/
def cursorAllWrong : ChangeSpec := { name := "cursorAll", fn := fun _ => fun
  | [d1, d2, d3] => { results := [.lit (.bool false)], args := [d1, d2, d3] }
  | _ => none }
def CursorAllWrongFalsely : Prop := cursorAllRow.holds Tryd.pinned (OpenSpec.ofChange cursorAllWrong)

/- THE SECOND FORM. 'bulk': how many values and letters a reading holds, each counted each time it is reached (what is shared counts as often as it is met; a slice's spare places count too). A statement '..UptoSaid' is the law's where the arguments, and the package variables that the reading takes, are together of bulk at most 1048576: NARROWER than '..Said'. Prove '..Said' where nothing that the law and all that it calls make is longer than what came in: it says more and counts as full. Else prove '..UptoSaid'. A law counts once. -/
mutual
def uptoBulk {H : Type} : DataW H → Nat
  | .lit (.string bytes) => bytes.length + 1
  | .lit _ => 1
  | .nil => 1
  | .ptr d => uptoBulk d + 1
  | .slice elems spare => uptoBulkAll elems + uptoBulkAll spare + 1
  | .agg parts => uptoBulkAll parts + 1
  | .iface _ d => uptoBulk d + 1
  | .map entries => uptoBulkEntries entries + 1
  | .held _ => 1
def uptoBulkAll {H : Type} : List (DataW H) → Nat
  | [] => 0
  | d :: r => uptoBulk d + uptoBulkAll r
def uptoBulkEntries {H : Type} : List (Lit × DataW H) → Nat
  | [] => 0
  | x :: r => uptoBulkEntry x + uptoBulkEntries r
def uptoBulkEntry {H : Type} : Lit × DataW H → Nat
  | (.string bytes, d) => bytes.length + uptoBulk d + 1
  | (_, d) => uptoBulk d + 1
 end
def uptoSmall : (H : Type) → List (DataW H) → Bool := fun _ ds => decide (uptoBulkAll ds ≤ 1048576)
def OpenSpec.upto (s : _root_.Go.ChangeSpec) : _root_.Go.OpenSpec := { _root_.Go.OpenSpec.ofChange s with cond := some uptoSmall }

/-- 'strandlinelaw20.CursorEncodes', WHERE WHAT IT READS IS OF BULK AT MOST 1048576: true; the input reads as it did. -/
def cursorEncodesUptoRow : OpenClaim := { program := "ytfhgjangeicbjaadoor", sum := "69ae0176c606045a06c88f0ca747d68c1aa8af28b1a1e65f948cc6ce912c26ed", func := "strandline/strandlinelaw20.CursorEncodes", spec := "cursorEncodes", inPlace := ["internal/abi.NoEscape"], named := ["strandline/frame.steps"], apart := false, laid := [("strandline/frame.steps", laid_strandline_frame_steps)], narrowed := true }
def CursorEncodesUptoSaid : Prop := cursorEncodesUptoRow.holds Tryd.pinned (OpenSpec.upto cursorEncodesSpec)

/-- 'strandlinelaw20.CursorDecodes', WHERE WHAT IT READS IS OF BULK AT MOST 1048576: true; the input reads as it did. -/
def cursorDecodesUptoRow : OpenClaim := { program := "ytfhgjangeicbjaadoor", sum := "69ae0176c606045a06c88f0ca747d68c1aa8af28b1a1e65f948cc6ce912c26ed", func := "strandline/strandlinelaw20.CursorDecodes", spec := "cursorDecodes", inPlace := ["internal/abi.NoEscape"], named := ["strandline/frame.steps"], apart := false, laid := [("strandline/frame.steps", laid_strandline_frame_steps)], narrowed := true }
def CursorDecodesUptoSaid : Prop := cursorDecodesUptoRow.holds Tryd.pinned (OpenSpec.upto cursorDecodesSpec)

/-- 'strandlinelaw20.CursorChanged', WHERE WHAT IT READS IS OF BULK AT MOST 1048576: true; the input reads as it did. -/
def cursorChangedUptoRow : OpenClaim := { program := "ytfhgjangeicbjaadoor", sum := "69ae0176c606045a06c88f0ca747d68c1aa8af28b1a1e65f948cc6ce912c26ed", func := "strandline/strandlinelaw20.CursorChanged", spec := "cursorChanged", inPlace := ["internal/abi.NoEscape"], named := ["strandline/frame.steps"], apart := false, laid := [("strandline/frame.steps", laid_strandline_frame_steps)], narrowed := true }
def CursorChangedUptoSaid : Prop := cursorChangedUptoRow.holds Tryd.pinned (OpenSpec.upto cursorChangedSpec)

/-- 'strandlinelaw20.CursorApart', WHERE WHAT IT READS IS OF BULK AT MOST 1048576: true; the input reads as it did. -/
def cursorApartUptoRow : OpenClaim := { program := "ytfhgjangeicbjaadoor", sum := "69ae0176c606045a06c88f0ca747d68c1aa8af28b1a1e65f948cc6ce912c26ed", func := "strandline/strandlinelaw20.CursorApart", spec := "cursorApart", inPlace := ["internal/abi.NoEscape"], named := ["strandline/frame.steps"], apart := false, laid := [("strandline/frame.steps", laid_strandline_frame_steps)], narrowed := true }
def CursorApartUptoSaid : Prop := cursorApartUptoRow.holds Tryd.pinned (OpenSpec.upto cursorApartSpec)

/-- 'strandlinelaw20.CursorAll', WHERE WHAT IT READS IS OF BULK AT MOST 1048576: true; the input reads as it did. -/
def cursorAllUptoRow : OpenClaim := { program := "ytfhgjangeicbjaadoor", sum := "69ae0176c606045a06c88f0ca747d68c1aa8af28b1a1e65f948cc6ce912c26ed", func := "strandline/strandlinelaw20.CursorAll", spec := "cursorAll", inPlace := ["internal/abi.NoEscape"], named := ["strandline/frame.steps"], apart := false, laid := [("strandline/frame.steps", laid_strandline_frame_steps)], narrowed := true }
def CursorAllUptoSaid : Prop := cursorAllUptoRow.holds Tryd.pinned (OpenSpec.upto cursorAllSpec)

end Rows
end Go.Proofs.YtfhgjangeicbjaaDoor
