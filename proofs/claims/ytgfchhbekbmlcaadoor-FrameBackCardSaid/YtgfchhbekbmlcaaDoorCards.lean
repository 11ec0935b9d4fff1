/-
  DERIVED. GIVEN WITH THE SEED: THE CARDS: each row of YtgfchhbekbmlcaaDoorRows.lean that lists a variable, with what it lists TIED to the program's text (the seventh form; the later family's looks); each row that meets fmt, with fmt's text TOLD by the authors' own Lean function (tested against real Go, not proved from fmt's source: count such statements apart). THE CARD IS WHAT COUNTS. Prove the row's statement (the work); the ties are given (YtgfchhbekbmlcaaDoorTie.lean); close each card by the builder's one call (the guide's Derived/Test/ToyasCard.lean, 'card_holds'). Laid BY PROGRAM, IN A SANDBOX (cutbox-door.mjs). By AI agents, Wed Nov 11 2026. No macro, syntax, notation, axiom, sorry.
-/
import Derived.Test.YtgfchhbekbmlcaaDoorRows
import GoSem.ClaimSeven
namespace Go.Proofs.YtgfchhbekbmlcaaDoor
namespace Rows

/-- THE TIED CARD OF 'strandlinelaw08.FrameSums'. -/
def frameSumsCard : Claim7 := { stood := { row := frameSumsRow, standIns := [], harness := (true, "7acb409ec2eff902976cb9fbbd6e62e113062c05e519ea23c03274a5926e8b7e"), looks := false }, kinds := [], alts := [], laidByText := true, laidKinds := [.data], laidTests := true, laidLooks := .later }
def FrameSumsCardSaid : Prop := Claim7.holds Tryd.pinned (.plain (OpenSpec.ofChange frameSumsSpec)) frameSumsCard

/-- THE TIED CARD OF 'strandlinelaw08.FrameApart'. -/
def frameApartCard : Claim7 := { stood := { row := frameApartRow, standIns := [], harness := (true, "7acb409ec2eff902976cb9fbbd6e62e113062c05e519ea23c03274a5926e8b7e"), looks := false }, kinds := [], alts := [], laidByText := true, laidKinds := [.data], laidTests := true, laidLooks := .later }
def FrameApartCardSaid : Prop := Claim7.holds Tryd.pinned (.plain (OpenSpec.ofChange frameApartSpec)) frameApartCard

/-- THE TIED CARD OF 'strandlinelaw08.FrameScans'. -/
def frameScansCard : Claim7 := { stood := { row := frameScansRow, standIns := [], harness := (true, "7acb409ec2eff902976cb9fbbd6e62e113062c05e519ea23c03274a5926e8b7e"), looks := false }, kinds := [], alts := [], laidByText := true, laidKinds := [.data], laidTests := true, laidLooks := .later }
def FrameScansCardSaid : Prop := Claim7.holds Tryd.pinned (.plain (OpenSpec.ofChange frameScansSpec)) frameScansCard

/-- THE TIED CARD OF 'strandlinelaw08.FrameBack'. -/
def frameBackCard : Claim7 := { stood := { row := frameBackRow, standIns := [], harness := (true, "7acb409ec2eff902976cb9fbbd6e62e113062c05e519ea23c03274a5926e8b7e"), looks := false }, kinds := [], alts := [], laidByText := true, laidKinds := [.data], laidTests := true, laidLooks := .later }
def FrameBackCardSaid : Prop := Claim7.holds Tryd.pinned (.plain (OpenSpec.ofChange frameBackSpec)) frameBackCard

/-- THE TIED CARD OF 'strandlinelaw08.FrameChanged'. -/
def frameChangedCard : Claim7 := { stood := { row := frameChangedRow, standIns := [], harness := (true, "7acb409ec2eff902976cb9fbbd6e62e113062c05e519ea23c03274a5926e8b7e"), looks := false }, kinds := [], alts := [], laidByText := true, laidKinds := [.data], laidTests := true, laidLooks := .later }
def FrameChangedCardSaid : Prop := Claim7.holds Tryd.pinned (.plain (OpenSpec.ofChange frameChangedSpec)) frameChangedCard

/-- THE TIED CARD OF 'strandlinelaw08.FrameJoined'. -/
def frameJoinedCard : Claim7 := { stood := { row := frameJoinedRow, standIns := [], harness := (true, "7acb409ec2eff902976cb9fbbd6e62e113062c05e519ea23c03274a5926e8b7e"), looks := false }, kinds := [], alts := [], laidByText := true, laidKinds := [.data], laidTests := true, laidLooks := .later }
def FrameJoinedCardSaid : Prop := Claim7.holds Tryd.pinned (.plain (OpenSpec.ofChange frameJoinedSpec)) frameJoinedCard

/-- THE SECOND FORM's CARD OF 'strandlinelaw08.FrameSums'. -/
def frameSumsUptoCard : Claim7 := { stood := { row := frameSumsUptoRow, standIns := [], harness := (true, "7acb409ec2eff902976cb9fbbd6e62e113062c05e519ea23c03274a5926e8b7e"), looks := false }, kinds := [], alts := [], laidByText := true, laidKinds := [.data], laidTests := true, laidLooks := .later }
def FrameSumsUptoCardSaid : Prop := Claim7.holds Tryd.pinned (.plain (OpenSpec.upto frameSumsSpec)) frameSumsUptoCard

/-- THE SECOND FORM's CARD OF 'strandlinelaw08.FrameApart'. -/
def frameApartUptoCard : Claim7 := { stood := { row := frameApartUptoRow, standIns := [], harness := (true, "7acb409ec2eff902976cb9fbbd6e62e113062c05e519ea23c03274a5926e8b7e"), looks := false }, kinds := [], alts := [], laidByText := true, laidKinds := [.data], laidTests := true, laidLooks := .later }
def FrameApartUptoCardSaid : Prop := Claim7.holds Tryd.pinned (.plain (OpenSpec.upto frameApartSpec)) frameApartUptoCard

/-- THE SECOND FORM's CARD OF 'strandlinelaw08.FrameScans'. -/
def frameScansUptoCard : Claim7 := { stood := { row := frameScansUptoRow, standIns := [], harness := (true, "7acb409ec2eff902976cb9fbbd6e62e113062c05e519ea23c03274a5926e8b7e"), looks := false }, kinds := [], alts := [], laidByText := true, laidKinds := [.data], laidTests := true, laidLooks := .later }
def FrameScansUptoCardSaid : Prop := Claim7.holds Tryd.pinned (.plain (OpenSpec.upto frameScansSpec)) frameScansUptoCard

/-- THE SECOND FORM's CARD OF 'strandlinelaw08.FrameBack'. -/
def frameBackUptoCard : Claim7 := { stood := { row := frameBackUptoRow, standIns := [], harness := (true, "7acb409ec2eff902976cb9fbbd6e62e113062c05e519ea23c03274a5926e8b7e"), looks := false }, kinds := [], alts := [], laidByText := true, laidKinds := [.data], laidTests := true, laidLooks := .later }
def FrameBackUptoCardSaid : Prop := Claim7.holds Tryd.pinned (.plain (OpenSpec.upto frameBackSpec)) frameBackUptoCard

/-- THE SECOND FORM's CARD OF 'strandlinelaw08.FrameChanged'. -/
def frameChangedUptoCard : Claim7 := { stood := { row := frameChangedUptoRow, standIns := [], harness := (true, "7acb409ec2eff902976cb9fbbd6e62e113062c05e519ea23c03274a5926e8b7e"), looks := false }, kinds := [], alts := [], laidByText := true, laidKinds := [.data], laidTests := true, laidLooks := .later }
def FrameChangedUptoCardSaid : Prop := Claim7.holds Tryd.pinned (.plain (OpenSpec.upto frameChangedSpec)) frameChangedUptoCard

/-- THE SECOND FORM's CARD OF 'strandlinelaw08.FrameJoined'. -/
def frameJoinedUptoCard : Claim7 := { stood := { row := frameJoinedUptoRow, standIns := [], harness := (true, "7acb409ec2eff902976cb9fbbd6e62e113062c05e519ea23c03274a5926e8b7e"), looks := false }, kinds := [], alts := [], laidByText := true, laidKinds := [.data], laidTests := true, laidLooks := .later }
def FrameJoinedUptoCardSaid : Prop := Claim7.holds Tryd.pinned (.plain (OpenSpec.upto frameJoinedSpec)) frameJoinedUptoCard
end Rows
end Go.Proofs.YtgfchhbekbmlcaaDoor
