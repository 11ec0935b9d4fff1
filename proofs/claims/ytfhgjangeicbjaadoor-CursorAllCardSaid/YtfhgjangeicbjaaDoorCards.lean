/-
  DERIVED. GIVEN WITH THE SEED: THE CARDS: each row of YtfhgjangeicbjaaDoorRows.lean that lists a variable, with what it lists TIED to the program's text (the seventh form; the later family's looks); each row that meets fmt, with fmt's text TOLD by the authors' own Lean function (tested against real Go, not proved from fmt's source: count such statements apart). THE CARD IS WHAT COUNTS. Prove the row's statement (the work); the ties are given (YtfhgjangeicbjaaDoorTie.lean); close each card by the builder's one call (the guide's Derived/Test/ToyasCard.lean, 'card_holds'). Laid BY PROGRAM, IN A SANDBOX (cutbox-door.mjs). By AI agents, Wed Nov 11 2026. No macro, syntax, notation, axiom, sorry.
-/
import Derived.Test.YtfhgjangeicbjaaDoorRows
import GoSem.ClaimSeven
namespace Go.Proofs.YtfhgjangeicbjaaDoor
namespace Rows

/-- THE TIED CARD OF 'strandlinelaw20.CursorEncodes'. -/
def cursorEncodesCard : Claim7 := { stood := { row := cursorEncodesRow, standIns := [], harness := (true, "476611c3c97d9d27859adff2dd67368047ebf57faa3f87a453a466889103edaa"), looks := false }, kinds := [], alts := [], laidByText := true, laidKinds := [.data], laidTests := true, laidLooks := .later }
def CursorEncodesCardSaid : Prop := Claim7.holds Tryd.pinned (.plain (OpenSpec.ofChange cursorEncodesSpec)) cursorEncodesCard

/-- THE TIED CARD OF 'strandlinelaw20.CursorDecodes'. -/
def cursorDecodesCard : Claim7 := { stood := { row := cursorDecodesRow, standIns := [], harness := (true, "476611c3c97d9d27859adff2dd67368047ebf57faa3f87a453a466889103edaa"), looks := false }, kinds := [], alts := [], laidByText := true, laidKinds := [.data], laidTests := true, laidLooks := .later }
def CursorDecodesCardSaid : Prop := Claim7.holds Tryd.pinned (.plain (OpenSpec.ofChange cursorDecodesSpec)) cursorDecodesCard

/-- THE TIED CARD OF 'strandlinelaw20.CursorChanged'. -/
def cursorChangedCard : Claim7 := { stood := { row := cursorChangedRow, standIns := [], harness := (true, "476611c3c97d9d27859adff2dd67368047ebf57faa3f87a453a466889103edaa"), looks := false }, kinds := [], alts := [], laidByText := true, laidKinds := [.data], laidTests := true, laidLooks := .later }
def CursorChangedCardSaid : Prop := Claim7.holds Tryd.pinned (.plain (OpenSpec.ofChange cursorChangedSpec)) cursorChangedCard

/-- THE TIED CARD OF 'strandlinelaw20.CursorApart'. -/
def cursorApartCard : Claim7 := { stood := { row := cursorApartRow, standIns := [], harness := (true, "476611c3c97d9d27859adff2dd67368047ebf57faa3f87a453a466889103edaa"), looks := false }, kinds := [], alts := [], laidByText := true, laidKinds := [.data], laidTests := true, laidLooks := .later }
def CursorApartCardSaid : Prop := Claim7.holds Tryd.pinned (.plain (OpenSpec.ofChange cursorApartSpec)) cursorApartCard

/-- THE TIED CARD OF 'strandlinelaw20.CursorAll'. -/
def cursorAllCard : Claim7 := { stood := { row := cursorAllRow, standIns := [], harness := (true, "476611c3c97d9d27859adff2dd67368047ebf57faa3f87a453a466889103edaa"), looks := false }, kinds := [], alts := [], laidByText := true, laidKinds := [.data], laidTests := true, laidLooks := .later }
def CursorAllCardSaid : Prop := Claim7.holds Tryd.pinned (.plain (OpenSpec.ofChange cursorAllSpec)) cursorAllCard

/-- THE SECOND FORM's CARD OF 'strandlinelaw20.CursorEncodes'. -/
def cursorEncodesUptoCard : Claim7 := { stood := { row := cursorEncodesUptoRow, standIns := [], harness := (true, "476611c3c97d9d27859adff2dd67368047ebf57faa3f87a453a466889103edaa"), looks := false }, kinds := [], alts := [], laidByText := true, laidKinds := [.data], laidTests := true, laidLooks := .later }
def CursorEncodesUptoCardSaid : Prop := Claim7.holds Tryd.pinned (.plain (OpenSpec.upto cursorEncodesSpec)) cursorEncodesUptoCard

/-- THE SECOND FORM's CARD OF 'strandlinelaw20.CursorDecodes'. -/
def cursorDecodesUptoCard : Claim7 := { stood := { row := cursorDecodesUptoRow, standIns := [], harness := (true, "476611c3c97d9d27859adff2dd67368047ebf57faa3f87a453a466889103edaa"), looks := false }, kinds := [], alts := [], laidByText := true, laidKinds := [.data], laidTests := true, laidLooks := .later }
def CursorDecodesUptoCardSaid : Prop := Claim7.holds Tryd.pinned (.plain (OpenSpec.upto cursorDecodesSpec)) cursorDecodesUptoCard

/-- THE SECOND FORM's CARD OF 'strandlinelaw20.CursorChanged'. -/
def cursorChangedUptoCard : Claim7 := { stood := { row := cursorChangedUptoRow, standIns := [], harness := (true, "476611c3c97d9d27859adff2dd67368047ebf57faa3f87a453a466889103edaa"), looks := false }, kinds := [], alts := [], laidByText := true, laidKinds := [.data], laidTests := true, laidLooks := .later }
def CursorChangedUptoCardSaid : Prop := Claim7.holds Tryd.pinned (.plain (OpenSpec.upto cursorChangedSpec)) cursorChangedUptoCard

/-- THE SECOND FORM's CARD OF 'strandlinelaw20.CursorApart'. -/
def cursorApartUptoCard : Claim7 := { stood := { row := cursorApartUptoRow, standIns := [], harness := (true, "476611c3c97d9d27859adff2dd67368047ebf57faa3f87a453a466889103edaa"), looks := false }, kinds := [], alts := [], laidByText := true, laidKinds := [.data], laidTests := true, laidLooks := .later }
def CursorApartUptoCardSaid : Prop := Claim7.holds Tryd.pinned (.plain (OpenSpec.upto cursorApartSpec)) cursorApartUptoCard

/-- THE SECOND FORM's CARD OF 'strandlinelaw20.CursorAll'. -/
def cursorAllUptoCard : Claim7 := { stood := { row := cursorAllUptoRow, standIns := [], harness := (true, "476611c3c97d9d27859adff2dd67368047ebf57faa3f87a453a466889103edaa"), looks := false }, kinds := [], alts := [], laidByText := true, laidKinds := [.data], laidTests := true, laidLooks := .later }
def CursorAllUptoCardSaid : Prop := Claim7.holds Tryd.pinned (.plain (OpenSpec.upto cursorAllSpec)) cursorAllUptoCard
end Rows
end Go.Proofs.YtfhgjangeicbjaaDoor
