/-
  DERIVED. GIVEN WITH THE SEED: THE CARDS: each row of YtibmlemoghcbkaaGreatDoorRows.lean that lists a variable, with what it lists TIED to the program's text (the seventh form; the later family's looks); each row that meets fmt, with fmt's text TOLD by the authors' own Lean function (tested against real Go, not proved from fmt's source: count such statements apart). THE CARD IS WHAT COUNTS. Prove the row's statement (the work); the ties are given (YtibmlemoghcbkaaGreatDoorTie.lean); close each card by the builder's one call (the guide's Derived/Test/ToyasCard.lean, 'card_holds'). Laid BY PROGRAM, IN A SANDBOX (cutbox-door.mjs). By AI agents, Wed Nov 11 2026. No macro, syntax, notation, axiom, sorry.
-/
import Derived.Test.YtibmlemoghcbkaaGreatDoorRows
import GoSem.ClaimSeven
namespace Go.Proofs.YtibmlemoghcbkaaGreatDoor
namespace Rows

/-- THE TIED CARD OF 'strandlinetop.TopSums'. -/
def topSumsCard : Claim7 := { stood := { row := topSumsRow, standIns := [], harness := (true, "0044ed57303ffa54bc5d0a172f191232c54a7b19ce87e681cf0c5c52d493c49c"), looks := true }, kinds := [], alts := [], laidByText := true, laidKinds := [.data, .data, .data, .data, .sentinel, .sentinel], laidTests := true, laidLooks := .later }
def TopSumsCardSaid : Prop := Claim7.holds Tryz.pinned (.plain (OpenSpec.ofChange topSumsSpec)) topSumsCard

/-- THE TIED CARD OF 'strandlinetop.TopCrash'. -/
def topCrashCard : Claim7 := { stood := { row := topCrashRow, standIns := [], harness := (true, "0044ed57303ffa54bc5d0a172f191232c54a7b19ce87e681cf0c5c52d493c49c"), looks := true }, kinds := [], alts := [], laidByText := true, laidKinds := [.data, .data, .data, .data, .sentinel, .sentinel], laidTests := true, laidLooks := .later }
def TopCrashCardSaid : Prop := Claim7.holds Tryz.pinned (.plain (OpenSpec.ofChange topCrashSpec)) topCrashCard

/-- THE SECOND FORM's CARD OF 'strandlinetop.TopSums'. -/
def topSumsUptoCard : Claim7 := { stood := { row := topSumsUptoRow, standIns := [], harness := (true, "0044ed57303ffa54bc5d0a172f191232c54a7b19ce87e681cf0c5c52d493c49c"), looks := true }, kinds := [], alts := [], laidByText := true, laidKinds := [.data, .data, .data, .data, .sentinel, .sentinel], laidTests := true, laidLooks := .later }
def TopSumsUptoCardSaid : Prop := Claim7.holds Tryz.pinned (.plain (OpenSpec.upto topSumsSpec)) topSumsUptoCard

/-- THE SECOND FORM's CARD OF 'strandlinetop.TopCrash'. -/
def topCrashUptoCard : Claim7 := { stood := { row := topCrashUptoRow, standIns := [], harness := (true, "0044ed57303ffa54bc5d0a172f191232c54a7b19ce87e681cf0c5c52d493c49c"), looks := true }, kinds := [], alts := [], laidByText := true, laidKinds := [.data, .data, .data, .data, .sentinel, .sentinel], laidTests := true, laidLooks := .later }
def TopCrashUptoCardSaid : Prop := Claim7.holds Tryz.pinned (.plain (OpenSpec.upto topCrashSpec)) topCrashUptoCard
end Rows
end Go.Proofs.YtibmlemoghcbkaaGreatDoor
