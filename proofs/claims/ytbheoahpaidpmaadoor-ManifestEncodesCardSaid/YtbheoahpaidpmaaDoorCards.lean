/-
  DERIVED. GIVEN WITH THE SEED: THE CARDS: each row of YtbheoahpaidpmaaDoorRows.lean that lists a variable, with what it lists TIED to the program's text (the seventh form; the later family's looks); each row that meets fmt, with fmt's text TOLD by the authors' own Lean function (tested against real Go, not proved from fmt's source: count such statements apart). THE CARD IS WHAT COUNTS. Prove the row's statement (the work); the ties are given (YtbheoahpaidpmaaDoorTie.lean); close each card by the builder's one call (the guide's Derived/Test/ToyasCard.lean, 'card_holds'). Laid BY PROGRAM, IN A SANDBOX (cutbox-door.mjs). By AI agents, Wed Nov 11 2026. No macro, syntax, notation, axiom, sorry.
-/
import Derived.Test.YtbheoahpaidpmaaDoorRows
import GoSem.ClaimSeven
namespace Go.Proofs.YtbheoahpaidpmaaDoor
namespace Rows

/-- THE TIED CARD OF 'strandlinelaw17.ManifestFolds'. -/
def manifestFoldsCard : Claim7 := { stood := { row := manifestFoldsRow, standIns := [], harness := (true, "21ccd4a3721976ae92b91c0666b8de2b584dc5ae0ec38d714f8c6a41da2634d6"), looks := true }, kinds := [], alts := [], laidByText := true, laidKinds := [.data, .data, .data], laidTests := true, laidLooks := .later }
def ManifestFoldsCardSaid : Prop := Claim7.holds Tryd.pinned (.plain (OpenSpec.ofChange manifestFoldsSpec)) manifestFoldsCard

/-- THE TIED CARD OF 'strandlinelaw17.ManifestApplies'. -/
def manifestAppliesCard : Claim7 := { stood := { row := manifestAppliesRow, standIns := [], harness := (true, "21ccd4a3721976ae92b91c0666b8de2b584dc5ae0ec38d714f8c6a41da2634d6"), looks := true }, kinds := [], alts := [], laidByText := true, laidKinds := [.data, .data, .data], laidTests := true, laidLooks := .later }
def ManifestAppliesCardSaid : Prop := Claim7.holds Tryd.pinned (.plain (OpenSpec.ofChange manifestAppliesSpec)) manifestAppliesCard

/-- THE TIED CARD OF 'strandlinelaw17.ManifestTurns'. -/
def manifestTurnsCard : Claim7 := { stood := { row := manifestTurnsRow, standIns := [], harness := (true, "21ccd4a3721976ae92b91c0666b8de2b584dc5ae0ec38d714f8c6a41da2634d6"), looks := true }, kinds := [], alts := [], laidByText := true, laidKinds := [.data, .data, .data], laidTests := true, laidLooks := .later }
def ManifestTurnsCardSaid : Prop := Claim7.holds Tryd.pinned (.plain (OpenSpec.ofChange manifestTurnsSpec)) manifestTurnsCard

/-- THE TIED CARD OF 'strandlinelaw17.ManifestPast'. -/
def manifestPastCard : Claim7 := { stood := { row := manifestPastRow, standIns := [], harness := (true, "21ccd4a3721976ae92b91c0666b8de2b584dc5ae0ec38d714f8c6a41da2634d6"), looks := true }, kinds := [], alts := [], laidByText := true, laidKinds := [.data, .data, .data], laidTests := true, laidLooks := .later }
def ManifestPastCardSaid : Prop := Claim7.holds Tryd.pinned (.plain (OpenSpec.ofChange manifestPastSpec)) manifestPastCard

/-- THE TIED CARD OF 'strandlinelaw17.ManifestEncodes'. -/
def manifestEncodesCard : Claim7 := { stood := { row := manifestEncodesRow, standIns := [], harness := (true, "21ccd4a3721976ae92b91c0666b8de2b584dc5ae0ec38d714f8c6a41da2634d6"), looks := true }, kinds := [], alts := [], laidByText := true, laidKinds := [.data, .data, .data, .sentinel, .sentinel], laidTests := true, laidLooks := .later }
def ManifestEncodesCardSaid : Prop := Claim7.holds Tryd.pinned (.plain (OpenSpec.ofChange manifestEncodesSpec)) manifestEncodesCard

/-- THE TIED CARD OF 'strandlinelaw17.ManifestBack'. -/
def manifestBackCard : Claim7 := { stood := { row := manifestBackRow, standIns := [], harness := (true, "21ccd4a3721976ae92b91c0666b8de2b584dc5ae0ec38d714f8c6a41da2634d6"), looks := true }, kinds := [], alts := [], laidByText := true, laidKinds := [.data, .data, .data, .sentinel, .sentinel], laidTests := true, laidLooks := .later }
def ManifestBackCardSaid : Prop := Claim7.holds Tryd.pinned (.plain (OpenSpec.ofChange manifestBackSpec)) manifestBackCard

/-- THE SECOND FORM's CARD OF 'strandlinelaw17.ManifestFolds'. -/
def manifestFoldsUptoCard : Claim7 := { stood := { row := manifestFoldsUptoRow, standIns := [], harness := (true, "21ccd4a3721976ae92b91c0666b8de2b584dc5ae0ec38d714f8c6a41da2634d6"), looks := true }, kinds := [], alts := [], laidByText := true, laidKinds := [.data, .data, .data], laidTests := true, laidLooks := .later }
def ManifestFoldsUptoCardSaid : Prop := Claim7.holds Tryd.pinned (.plain (OpenSpec.upto manifestFoldsSpec)) manifestFoldsUptoCard

/-- THE SECOND FORM's CARD OF 'strandlinelaw17.ManifestApplies'. -/
def manifestAppliesUptoCard : Claim7 := { stood := { row := manifestAppliesUptoRow, standIns := [], harness := (true, "21ccd4a3721976ae92b91c0666b8de2b584dc5ae0ec38d714f8c6a41da2634d6"), looks := true }, kinds := [], alts := [], laidByText := true, laidKinds := [.data, .data, .data], laidTests := true, laidLooks := .later }
def ManifestAppliesUptoCardSaid : Prop := Claim7.holds Tryd.pinned (.plain (OpenSpec.upto manifestAppliesSpec)) manifestAppliesUptoCard

/-- THE SECOND FORM's CARD OF 'strandlinelaw17.ManifestTurns'. -/
def manifestTurnsUptoCard : Claim7 := { stood := { row := manifestTurnsUptoRow, standIns := [], harness := (true, "21ccd4a3721976ae92b91c0666b8de2b584dc5ae0ec38d714f8c6a41da2634d6"), looks := true }, kinds := [], alts := [], laidByText := true, laidKinds := [.data, .data, .data], laidTests := true, laidLooks := .later }
def ManifestTurnsUptoCardSaid : Prop := Claim7.holds Tryd.pinned (.plain (OpenSpec.upto manifestTurnsSpec)) manifestTurnsUptoCard

/-- THE SECOND FORM's CARD OF 'strandlinelaw17.ManifestPast'. -/
def manifestPastUptoCard : Claim7 := { stood := { row := manifestPastUptoRow, standIns := [], harness := (true, "21ccd4a3721976ae92b91c0666b8de2b584dc5ae0ec38d714f8c6a41da2634d6"), looks := true }, kinds := [], alts := [], laidByText := true, laidKinds := [.data, .data, .data], laidTests := true, laidLooks := .later }
def ManifestPastUptoCardSaid : Prop := Claim7.holds Tryd.pinned (.plain (OpenSpec.upto manifestPastSpec)) manifestPastUptoCard

/-- THE SECOND FORM's CARD OF 'strandlinelaw17.ManifestEncodes'. -/
def manifestEncodesUptoCard : Claim7 := { stood := { row := manifestEncodesUptoRow, standIns := [], harness := (true, "21ccd4a3721976ae92b91c0666b8de2b584dc5ae0ec38d714f8c6a41da2634d6"), looks := true }, kinds := [], alts := [], laidByText := true, laidKinds := [.data, .data, .data, .sentinel, .sentinel], laidTests := true, laidLooks := .later }
def ManifestEncodesUptoCardSaid : Prop := Claim7.holds Tryd.pinned (.plain (OpenSpec.upto manifestEncodesSpec)) manifestEncodesUptoCard

/-- THE SECOND FORM's CARD OF 'strandlinelaw17.ManifestBack'. -/
def manifestBackUptoCard : Claim7 := { stood := { row := manifestBackUptoRow, standIns := [], harness := (true, "21ccd4a3721976ae92b91c0666b8de2b584dc5ae0ec38d714f8c6a41da2634d6"), looks := true }, kinds := [], alts := [], laidByText := true, laidKinds := [.data, .data, .data, .sentinel, .sentinel], laidTests := true, laidLooks := .later }
def ManifestBackUptoCardSaid : Prop := Claim7.holds Tryd.pinned (.plain (OpenSpec.upto manifestBackSpec)) manifestBackUptoCard
end Rows
end Go.Proofs.YtbheoahpaidpmaaDoor
