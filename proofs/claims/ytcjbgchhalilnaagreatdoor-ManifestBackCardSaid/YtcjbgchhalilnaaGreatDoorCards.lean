/-
  DERIVED. GIVEN WITH THE SEED: THE CARDS: each row of YtcjbgchhalilnaaGreatDoorRows.lean that lists a variable, with what it lists TIED to the program's text (the seventh form; the later family's looks); each row that meets fmt, with fmt's text TOLD by the authors' own Lean function (tested against real Go, not proved from fmt's source: count such statements apart). THE CARD IS WHAT COUNTS. Prove the row's statement (the work); the ties are given (YtcjbgchhalilnaaGreatDoorTie.lean); close each card by the builder's one call (the guide's Derived/Test/ToyasCard.lean, 'card_holds'). Laid BY PROGRAM, IN A SANDBOX (cutbox-door.mjs). By AI agents, Wed Nov 11 2026. No macro, syntax, notation, axiom, sorry.
-/
import Derived.Test.YtcjbgchhalilnaaGreatDoorRows
import GoSem.ClaimSeven
namespace Go.Proofs.YtcjbgchhalilnaaGreatDoor
namespace Rows

/-- THE TIED CARD OF 'eskerlaw18.ManifestNames'. -/
def manifestNamesCard : Claim7 := { stood := { row := manifestNamesRow, standIns := [], harness := (true, "5872b9b037112e062bad1ea80c782cd5b4d846b0f512c363506aebbe93ff98b4"), looks := true }, kinds := [], alts := [], laidByText := true, laidKinds := [.data, .data, .data, .sentinel, .sentinel, .data], laidTests := true, laidLooks := .later }
def ManifestNamesCardSaid : Prop := Claim7.holds Tryz.pinned (.plain (OpenSpec.ofChange manifestNamesSpec)) manifestNamesCard

/-- THE TIED CARD OF 'eskerlaw18.ManifestBack'. -/
def manifestBackCard : Claim7 := { stood := { row := manifestBackRow, standIns := [], harness := (true, "5872b9b037112e062bad1ea80c782cd5b4d846b0f512c363506aebbe93ff98b4"), looks := true }, kinds := [], alts := [], laidByText := true, laidKinds := [.data, .data, .data, .sentinel, .sentinel, .data], laidTests := true, laidLooks := .later }
def ManifestBackCardSaid : Prop := Claim7.holds Tryz.pinned (.plain (OpenSpec.ofChange manifestBackSpec)) manifestBackCard

/-- THE TIED CARD OF 'eskerlaw18.ManifestAll'. -/
def manifestAllCard : Claim7 := { stood := { row := manifestAllRow, standIns := [], harness := (true, "5872b9b037112e062bad1ea80c782cd5b4d846b0f512c363506aebbe93ff98b4"), looks := true }, kinds := [], alts := [], laidByText := true, laidKinds := [.data, .data, .data, .sentinel, .sentinel, .data], laidTests := true, laidLooks := .later }
def ManifestAllCardSaid : Prop := Claim7.holds Tryz.pinned (.plain (OpenSpec.ofChange manifestAllSpec)) manifestAllCard

/-- THE TIED CARD OF 'eskerlaw18.ManifestRow'. -/
def manifestRowCard : Claim7 := { stood := { row := manifestRowRow, standIns := [], harness := (true, "5872b9b037112e062bad1ea80c782cd5b4d846b0f512c363506aebbe93ff98b4"), looks := true }, kinds := [], alts := [], laidByText := true, laidKinds := [.data, .data, .data, .sentinel, .sentinel, .data], laidTests := true, laidLooks := .later }
def ManifestRowCardSaid : Prop := Claim7.holds Tryz.pinned (.plain (OpenSpec.ofChange manifestRowSpec)) manifestRowCard

/-- THE TIED CARD OF 'eskerlaw18.ManifestGrows'. -/
def manifestGrowsCard : Claim7 := { stood := { row := manifestGrowsRow, standIns := [], harness := (true, "5872b9b037112e062bad1ea80c782cd5b4d846b0f512c363506aebbe93ff98b4"), looks := true }, kinds := [], alts := [], laidByText := true, laidKinds := [.data, .data, .data, .sentinel, .sentinel, .data], laidTests := true, laidLooks := .later }
def ManifestGrowsCardSaid : Prop := Claim7.holds Tryz.pinned (.plain (OpenSpec.ofChange manifestGrowsSpec)) manifestGrowsCard

/-- THE SECOND FORM's CARD OF 'eskerlaw18.ManifestNames'. -/
def manifestNamesUptoCard : Claim7 := { stood := { row := manifestNamesUptoRow, standIns := [], harness := (true, "5872b9b037112e062bad1ea80c782cd5b4d846b0f512c363506aebbe93ff98b4"), looks := true }, kinds := [], alts := [], laidByText := true, laidKinds := [.data, .data, .data, .sentinel, .sentinel, .data], laidTests := true, laidLooks := .later }
def ManifestNamesUptoCardSaid : Prop := Claim7.holds Tryz.pinned (.plain (OpenSpec.upto manifestNamesSpec)) manifestNamesUptoCard

/-- THE SECOND FORM's CARD OF 'eskerlaw18.ManifestBack'. -/
def manifestBackUptoCard : Claim7 := { stood := { row := manifestBackUptoRow, standIns := [], harness := (true, "5872b9b037112e062bad1ea80c782cd5b4d846b0f512c363506aebbe93ff98b4"), looks := true }, kinds := [], alts := [], laidByText := true, laidKinds := [.data, .data, .data, .sentinel, .sentinel, .data], laidTests := true, laidLooks := .later }
def ManifestBackUptoCardSaid : Prop := Claim7.holds Tryz.pinned (.plain (OpenSpec.upto manifestBackSpec)) manifestBackUptoCard

/-- THE SECOND FORM's CARD OF 'eskerlaw18.ManifestAll'. -/
def manifestAllUptoCard : Claim7 := { stood := { row := manifestAllUptoRow, standIns := [], harness := (true, "5872b9b037112e062bad1ea80c782cd5b4d846b0f512c363506aebbe93ff98b4"), looks := true }, kinds := [], alts := [], laidByText := true, laidKinds := [.data, .data, .data, .sentinel, .sentinel, .data], laidTests := true, laidLooks := .later }
def ManifestAllUptoCardSaid : Prop := Claim7.holds Tryz.pinned (.plain (OpenSpec.upto manifestAllSpec)) manifestAllUptoCard

/-- THE SECOND FORM's CARD OF 'eskerlaw18.ManifestRow'. -/
def manifestRowUptoCard : Claim7 := { stood := { row := manifestRowUptoRow, standIns := [], harness := (true, "5872b9b037112e062bad1ea80c782cd5b4d846b0f512c363506aebbe93ff98b4"), looks := true }, kinds := [], alts := [], laidByText := true, laidKinds := [.data, .data, .data, .sentinel, .sentinel, .data], laidTests := true, laidLooks := .later }
def ManifestRowUptoCardSaid : Prop := Claim7.holds Tryz.pinned (.plain (OpenSpec.upto manifestRowSpec)) manifestRowUptoCard

/-- THE SECOND FORM's CARD OF 'eskerlaw18.ManifestGrows'. -/
def manifestGrowsUptoCard : Claim7 := { stood := { row := manifestGrowsUptoRow, standIns := [], harness := (true, "5872b9b037112e062bad1ea80c782cd5b4d846b0f512c363506aebbe93ff98b4"), looks := true }, kinds := [], alts := [], laidByText := true, laidKinds := [.data, .data, .data, .sentinel, .sentinel, .data], laidTests := true, laidLooks := .later }
def ManifestGrowsUptoCardSaid : Prop := Claim7.holds Tryz.pinned (.plain (OpenSpec.upto manifestGrowsSpec)) manifestGrowsUptoCard
end Rows
end Go.Proofs.YtcjbgchhalilnaaGreatDoor
