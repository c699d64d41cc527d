/-
  DERIVED. GIVEN WITH THE SEED: THE CARDS: each row of YtbpillbhkkjlbaaDoorRows.lean that lists a variable, with what it lists TIED to the program's text (the seventh form; the later family's looks); each row that meets fmt, with fmt's text TOLD by the authors' own Lean function (tested against real Go, not proved from fmt's source: count such statements apart). THE CARD IS WHAT COUNTS. Prove the row's statement (the work); the ties are given (YtbpillbhkkjlbaaDoorTie.lean); close each card by the builder's one call (the guide's Derived/Test/ToyasCard.lean, 'card_holds'). Laid BY PROGRAM, IN A SANDBOX (cutbox-door.mjs). By AI agents, Wed Nov 11 2026. No macro, syntax, notation, axiom, sorry.
-/
import Derived.Test.YtbpillbhkkjlbaaDoorRows
import GoSem.ClaimSeven
namespace Go.Proofs.YtbpillbhkkjlbaaDoor
namespace Rows

/-- THE TIED CARD OF 'eskerlaw03.DecimalPacks'. -/
def decimalPacksCard : Claim7 := { stood := { row := decimalPacksRow, standIns := [], harness := (true, "fb586888b63048c59fe16ba3a6b41687cfa8807de2ef88983382edfacc4fb51c"), looks := false }, kinds := [], alts := [], laidByText := true, laidKinds := [.data], laidTests := true, laidLooks := .later }
def DecimalPacksCardSaid : Prop := Claim7.holds Tryd.pinned (.plain (OpenSpec.ofChange decimalPacksSpec)) decimalPacksCard

/-- THE TIED CARD OF 'eskerlaw03.DecimalUnpacks'. -/
def decimalUnpacksCard : Claim7 := { stood := { row := decimalUnpacksRow, standIns := [], harness := (true, "fb586888b63048c59fe16ba3a6b41687cfa8807de2ef88983382edfacc4fb51c"), looks := false }, kinds := [], alts := [], laidByText := true, laidKinds := [.data], laidTests := true, laidLooks := .later }
def DecimalUnpacksCardSaid : Prop := Claim7.holds Tryd.pinned (.plain (OpenSpec.ofChange decimalUnpacksSpec)) decimalUnpacksCard

/-- THE TIED CARD OF 'eskerlaw03.DecimalBack'. -/
def decimalBackCard : Claim7 := { stood := { row := decimalBackRow, standIns := [], harness := (true, "fb586888b63048c59fe16ba3a6b41687cfa8807de2ef88983382edfacc4fb51c"), looks := false }, kinds := [], alts := [], laidByText := true, laidKinds := [.data], laidTests := true, laidLooks := .later }
def DecimalBackCardSaid : Prop := Claim7.holds Tryd.pinned (.plain (OpenSpec.ofChange decimalBackSpec)) decimalBackCard

/-- THE TIED CARD OF 'eskerlaw03.DecimalAll'. -/
def decimalAllCard : Claim7 := { stood := { row := decimalAllRow, standIns := [], harness := (true, "fb586888b63048c59fe16ba3a6b41687cfa8807de2ef88983382edfacc4fb51c"), looks := false }, kinds := [], alts := [], laidByText := true, laidKinds := [.data], laidTests := true, laidLooks := .later }
def DecimalAllCardSaid : Prop := Claim7.holds Tryd.pinned (.plain (OpenSpec.ofChange decimalAllSpec)) decimalAllCard

/-- THE TIED CARD OF 'eskerlaw03.DecimalPart'. -/
def decimalPartCard : Claim7 := { stood := { row := decimalPartRow, standIns := [], harness := (true, "fb586888b63048c59fe16ba3a6b41687cfa8807de2ef88983382edfacc4fb51c"), looks := false }, kinds := [], alts := [], laidByText := true, laidKinds := [.data], laidTests := true, laidLooks := .later }
def DecimalPartCardSaid : Prop := Claim7.holds Tryd.pinned (.plain (OpenSpec.ofChange decimalPartSpec)) decimalPartCard

/-- THE TIED CARD OF 'eskerlaw03.DecimalOrders'. -/
def decimalOrdersCard : Claim7 := { stood := { row := decimalOrdersRow, standIns := [], harness := (true, "fb586888b63048c59fe16ba3a6b41687cfa8807de2ef88983382edfacc4fb51c"), looks := false }, kinds := [], alts := [], laidByText := true, laidKinds := [.data], laidTests := true, laidLooks := .later }
def DecimalOrdersCardSaid : Prop := Claim7.holds Tryd.pinned (.plain (OpenSpec.ofChange decimalOrdersSpec)) decimalOrdersCard

/-- THE SECOND FORM's CARD OF 'eskerlaw03.DecimalPacks'. -/
def decimalPacksUptoCard : Claim7 := { stood := { row := decimalPacksUptoRow, standIns := [], harness := (true, "fb586888b63048c59fe16ba3a6b41687cfa8807de2ef88983382edfacc4fb51c"), looks := false }, kinds := [], alts := [], laidByText := true, laidKinds := [.data], laidTests := true, laidLooks := .later }
def DecimalPacksUptoCardSaid : Prop := Claim7.holds Tryd.pinned (.plain (OpenSpec.upto decimalPacksSpec)) decimalPacksUptoCard

/-- THE SECOND FORM's CARD OF 'eskerlaw03.DecimalUnpacks'. -/
def decimalUnpacksUptoCard : Claim7 := { stood := { row := decimalUnpacksUptoRow, standIns := [], harness := (true, "fb586888b63048c59fe16ba3a6b41687cfa8807de2ef88983382edfacc4fb51c"), looks := false }, kinds := [], alts := [], laidByText := true, laidKinds := [.data], laidTests := true, laidLooks := .later }
def DecimalUnpacksUptoCardSaid : Prop := Claim7.holds Tryd.pinned (.plain (OpenSpec.upto decimalUnpacksSpec)) decimalUnpacksUptoCard

/-- THE SECOND FORM's CARD OF 'eskerlaw03.DecimalBack'. -/
def decimalBackUptoCard : Claim7 := { stood := { row := decimalBackUptoRow, standIns := [], harness := (true, "fb586888b63048c59fe16ba3a6b41687cfa8807de2ef88983382edfacc4fb51c"), looks := false }, kinds := [], alts := [], laidByText := true, laidKinds := [.data], laidTests := true, laidLooks := .later }
def DecimalBackUptoCardSaid : Prop := Claim7.holds Tryd.pinned (.plain (OpenSpec.upto decimalBackSpec)) decimalBackUptoCard

/-- THE SECOND FORM's CARD OF 'eskerlaw03.DecimalAll'. -/
def decimalAllUptoCard : Claim7 := { stood := { row := decimalAllUptoRow, standIns := [], harness := (true, "fb586888b63048c59fe16ba3a6b41687cfa8807de2ef88983382edfacc4fb51c"), looks := false }, kinds := [], alts := [], laidByText := true, laidKinds := [.data], laidTests := true, laidLooks := .later }
def DecimalAllUptoCardSaid : Prop := Claim7.holds Tryd.pinned (.plain (OpenSpec.upto decimalAllSpec)) decimalAllUptoCard

/-- THE SECOND FORM's CARD OF 'eskerlaw03.DecimalPart'. -/
def decimalPartUptoCard : Claim7 := { stood := { row := decimalPartUptoRow, standIns := [], harness := (true, "fb586888b63048c59fe16ba3a6b41687cfa8807de2ef88983382edfacc4fb51c"), looks := false }, kinds := [], alts := [], laidByText := true, laidKinds := [.data], laidTests := true, laidLooks := .later }
def DecimalPartUptoCardSaid : Prop := Claim7.holds Tryd.pinned (.plain (OpenSpec.upto decimalPartSpec)) decimalPartUptoCard

/-- THE SECOND FORM's CARD OF 'eskerlaw03.DecimalOrders'. -/
def decimalOrdersUptoCard : Claim7 := { stood := { row := decimalOrdersUptoRow, standIns := [], harness := (true, "fb586888b63048c59fe16ba3a6b41687cfa8807de2ef88983382edfacc4fb51c"), looks := false }, kinds := [], alts := [], laidByText := true, laidKinds := [.data], laidTests := true, laidLooks := .later }
def DecimalOrdersUptoCardSaid : Prop := Claim7.holds Tryd.pinned (.plain (OpenSpec.upto decimalOrdersSpec)) decimalOrdersUptoCard
end Rows
end Go.Proofs.YtbpillbhkkjlbaaDoor
