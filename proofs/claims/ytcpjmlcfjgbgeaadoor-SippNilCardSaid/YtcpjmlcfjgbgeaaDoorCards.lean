/-
  DERIVED. GIVEN WITH THE SEED: THE CARDS: each row of YtcpjmlcfjgbgeaaDoorRows.lean that lists a variable, with what it lists TIED to the program's text (the seventh form; the later family's looks); each row that meets fmt, with fmt's text TOLD by the authors' own Lean function (tested against real Go, not proved from fmt's source: count such statements apart). THE CARD IS WHAT COUNTS. Prove the row's statement (the work); the ties are given (YtcpjmlcfjgbgeaaDoorTie.lean); close each card by the builder's one call (the guide's Derived/Test/ToyasCard.lean, 'card_holds'). Laid BY PROGRAM, IN A SANDBOX (cutbox-door.mjs). By AI agents, Wed Nov 11 2026. No macro, syntax, notation, axiom, sorry.
-/
import Derived.Test.YtcpjmlcfjgbgeaaDoorRows
import GoSem.ClaimSeven
namespace Go.Proofs.YtcpjmlcfjgbgeaaDoor
namespace Rows

/-- THE TIED CARD OF 'carfaxlaw07.SippPlans'. -/
def sippPlansCard : Claim7 := { stood := { row := sippPlansRow, standIns := [], harness := (true, "3fe53a1db2fee481074ec47b56f7a848da6f296ab31cd6152dcca532dc513f99"), looks := false }, kinds := [], alts := [], laidByText := true, laidKinds := [.data, .pinned], laidTests := true, laidLooks := .later }
def SippPlansCardSaid : Prop := Claim7.holds Tryd.pinned (.plain (OpenSpec.ofChange sippPlansSpec)) sippPlansCard

/-- THE TIED CARD OF 'carfaxlaw07.SippIs'. -/
def sippIsCard : Claim7 := { stood := { row := sippIsRow, standIns := [], harness := (true, "3fe53a1db2fee481074ec47b56f7a848da6f296ab31cd6152dcca532dc513f99"), looks := false }, kinds := [], alts := [], laidByText := true, laidKinds := [.data, .pinned], laidTests := true, laidLooks := .later }
def SippIsCardSaid : Prop := Claim7.holds Tryd.pinned (.plain (OpenSpec.ofChange sippIsSpec)) sippIsCard

/-- THE TIED CARD OF 'carfaxlaw07.SippParts'. -/
def sippPartsCard : Claim7 := { stood := { row := sippPartsRow, standIns := [], harness := (true, "3fe53a1db2fee481074ec47b56f7a848da6f296ab31cd6152dcca532dc513f99"), looks := false }, kinds := [], alts := [], laidByText := true, laidKinds := [.data, .pinned], laidTests := true, laidLooks := .later }
def SippPartsCardSaid : Prop := Claim7.holds Tryd.pinned (.plain (OpenSpec.ofChange sippPartsSpec)) sippPartsCard

/-- THE TIED CARD OF 'carfaxlaw07.SippNil'. -/
def sippNilCard : Claim7 := { stood := { row := sippNilRow, standIns := [], harness := (true, "3fe53a1db2fee481074ec47b56f7a848da6f296ab31cd6152dcca532dc513f99"), looks := false }, kinds := [], alts := [], laidByText := true, laidKinds := [.data, .pinned], laidTests := true, laidLooks := .later }
def SippNilCardSaid : Prop := Claim7.holds Tryd.pinned (.plain (OpenSpec.ofChange sippNilSpec)) sippNilCard

/-- THE TIED CARD OF 'carfaxlaw07.SippFree'. -/
def sippFreeCard : Claim7 := { stood := { row := sippFreeRow, standIns := [], harness := (true, "3fe53a1db2fee481074ec47b56f7a848da6f296ab31cd6152dcca532dc513f99"), looks := false }, kinds := [], alts := [], laidByText := true, laidKinds := [.data, .pinned], laidTests := true, laidLooks := .later }
def SippFreeCardSaid : Prop := Claim7.holds Tryd.pinned (.plain (OpenSpec.ofChange sippFreeSpec)) sippFreeCard

/-- THE TIED CARD OF 'carfaxlaw07.SippWays'. -/
def sippWaysCard : Claim7 := { stood := { row := sippWaysRow, standIns := [], harness := (true, "3fe53a1db2fee481074ec47b56f7a848da6f296ab31cd6152dcca532dc513f99"), looks := false }, kinds := [], alts := [], laidByText := true, laidKinds := [.data, .pinned], laidTests := true, laidLooks := .later }
def SippWaysCardSaid : Prop := Claim7.holds Tryd.pinned (.plain (OpenSpec.ofChange sippWaysSpec)) sippWaysCard

/-- THE TIED CARD OF 'carfaxlaw10.TripGoes'. -/
def tripGoesCard : Claim7 := { stood := { row := tripGoesRow, standIns := [], harness := (true, "3fe53a1db2fee481074ec47b56f7a848da6f296ab31cd6152dcca532dc513f99"), looks := false }, kinds := [], alts := [], laidByText := true, laidKinds := [.data, .pinned], laidTests := true, laidLooks := .later }
def TripGoesCardSaid : Prop := Claim7.holds Tryd.pinned (.plain (OpenSpec.ofChange tripGoesSpec)) tripGoesCard

/-- THE TIED CARD OF 'carfaxlaw10.TripLong'. -/
def tripLongCard : Claim7 := { stood := { row := tripLongRow, standIns := [], harness := (true, "3fe53a1db2fee481074ec47b56f7a848da6f296ab31cd6152dcca532dc513f99"), looks := false }, kinds := [], alts := [], laidByText := true, laidKinds := [.data, .pinned], laidTests := true, laidLooks := .later }
def TripLongCardSaid : Prop := Claim7.holds Tryd.pinned (.plain (OpenSpec.ofChange tripLongSpec)) tripLongCard

/-- THE TIED CARD OF 'carfaxlaw10.TripRight'. -/
def tripRightCard : Claim7 := { stood := { row := tripRightRow, standIns := [], harness := (true, "3fe53a1db2fee481074ec47b56f7a848da6f296ab31cd6152dcca532dc513f99"), looks := false }, kinds := [], alts := [], laidByText := true, laidKinds := [.data, .pinned], laidTests := true, laidLooks := .later }
def TripRightCardSaid : Prop := Claim7.holds Tryd.pinned (.plain (OpenSpec.ofChange tripRightSpec)) tripRightCard

/-- THE TIED CARD OF 'carfaxlaw10.TripLeft'. -/
def tripLeftCard : Claim7 := { stood := { row := tripLeftRow, standIns := [], harness := (true, "3fe53a1db2fee481074ec47b56f7a848da6f296ab31cd6152dcca532dc513f99"), looks := false }, kinds := [], alts := [], laidByText := true, laidKinds := [.data, .pinned], laidTests := true, laidLooks := .later }
def TripLeftCardSaid : Prop := Claim7.holds Tryd.pinned (.plain (OpenSpec.ofChange tripLeftSpec)) tripLeftCard

/-- THE TIED CARD OF 'carfaxlaw11.TrafficNil'. -/
def trafficNilCard : Claim7 := { stood := { row := trafficNilRow, standIns := [], harness := (true, "3fe53a1db2fee481074ec47b56f7a848da6f296ab31cd6152dcca532dc513f99"), looks := false }, kinds := [], alts := [], laidByText := true, laidKinds := [.data, .pinned], laidTests := true, laidLooks := .later }
def TrafficNilCardSaid : Prop := Claim7.holds Tryd.pinned (.plain (OpenSpec.ofChange trafficNilSpec)) trafficNilCard

/-- THE SECOND FORM's CARD OF 'carfaxlaw07.SippPlans'. -/
def sippPlansUptoCard : Claim7 := { stood := { row := sippPlansUptoRow, standIns := [], harness := (true, "3fe53a1db2fee481074ec47b56f7a848da6f296ab31cd6152dcca532dc513f99"), looks := false }, kinds := [], alts := [], laidByText := true, laidKinds := [.data, .pinned], laidTests := true, laidLooks := .later }
def SippPlansUptoCardSaid : Prop := Claim7.holds Tryd.pinned (.plain (OpenSpec.upto sippPlansSpec)) sippPlansUptoCard

/-- THE SECOND FORM's CARD OF 'carfaxlaw07.SippIs'. -/
def sippIsUptoCard : Claim7 := { stood := { row := sippIsUptoRow, standIns := [], harness := (true, "3fe53a1db2fee481074ec47b56f7a848da6f296ab31cd6152dcca532dc513f99"), looks := false }, kinds := [], alts := [], laidByText := true, laidKinds := [.data, .pinned], laidTests := true, laidLooks := .later }
def SippIsUptoCardSaid : Prop := Claim7.holds Tryd.pinned (.plain (OpenSpec.upto sippIsSpec)) sippIsUptoCard

/-- THE SECOND FORM's CARD OF 'carfaxlaw07.SippParts'. -/
def sippPartsUptoCard : Claim7 := { stood := { row := sippPartsUptoRow, standIns := [], harness := (true, "3fe53a1db2fee481074ec47b56f7a848da6f296ab31cd6152dcca532dc513f99"), looks := false }, kinds := [], alts := [], laidByText := true, laidKinds := [.data, .pinned], laidTests := true, laidLooks := .later }
def SippPartsUptoCardSaid : Prop := Claim7.holds Tryd.pinned (.plain (OpenSpec.upto sippPartsSpec)) sippPartsUptoCard

/-- THE SECOND FORM's CARD OF 'carfaxlaw07.SippNil'. -/
def sippNilUptoCard : Claim7 := { stood := { row := sippNilUptoRow, standIns := [], harness := (true, "3fe53a1db2fee481074ec47b56f7a848da6f296ab31cd6152dcca532dc513f99"), looks := false }, kinds := [], alts := [], laidByText := true, laidKinds := [.data, .pinned], laidTests := true, laidLooks := .later }
def SippNilUptoCardSaid : Prop := Claim7.holds Tryd.pinned (.plain (OpenSpec.upto sippNilSpec)) sippNilUptoCard

/-- THE SECOND FORM's CARD OF 'carfaxlaw07.SippFree'. -/
def sippFreeUptoCard : Claim7 := { stood := { row := sippFreeUptoRow, standIns := [], harness := (true, "3fe53a1db2fee481074ec47b56f7a848da6f296ab31cd6152dcca532dc513f99"), looks := false }, kinds := [], alts := [], laidByText := true, laidKinds := [.data, .pinned], laidTests := true, laidLooks := .later }
def SippFreeUptoCardSaid : Prop := Claim7.holds Tryd.pinned (.plain (OpenSpec.upto sippFreeSpec)) sippFreeUptoCard

/-- THE SECOND FORM's CARD OF 'carfaxlaw07.SippWays'. -/
def sippWaysUptoCard : Claim7 := { stood := { row := sippWaysUptoRow, standIns := [], harness := (true, "3fe53a1db2fee481074ec47b56f7a848da6f296ab31cd6152dcca532dc513f99"), looks := false }, kinds := [], alts := [], laidByText := true, laidKinds := [.data, .pinned], laidTests := true, laidLooks := .later }
def SippWaysUptoCardSaid : Prop := Claim7.holds Tryd.pinned (.plain (OpenSpec.upto sippWaysSpec)) sippWaysUptoCard

/-- THE SECOND FORM's CARD OF 'carfaxlaw10.TripGoes'. -/
def tripGoesUptoCard : Claim7 := { stood := { row := tripGoesUptoRow, standIns := [], harness := (true, "3fe53a1db2fee481074ec47b56f7a848da6f296ab31cd6152dcca532dc513f99"), looks := false }, kinds := [], alts := [], laidByText := true, laidKinds := [.data, .pinned], laidTests := true, laidLooks := .later }
def TripGoesUptoCardSaid : Prop := Claim7.holds Tryd.pinned (.plain (OpenSpec.upto tripGoesSpec)) tripGoesUptoCard

/-- THE SECOND FORM's CARD OF 'carfaxlaw10.TripLong'. -/
def tripLongUptoCard : Claim7 := { stood := { row := tripLongUptoRow, standIns := [], harness := (true, "3fe53a1db2fee481074ec47b56f7a848da6f296ab31cd6152dcca532dc513f99"), looks := false }, kinds := [], alts := [], laidByText := true, laidKinds := [.data, .pinned], laidTests := true, laidLooks := .later }
def TripLongUptoCardSaid : Prop := Claim7.holds Tryd.pinned (.plain (OpenSpec.upto tripLongSpec)) tripLongUptoCard

/-- THE SECOND FORM's CARD OF 'carfaxlaw10.TripRight'. -/
def tripRightUptoCard : Claim7 := { stood := { row := tripRightUptoRow, standIns := [], harness := (true, "3fe53a1db2fee481074ec47b56f7a848da6f296ab31cd6152dcca532dc513f99"), looks := false }, kinds := [], alts := [], laidByText := true, laidKinds := [.data, .pinned], laidTests := true, laidLooks := .later }
def TripRightUptoCardSaid : Prop := Claim7.holds Tryd.pinned (.plain (OpenSpec.upto tripRightSpec)) tripRightUptoCard

/-- THE SECOND FORM's CARD OF 'carfaxlaw10.TripLeft'. -/
def tripLeftUptoCard : Claim7 := { stood := { row := tripLeftUptoRow, standIns := [], harness := (true, "3fe53a1db2fee481074ec47b56f7a848da6f296ab31cd6152dcca532dc513f99"), looks := false }, kinds := [], alts := [], laidByText := true, laidKinds := [.data, .pinned], laidTests := true, laidLooks := .later }
def TripLeftUptoCardSaid : Prop := Claim7.holds Tryd.pinned (.plain (OpenSpec.upto tripLeftSpec)) tripLeftUptoCard

/-- THE SECOND FORM's CARD OF 'carfaxlaw11.TrafficNil'. -/
def trafficNilUptoCard : Claim7 := { stood := { row := trafficNilUptoRow, standIns := [], harness := (true, "3fe53a1db2fee481074ec47b56f7a848da6f296ab31cd6152dcca532dc513f99"), looks := false }, kinds := [], alts := [], laidByText := true, laidKinds := [.data, .pinned], laidTests := true, laidLooks := .later }
def TrafficNilUptoCardSaid : Prop := Claim7.holds Tryd.pinned (.plain (OpenSpec.upto trafficNilSpec)) trafficNilUptoCard
end Rows
end Go.Proofs.YtcpjmlcfjgbgeaaDoor
