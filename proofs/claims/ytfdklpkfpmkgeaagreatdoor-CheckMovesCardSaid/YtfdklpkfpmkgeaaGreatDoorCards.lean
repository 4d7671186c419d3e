/-
  DERIVED. GIVEN WITH THE SEED: THE CARDS: each row of YtfdklpkfpmkgeaaGreatDoorRows.lean that lists a variable, with what it lists TIED to the program's text (the seventh form; the later family's looks); each row that meets fmt, with fmt's text TOLD by the authors' own Lean function (tested against real Go, not proved from fmt's source: count such statements apart). THE CARD IS WHAT COUNTS. Prove the row's statement (the work); the ties are given (YtfdklpkfpmkgeaaGreatDoorTie.lean); close each card by the builder's one call (the guide's Derived/Test/ToyasCard.lean, 'card_holds'). Laid BY PROGRAM, IN A SANDBOX (cutbox-door.mjs). By AI agents, Wed Nov 11 2026. No macro, syntax, notation, axiom, sorry.
-/
import Derived.Test.YtfdklpkfpmkgeaaGreatDoorRows
import GoSem.ClaimSeven
namespace Go.Proofs.YtfdklpkfpmkgeaaGreatDoor
namespace Rows

/-- THE TIED CARD OF 'elasticstorelaw28.CheckClass'. -/
def checkClassCard : Claim7 := { stood := { row := checkClassRow, standIns := [], harness := (true, "477f77623027600d86b76821fe0375488ae4da0855fbcf344bff753e1eb6a17b"), looks := true }, kinds := [], alts := [], laidByText := true, laidKinds := [.data, .data, .data, .sentinel, .sentinel, .widerDeep, .data], laidTests := true, laidLooks := .later }
def CheckClassCardSaid : Prop := Claim7.holds Tryz.pinned (.plain (OpenSpec.ofChange checkClassSpec)) checkClassCard

/-- THE TIED CARD OF 'elasticstorelaw28.CheckOrder'. -/
def checkOrderCard : Claim7 := { stood := { row := checkOrderRow, standIns := [], harness := (true, "477f77623027600d86b76821fe0375488ae4da0855fbcf344bff753e1eb6a17b"), looks := true }, kinds := [], alts := [], laidByText := true, laidKinds := [.data, .data, .data, .sentinel, .sentinel, .widerDeep, .data], laidTests := true, laidLooks := .later }
def CheckOrderCardSaid : Prop := Claim7.holds Tryz.pinned (.plain (OpenSpec.ofChange checkOrderSpec)) checkOrderCard

/-- THE TIED CARD OF 'elasticstorelaw28.CheckMoves'. -/
def checkMovesCard : Claim7 := { stood := { row := checkMovesRow, standIns := [], harness := (true, "477f77623027600d86b76821fe0375488ae4da0855fbcf344bff753e1eb6a17b"), looks := true }, kinds := [], alts := [], laidByText := true, laidKinds := [.data, .data, .data, .sentinel, .sentinel, .widerDeep, .data], laidTests := true, laidLooks := .later }
def CheckMovesCardSaid : Prop := Claim7.holds Tryz.pinned (.plain (OpenSpec.ofChange checkMovesSpec)) checkMovesCard

/-- THE TIED CARD OF 'elasticstorelaw28.CheckPaths'. -/
def checkPathsCard : Claim7 := { stood := { row := checkPathsRow, standIns := [], harness := (true, "477f77623027600d86b76821fe0375488ae4da0855fbcf344bff753e1eb6a17b"), looks := true }, kinds := [], alts := [], laidByText := true, laidKinds := [.data, .data, .data, .sentinel, .sentinel, .widerDeep, .data], laidTests := true, laidLooks := .later }
def CheckPathsCardSaid : Prop := Claim7.holds Tryz.pinned (.plain (OpenSpec.ofChange checkPathsSpec)) checkPathsCard

/-- THE TIED CARD OF 'elasticstorelaw28.CheckTypes'. -/
def checkTypesCard : Claim7 := { stood := { row := checkTypesRow, standIns := [], harness := (true, "477f77623027600d86b76821fe0375488ae4da0855fbcf344bff753e1eb6a17b"), looks := true }, kinds := [], alts := [], laidByText := true, laidKinds := [.data, .data, .data, .sentinel, .sentinel, .widerDeep, .data], laidTests := true, laidLooks := .later }
def CheckTypesCardSaid : Prop := Claim7.holds Tryz.pinned (.plain (OpenSpec.ofChange checkTypesSpec)) checkTypesCard

/-- THE TIED CARD OF 'elasticstorelaw27.SchemaFormat'. -/
def schemaFormatCard : Claim7 := { stood := { row := schemaFormatRow, standIns := [], harness := (true, "477f77623027600d86b76821fe0375488ae4da0855fbcf344bff753e1eb6a17b"), looks := true }, kinds := [], alts := [], laidByText := true, laidKinds := [.data, .data, .data, .sentinel, .sentinel, .widerDeep, .widerDeep, .widerDeep, .widerDeep, .data], laidTests := true, laidLooks := .later }
def SchemaFormatCardSaid : Prop := Claim7.holds Tryz.pinned (.plain (OpenSpec.ofChange schemaFormatSpec)) schemaFormatCard

/-- THE TIED CARD OF 'elasticstorelaw27.SchemaDeep'. -/
def schemaDeepCard : Claim7 := { stood := { row := schemaDeepRow, standIns := [], harness := (true, "477f77623027600d86b76821fe0375488ae4da0855fbcf344bff753e1eb6a17b"), looks := true }, kinds := [], alts := [], laidByText := true, laidKinds := [.data, .data, .data, .sentinel, .sentinel, .widerDeep, .widerDeep, .widerDeep, .widerDeep, .data], laidTests := true, laidLooks := .later }
def SchemaDeepCardSaid : Prop := Claim7.holds Tryz.pinned (.plain (OpenSpec.ofChange schemaDeepSpec)) schemaDeepCard

/-- THE TIED CARD OF 'elasticstorelaw27.SchemaNumbers'. -/
def schemaNumbersCard : Claim7 := { stood := { row := schemaNumbersRow, standIns := [], harness := (true, "477f77623027600d86b76821fe0375488ae4da0855fbcf344bff753e1eb6a17b"), looks := true }, kinds := [], alts := [], laidByText := true, laidKinds := [.data, .data, .data, .sentinel, .sentinel, .widerDeep, .widerDeep, .widerDeep, .widerDeep, .data], laidTests := true, laidLooks := .later }
def SchemaNumbersCardSaid : Prop := Claim7.holds Tryz.pinned (.plain (OpenSpec.ofChange schemaNumbersSpec)) schemaNumbersCard

/-- THE TIED CARD OF 'elasticstorelaw27.SchemaRoundTrip'. -/
def schemaRoundTripCard : Claim7 := { stood := { row := schemaRoundTripRow, standIns := [], harness := (true, "477f77623027600d86b76821fe0375488ae4da0855fbcf344bff753e1eb6a17b"), looks := true }, kinds := [], alts := [], laidByText := true, laidKinds := [.data, .data, .data, .sentinel, .sentinel, .widerDeep, .widerDeep, .widerDeep, .widerDeep, .data], laidTests := true, laidLooks := .later }
def SchemaRoundTripCardSaid : Prop := Claim7.holds Tryz.pinned (.plain (OpenSpec.ofChange schemaRoundTripSpec)) schemaRoundTripCard

/-- THE TIED CARD OF 'elasticstorelaw27.SchemaBlanks'. -/
def schemaBlanksCard : Claim7 := { stood := { row := schemaBlanksRow, standIns := [], harness := (true, "477f77623027600d86b76821fe0375488ae4da0855fbcf344bff753e1eb6a17b"), looks := true }, kinds := [], alts := [], laidByText := true, laidKinds := [.data, .data, .data, .sentinel, .sentinel, .widerDeep, .widerDeep, .widerDeep, .widerDeep, .data], laidTests := true, laidLooks := .later }
def SchemaBlanksCardSaid : Prop := Claim7.holds Tryz.pinned (.plain (OpenSpec.ofChange schemaBlanksSpec)) schemaBlanksCard

/-- THE TIED CARD OF 'elasticstorelaw27.SchemaEqual'. -/
def schemaEqualCard : Claim7 := { stood := { row := schemaEqualRow, standIns := [], harness := (true, "477f77623027600d86b76821fe0375488ae4da0855fbcf344bff753e1eb6a17b"), looks := true }, kinds := [], alts := [], laidByText := true, laidKinds := [.data, .data, .data, .sentinel, .sentinel, .widerDeep, .widerDeep, .widerDeep, .widerDeep, .data], laidTests := true, laidLooks := .later }
def SchemaEqualCardSaid : Prop := Claim7.holds Tryz.pinned (.plain (OpenSpec.ofChange schemaEqualSpec)) schemaEqualCard

/-- THE SECOND FORM's CARD OF 'elasticstorelaw28.CheckClass'. -/
def checkClassUptoCard : Claim7 := { stood := { row := checkClassUptoRow, standIns := [], harness := (true, "477f77623027600d86b76821fe0375488ae4da0855fbcf344bff753e1eb6a17b"), looks := true }, kinds := [], alts := [], laidByText := true, laidKinds := [.data, .data, .data, .sentinel, .sentinel, .widerDeep, .data], laidTests := true, laidLooks := .later }
def CheckClassUptoCardSaid : Prop := Claim7.holds Tryz.pinned (.plain (OpenSpec.upto checkClassSpec)) checkClassUptoCard

/-- THE SECOND FORM's CARD OF 'elasticstorelaw28.CheckOrder'. -/
def checkOrderUptoCard : Claim7 := { stood := { row := checkOrderUptoRow, standIns := [], harness := (true, "477f77623027600d86b76821fe0375488ae4da0855fbcf344bff753e1eb6a17b"), looks := true }, kinds := [], alts := [], laidByText := true, laidKinds := [.data, .data, .data, .sentinel, .sentinel, .widerDeep, .data], laidTests := true, laidLooks := .later }
def CheckOrderUptoCardSaid : Prop := Claim7.holds Tryz.pinned (.plain (OpenSpec.upto checkOrderSpec)) checkOrderUptoCard

/-- THE SECOND FORM's CARD OF 'elasticstorelaw28.CheckMoves'. -/
def checkMovesUptoCard : Claim7 := { stood := { row := checkMovesUptoRow, standIns := [], harness := (true, "477f77623027600d86b76821fe0375488ae4da0855fbcf344bff753e1eb6a17b"), looks := true }, kinds := [], alts := [], laidByText := true, laidKinds := [.data, .data, .data, .sentinel, .sentinel, .widerDeep, .data], laidTests := true, laidLooks := .later }
def CheckMovesUptoCardSaid : Prop := Claim7.holds Tryz.pinned (.plain (OpenSpec.upto checkMovesSpec)) checkMovesUptoCard

/-- THE SECOND FORM's CARD OF 'elasticstorelaw28.CheckPaths'. -/
def checkPathsUptoCard : Claim7 := { stood := { row := checkPathsUptoRow, standIns := [], harness := (true, "477f77623027600d86b76821fe0375488ae4da0855fbcf344bff753e1eb6a17b"), looks := true }, kinds := [], alts := [], laidByText := true, laidKinds := [.data, .data, .data, .sentinel, .sentinel, .widerDeep, .data], laidTests := true, laidLooks := .later }
def CheckPathsUptoCardSaid : Prop := Claim7.holds Tryz.pinned (.plain (OpenSpec.upto checkPathsSpec)) checkPathsUptoCard

/-- THE SECOND FORM's CARD OF 'elasticstorelaw28.CheckTypes'. -/
def checkTypesUptoCard : Claim7 := { stood := { row := checkTypesUptoRow, standIns := [], harness := (true, "477f77623027600d86b76821fe0375488ae4da0855fbcf344bff753e1eb6a17b"), looks := true }, kinds := [], alts := [], laidByText := true, laidKinds := [.data, .data, .data, .sentinel, .sentinel, .widerDeep, .data], laidTests := true, laidLooks := .later }
def CheckTypesUptoCardSaid : Prop := Claim7.holds Tryz.pinned (.plain (OpenSpec.upto checkTypesSpec)) checkTypesUptoCard

/-- THE SECOND FORM's CARD OF 'elasticstorelaw27.SchemaFormat'. -/
def schemaFormatUptoCard : Claim7 := { stood := { row := schemaFormatUptoRow, standIns := [], harness := (true, "477f77623027600d86b76821fe0375488ae4da0855fbcf344bff753e1eb6a17b"), looks := true }, kinds := [], alts := [], laidByText := true, laidKinds := [.data, .data, .data, .sentinel, .sentinel, .widerDeep, .widerDeep, .widerDeep, .widerDeep, .data], laidTests := true, laidLooks := .later }
def SchemaFormatUptoCardSaid : Prop := Claim7.holds Tryz.pinned (.plain (OpenSpec.upto schemaFormatSpec)) schemaFormatUptoCard

/-- THE SECOND FORM's CARD OF 'elasticstorelaw27.SchemaDeep'. -/
def schemaDeepUptoCard : Claim7 := { stood := { row := schemaDeepUptoRow, standIns := [], harness := (true, "477f77623027600d86b76821fe0375488ae4da0855fbcf344bff753e1eb6a17b"), looks := true }, kinds := [], alts := [], laidByText := true, laidKinds := [.data, .data, .data, .sentinel, .sentinel, .widerDeep, .widerDeep, .widerDeep, .widerDeep, .data], laidTests := true, laidLooks := .later }
def SchemaDeepUptoCardSaid : Prop := Claim7.holds Tryz.pinned (.plain (OpenSpec.upto schemaDeepSpec)) schemaDeepUptoCard

/-- THE SECOND FORM's CARD OF 'elasticstorelaw27.SchemaNumbers'. -/
def schemaNumbersUptoCard : Claim7 := { stood := { row := schemaNumbersUptoRow, standIns := [], harness := (true, "477f77623027600d86b76821fe0375488ae4da0855fbcf344bff753e1eb6a17b"), looks := true }, kinds := [], alts := [], laidByText := true, laidKinds := [.data, .data, .data, .sentinel, .sentinel, .widerDeep, .widerDeep, .widerDeep, .widerDeep, .data], laidTests := true, laidLooks := .later }
def SchemaNumbersUptoCardSaid : Prop := Claim7.holds Tryz.pinned (.plain (OpenSpec.upto schemaNumbersSpec)) schemaNumbersUptoCard

/-- THE SECOND FORM's CARD OF 'elasticstorelaw27.SchemaRoundTrip'. -/
def schemaRoundTripUptoCard : Claim7 := { stood := { row := schemaRoundTripUptoRow, standIns := [], harness := (true, "477f77623027600d86b76821fe0375488ae4da0855fbcf344bff753e1eb6a17b"), looks := true }, kinds := [], alts := [], laidByText := true, laidKinds := [.data, .data, .data, .sentinel, .sentinel, .widerDeep, .widerDeep, .widerDeep, .widerDeep, .data], laidTests := true, laidLooks := .later }
def SchemaRoundTripUptoCardSaid : Prop := Claim7.holds Tryz.pinned (.plain (OpenSpec.upto schemaRoundTripSpec)) schemaRoundTripUptoCard

/-- THE SECOND FORM's CARD OF 'elasticstorelaw27.SchemaBlanks'. -/
def schemaBlanksUptoCard : Claim7 := { stood := { row := schemaBlanksUptoRow, standIns := [], harness := (true, "477f77623027600d86b76821fe0375488ae4da0855fbcf344bff753e1eb6a17b"), looks := true }, kinds := [], alts := [], laidByText := true, laidKinds := [.data, .data, .data, .sentinel, .sentinel, .widerDeep, .widerDeep, .widerDeep, .widerDeep, .data], laidTests := true, laidLooks := .later }
def SchemaBlanksUptoCardSaid : Prop := Claim7.holds Tryz.pinned (.plain (OpenSpec.upto schemaBlanksSpec)) schemaBlanksUptoCard

/-- THE SECOND FORM's CARD OF 'elasticstorelaw27.SchemaEqual'. -/
def schemaEqualUptoCard : Claim7 := { stood := { row := schemaEqualUptoRow, standIns := [], harness := (true, "477f77623027600d86b76821fe0375488ae4da0855fbcf344bff753e1eb6a17b"), looks := true }, kinds := [], alts := [], laidByText := true, laidKinds := [.data, .data, .data, .sentinel, .sentinel, .widerDeep, .widerDeep, .widerDeep, .widerDeep, .data], laidTests := true, laidLooks := .later }
def SchemaEqualUptoCardSaid : Prop := Claim7.holds Tryz.pinned (.plain (OpenSpec.upto schemaEqualSpec)) schemaEqualUptoCard
end Rows
end Go.Proofs.YtfdklpkfpmkgeaaGreatDoor
