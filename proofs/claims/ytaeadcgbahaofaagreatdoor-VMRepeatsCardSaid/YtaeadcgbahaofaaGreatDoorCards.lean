/-
  DERIVED. GIVEN WITH THE SEED: THE CARDS: each row of YtaeadcgbahaofaaGreatDoorRows.lean that lists a variable, with what it lists TIED to the program's text (the seventh form; the later family's looks); each row that meets fmt, with fmt's text TOLD by the authors' own Lean function (tested against real Go, not proved from fmt's source: count such statements apart). THE CARD IS WHAT COUNTS. Prove the row's statement (the work); the ties are given (YtaeadcgbahaofaaGreatDoorTie.lean); close each card by the builder's one call (the guide's Derived/Test/ToyasCard.lean, 'card_holds'). Laid BY PROGRAM, IN A SANDBOX (cutbox-door.mjs). By AI agents, Wed Nov 11 2026. No macro, syntax, notation, axiom, sorry.
-/
import Derived.Test.YtaeadcgbahaofaaGreatDoorRows
import GoSem.ClaimSeven
namespace Go.Proofs.YtaeadcgbahaofaaGreatDoor
namespace Rows

/-- THE TIED CARD OF 'pinballlaw35.VMMeans'. -/
def vMMeansCard : Claim7 := { stood := { row := vMMeansRow, standIns := [], harness := (true, "9f226c9155fac0f4ff568c9fab954c85198cdc56399f30d37cf4c97baecafb42"), looks := true }, kinds := [], alts := [], laidByText := true, laidKinds := [.listed, .data], laidTests := true, laidLooks := .later }
def VMMeansCardSaid : Prop := Claim7.holds Tryz.pinned (.plain (OpenSpec.ofChange vMMeansSpec)) vMMeansCard

/-- THE TIED CARD OF 'pinballlaw31.SyntaxMade'. -/
def syntaxMadeCard : Claim7 := { stood := { row := syntaxMadeRow, standIns := [], harness := (true, "9f226c9155fac0f4ff568c9fab954c85198cdc56399f30d37cf4c97baecafb42"), looks := true }, kinds := [], alts := [], laidByText := true, laidKinds := [.data, .data, .data, .sentinel, .sentinel, .listed, .data], laidTests := true, laidLooks := .later }
def SyntaxMadeCardSaid : Prop := Claim7.holds Tryz.pinned (.plain (OpenSpec.ofChange syntaxMadeSpec)) syntaxMadeCard

/-- THE TIED CARD OF 'pinballlaw34.CompileBuilds'. -/
def compileBuildsCard : Claim7 := { stood := { row := compileBuildsRow, standIns := [], harness := (true, "9f226c9155fac0f4ff568c9fab954c85198cdc56399f30d37cf4c97baecafb42"), looks := true }, kinds := [], alts := [], laidByText := true, laidKinds := [.data, .data, .data, .sentinel, .sentinel, .listed, .data], laidTests := true, laidLooks := .later }
def CompileBuildsCardSaid : Prop := Claim7.holds Tryz.pinned (.plain (OpenSpec.ofChange compileBuildsSpec)) compileBuildsCard

/-- THE TIED CARD OF 'pinballlaw34.CompilePlain'. -/
def compilePlainCard : Claim7 := { stood := { row := compilePlainRow, standIns := [], harness := (true, "9f226c9155fac0f4ff568c9fab954c85198cdc56399f30d37cf4c97baecafb42"), looks := true }, kinds := [], alts := [], laidByText := true, laidKinds := [.data, .data, .data, .sentinel, .sentinel, .listed, .data], laidTests := true, laidLooks := .later }
def CompilePlainCardSaid : Prop := Claim7.holds Tryz.pinned (.plain (OpenSpec.ofChange compilePlainSpec)) compilePlainCard

/-- THE TIED CARD OF 'pinballlaw34.CompileExprs'. -/
def compileExprsCard : Claim7 := { stood := { row := compileExprsRow, standIns := [], harness := (true, "9f226c9155fac0f4ff568c9fab954c85198cdc56399f30d37cf4c97baecafb42"), looks := true }, kinds := [], alts := [], laidByText := true, laidKinds := [.data, .data, .data, .sentinel, .sentinel, .listed, .data], laidTests := true, laidLooks := .later }
def CompileExprsCardSaid : Prop := Claim7.holds Tryz.pinned (.plain (OpenSpec.ofChange compileExprsSpec)) compileExprsCard

/-- THE TIED CARD OF 'pinballlaw34.CompileJoins'. -/
def compileJoinsCard : Claim7 := { stood := { row := compileJoinsRow, standIns := [], harness := (true, "9f226c9155fac0f4ff568c9fab954c85198cdc56399f30d37cf4c97baecafb42"), looks := true }, kinds := [], alts := [], laidByText := true, laidKinds := [.data, .data, .data, .sentinel, .sentinel, .listed, .data], laidTests := true, laidLooks := .later }
def CompileJoinsCardSaid : Prop := Claim7.holds Tryz.pinned (.plain (OpenSpec.ofChange compileJoinsSpec)) compileJoinsCard

/-- THE TIED CARD OF 'pinballlaw34.CompileMade'. -/
def compileMadeCard : Claim7 := { stood := { row := compileMadeRow, standIns := [], harness := (true, "9f226c9155fac0f4ff568c9fab954c85198cdc56399f30d37cf4c97baecafb42"), looks := true }, kinds := [], alts := [], laidByText := true, laidKinds := [.data, .data, .data, .sentinel, .sentinel, .listed, .data], laidTests := true, laidLooks := .later }
def CompileMadeCardSaid : Prop := Claim7.holds Tryz.pinned (.plain (OpenSpec.ofChange compileMadeSpec)) compileMadeCard

/-- THE TIED CARD OF 'pinballlaw34.CompileCarries'. -/
def compileCarriesCard : Claim7 := { stood := { row := compileCarriesRow, standIns := [], harness := (true, "9f226c9155fac0f4ff568c9fab954c85198cdc56399f30d37cf4c97baecafb42"), looks := true }, kinds := [], alts := [], laidByText := true, laidKinds := [.data, .data, .data, .sentinel, .sentinel, .listed, .data], laidTests := true, laidLooks := .later }
def CompileCarriesCardSaid : Prop := Claim7.holds Tryz.pinned (.plain (OpenSpec.ofChange compileCarriesSpec)) compileCarriesCard

/-- THE TIED CARD OF 'pinballlaw35.VMRepeats'. -/
def vMRepeatsCard : Claim7 := { stood := { row := vMRepeatsRow, standIns := [], harness := (true, "9f226c9155fac0f4ff568c9fab954c85198cdc56399f30d37cf4c97baecafb42"), looks := true }, kinds := [], alts := [], laidByText := true, laidKinds := [.data, .data, .data, .sentinel, .sentinel, .listed, .data], laidTests := true, laidLooks := .later }
def VMRepeatsCardSaid : Prop := Claim7.holds Tryz.pinned (.plain (OpenSpec.ofChange vMRepeatsSpec)) vMRepeatsCard

/-- THE SECOND FORM's CARD OF 'pinballlaw35.VMMeans'. -/
def vMMeansUptoCard : Claim7 := { stood := { row := vMMeansUptoRow, standIns := [], harness := (true, "9f226c9155fac0f4ff568c9fab954c85198cdc56399f30d37cf4c97baecafb42"), looks := true }, kinds := [], alts := [], laidByText := true, laidKinds := [.listed, .data], laidTests := true, laidLooks := .later }
def VMMeansUptoCardSaid : Prop := Claim7.holds Tryz.pinned (.plain (OpenSpec.upto vMMeansSpec)) vMMeansUptoCard

/-- THE SECOND FORM's CARD OF 'pinballlaw31.SyntaxMade'. -/
def syntaxMadeUptoCard : Claim7 := { stood := { row := syntaxMadeUptoRow, standIns := [], harness := (true, "9f226c9155fac0f4ff568c9fab954c85198cdc56399f30d37cf4c97baecafb42"), looks := true }, kinds := [], alts := [], laidByText := true, laidKinds := [.data, .data, .data, .sentinel, .sentinel, .listed, .data], laidTests := true, laidLooks := .later }
def SyntaxMadeUptoCardSaid : Prop := Claim7.holds Tryz.pinned (.plain (OpenSpec.upto syntaxMadeSpec)) syntaxMadeUptoCard

/-- THE SECOND FORM's CARD OF 'pinballlaw34.CompileBuilds'. -/
def compileBuildsUptoCard : Claim7 := { stood := { row := compileBuildsUptoRow, standIns := [], harness := (true, "9f226c9155fac0f4ff568c9fab954c85198cdc56399f30d37cf4c97baecafb42"), looks := true }, kinds := [], alts := [], laidByText := true, laidKinds := [.data, .data, .data, .sentinel, .sentinel, .listed, .data], laidTests := true, laidLooks := .later }
def CompileBuildsUptoCardSaid : Prop := Claim7.holds Tryz.pinned (.plain (OpenSpec.upto compileBuildsSpec)) compileBuildsUptoCard

/-- THE SECOND FORM's CARD OF 'pinballlaw34.CompilePlain'. -/
def compilePlainUptoCard : Claim7 := { stood := { row := compilePlainUptoRow, standIns := [], harness := (true, "9f226c9155fac0f4ff568c9fab954c85198cdc56399f30d37cf4c97baecafb42"), looks := true }, kinds := [], alts := [], laidByText := true, laidKinds := [.data, .data, .data, .sentinel, .sentinel, .listed, .data], laidTests := true, laidLooks := .later }
def CompilePlainUptoCardSaid : Prop := Claim7.holds Tryz.pinned (.plain (OpenSpec.upto compilePlainSpec)) compilePlainUptoCard

/-- THE SECOND FORM's CARD OF 'pinballlaw34.CompileExprs'. -/
def compileExprsUptoCard : Claim7 := { stood := { row := compileExprsUptoRow, standIns := [], harness := (true, "9f226c9155fac0f4ff568c9fab954c85198cdc56399f30d37cf4c97baecafb42"), looks := true }, kinds := [], alts := [], laidByText := true, laidKinds := [.data, .data, .data, .sentinel, .sentinel, .listed, .data], laidTests := true, laidLooks := .later }
def CompileExprsUptoCardSaid : Prop := Claim7.holds Tryz.pinned (.plain (OpenSpec.upto compileExprsSpec)) compileExprsUptoCard

/-- THE SECOND FORM's CARD OF 'pinballlaw34.CompileJoins'. -/
def compileJoinsUptoCard : Claim7 := { stood := { row := compileJoinsUptoRow, standIns := [], harness := (true, "9f226c9155fac0f4ff568c9fab954c85198cdc56399f30d37cf4c97baecafb42"), looks := true }, kinds := [], alts := [], laidByText := true, laidKinds := [.data, .data, .data, .sentinel, .sentinel, .listed, .data], laidTests := true, laidLooks := .later }
def CompileJoinsUptoCardSaid : Prop := Claim7.holds Tryz.pinned (.plain (OpenSpec.upto compileJoinsSpec)) compileJoinsUptoCard

/-- THE SECOND FORM's CARD OF 'pinballlaw34.CompileMade'. -/
def compileMadeUptoCard : Claim7 := { stood := { row := compileMadeUptoRow, standIns := [], harness := (true, "9f226c9155fac0f4ff568c9fab954c85198cdc56399f30d37cf4c97baecafb42"), looks := true }, kinds := [], alts := [], laidByText := true, laidKinds := [.data, .data, .data, .sentinel, .sentinel, .listed, .data], laidTests := true, laidLooks := .later }
def CompileMadeUptoCardSaid : Prop := Claim7.holds Tryz.pinned (.plain (OpenSpec.upto compileMadeSpec)) compileMadeUptoCard

/-- THE SECOND FORM's CARD OF 'pinballlaw34.CompileCarries'. -/
def compileCarriesUptoCard : Claim7 := { stood := { row := compileCarriesUptoRow, standIns := [], harness := (true, "9f226c9155fac0f4ff568c9fab954c85198cdc56399f30d37cf4c97baecafb42"), looks := true }, kinds := [], alts := [], laidByText := true, laidKinds := [.data, .data, .data, .sentinel, .sentinel, .listed, .data], laidTests := true, laidLooks := .later }
def CompileCarriesUptoCardSaid : Prop := Claim7.holds Tryz.pinned (.plain (OpenSpec.upto compileCarriesSpec)) compileCarriesUptoCard

/-- THE SECOND FORM's CARD OF 'pinballlaw35.VMRepeats'. -/
def vMRepeatsUptoCard : Claim7 := { stood := { row := vMRepeatsUptoRow, standIns := [], harness := (true, "9f226c9155fac0f4ff568c9fab954c85198cdc56399f30d37cf4c97baecafb42"), looks := true }, kinds := [], alts := [], laidByText := true, laidKinds := [.data, .data, .data, .sentinel, .sentinel, .listed, .data], laidTests := true, laidLooks := .later }
def VMRepeatsUptoCardSaid : Prop := Claim7.holds Tryz.pinned (.plain (OpenSpec.upto vMRepeatsSpec)) vMRepeatsUptoCard
end Rows
end Go.Proofs.YtaeadcgbahaofaaGreatDoor
