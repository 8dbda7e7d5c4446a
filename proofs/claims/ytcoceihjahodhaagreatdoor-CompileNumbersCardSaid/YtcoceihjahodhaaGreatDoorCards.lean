/-
  DERIVED. GIVEN WITH THE SEED: THE CARDS: each row of YtcoceihjahodhaaGreatDoorRows.lean that lists a variable, with what it lists TIED to the program's text (the seventh form; the later family's looks); each row that meets fmt, with fmt's text TOLD by the authors' own Lean function (tested against real Go, not proved from fmt's source: count such statements apart). THE CARD IS WHAT COUNTS. Prove the row's statement (the work); the ties are given (YtcoceihjahodhaaGreatDoorTie.lean); close each card by the builder's one call (the guide's Derived/Test/ToyasCard.lean, 'card_holds'). Laid BY PROGRAM, IN A SANDBOX (cutbox-door.mjs). By AI agents, Wed Nov 11 2026. No macro, syntax, notation, axiom, sorry.
-/
import Derived.Test.YtcoceihjahodhaaGreatDoorRows
import GoSem.ClaimSeven
namespace Go.Proofs.YtcoceihjahodhaaGreatDoor
namespace Rows

/-- THE TIED CARD OF 'dapplelaw09.CompileNumbers'. -/
def compileNumbersCard : Claim7 := { stood := { row := compileNumbersRow, standIns := [], harness := (true, "e8a1f3bb5f81e59a8ee3f99e923a5d4014794425192282d4278ba4db0f3977f4"), looks := true }, kinds := [], alts := [], laidByText := true, laidKinds := [.data, .data], laidTests := true, laidLooks := .later }
def CompileNumbersCardSaid : Prop := Claim7.holds Tryz.pinned (.plain (OpenSpec.ofChange compileNumbersSpec)) compileNumbersCard

/-- THE TIED CARD OF 'dapplelaw09.CompileMore'. -/
def compileMoreCard : Claim7 := { stood := { row := compileMoreRow, standIns := [], harness := (true, "e8a1f3bb5f81e59a8ee3f99e923a5d4014794425192282d4278ba4db0f3977f4"), looks := true }, kinds := [], alts := [], laidByText := true, laidKinds := [.data, .data], laidTests := true, laidLooks := .later }
def CompileMoreCardSaid : Prop := Claim7.holds Tryz.pinned (.plain (OpenSpec.ofChange compileMoreSpec)) compileMoreCard

/-- THE TIED CARD OF 'dapplelaw09.CompileTails'. -/
def compileTailsCard : Claim7 := { stood := { row := compileTailsRow, standIns := [], harness := (true, "e8a1f3bb5f81e59a8ee3f99e923a5d4014794425192282d4278ba4db0f3977f4"), looks := true }, kinds := [], alts := [], laidByText := true, laidKinds := [.data, .data], laidTests := true, laidLooks := .later }
def CompileTailsCardSaid : Prop := Claim7.holds Tryz.pinned (.plain (OpenSpec.ofChange compileTailsSpec)) compileTailsCard

/-- THE TIED CARD OF 'dapplelaw09.CompileDoes'. -/
def compileDoesCard : Claim7 := { stood := { row := compileDoesRow, standIns := [], harness := (true, "e8a1f3bb5f81e59a8ee3f99e923a5d4014794425192282d4278ba4db0f3977f4"), looks := true }, kinds := [], alts := [], laidByText := true, laidKinds := [.data, .data], laidTests := true, laidLooks := .later }
def CompileDoesCardSaid : Prop := Claim7.holds Tryz.pinned (.plain (OpenSpec.ofChange compileDoesSpec)) compileDoesCard

/-- THE TIED CARD OF 'dapplelaw09.CompileMeans'. -/
def compileMeansCard : Claim7 := { stood := { row := compileMeansRow, standIns := [], harness := (true, "e8a1f3bb5f81e59a8ee3f99e923a5d4014794425192282d4278ba4db0f3977f4"), looks := true }, kinds := [], alts := [], laidByText := true, laidKinds := [.data, .data], laidTests := true, laidLooks := .later }
def CompileMeansCardSaid : Prop := Claim7.holds Tryz.pinned (.plain (OpenSpec.ofChange compileMeansSpec)) compileMeansCard

/-- THE TIED CARD OF 'dapplelaw09.CompileTables'. -/
def compileTablesCard : Claim7 := { stood := { row := compileTablesRow, standIns := [], harness := (true, "e8a1f3bb5f81e59a8ee3f99e923a5d4014794425192282d4278ba4db0f3977f4"), looks := true }, kinds := [], alts := [], laidByText := true, laidKinds := [.data, .data], laidTests := true, laidLooks := .later }
def CompileTablesCardSaid : Prop := Claim7.holds Tryz.pinned (.plain (OpenSpec.ofChange compileTablesSpec)) compileTablesCard

/-- THE SECOND FORM's CARD OF 'dapplelaw09.CompileNumbers'. -/
def compileNumbersUptoCard : Claim7 := { stood := { row := compileNumbersUptoRow, standIns := [], harness := (true, "e8a1f3bb5f81e59a8ee3f99e923a5d4014794425192282d4278ba4db0f3977f4"), looks := true }, kinds := [], alts := [], laidByText := true, laidKinds := [.data, .data], laidTests := true, laidLooks := .later }
def CompileNumbersUptoCardSaid : Prop := Claim7.holds Tryz.pinned (.plain (OpenSpec.upto compileNumbersSpec)) compileNumbersUptoCard

/-- THE SECOND FORM's CARD OF 'dapplelaw09.CompileMore'. -/
def compileMoreUptoCard : Claim7 := { stood := { row := compileMoreUptoRow, standIns := [], harness := (true, "e8a1f3bb5f81e59a8ee3f99e923a5d4014794425192282d4278ba4db0f3977f4"), looks := true }, kinds := [], alts := [], laidByText := true, laidKinds := [.data, .data], laidTests := true, laidLooks := .later }
def CompileMoreUptoCardSaid : Prop := Claim7.holds Tryz.pinned (.plain (OpenSpec.upto compileMoreSpec)) compileMoreUptoCard

/-- THE SECOND FORM's CARD OF 'dapplelaw09.CompileTails'. -/
def compileTailsUptoCard : Claim7 := { stood := { row := compileTailsUptoRow, standIns := [], harness := (true, "e8a1f3bb5f81e59a8ee3f99e923a5d4014794425192282d4278ba4db0f3977f4"), looks := true }, kinds := [], alts := [], laidByText := true, laidKinds := [.data, .data], laidTests := true, laidLooks := .later }
def CompileTailsUptoCardSaid : Prop := Claim7.holds Tryz.pinned (.plain (OpenSpec.upto compileTailsSpec)) compileTailsUptoCard

/-- THE SECOND FORM's CARD OF 'dapplelaw09.CompileDoes'. -/
def compileDoesUptoCard : Claim7 := { stood := { row := compileDoesUptoRow, standIns := [], harness := (true, "e8a1f3bb5f81e59a8ee3f99e923a5d4014794425192282d4278ba4db0f3977f4"), looks := true }, kinds := [], alts := [], laidByText := true, laidKinds := [.data, .data], laidTests := true, laidLooks := .later }
def CompileDoesUptoCardSaid : Prop := Claim7.holds Tryz.pinned (.plain (OpenSpec.upto compileDoesSpec)) compileDoesUptoCard

/-- THE SECOND FORM's CARD OF 'dapplelaw09.CompileMeans'. -/
def compileMeansUptoCard : Claim7 := { stood := { row := compileMeansUptoRow, standIns := [], harness := (true, "e8a1f3bb5f81e59a8ee3f99e923a5d4014794425192282d4278ba4db0f3977f4"), looks := true }, kinds := [], alts := [], laidByText := true, laidKinds := [.data, .data], laidTests := true, laidLooks := .later }
def CompileMeansUptoCardSaid : Prop := Claim7.holds Tryz.pinned (.plain (OpenSpec.upto compileMeansSpec)) compileMeansUptoCard

/-- THE SECOND FORM's CARD OF 'dapplelaw09.CompileTables'. -/
def compileTablesUptoCard : Claim7 := { stood := { row := compileTablesUptoRow, standIns := [], harness := (true, "e8a1f3bb5f81e59a8ee3f99e923a5d4014794425192282d4278ba4db0f3977f4"), looks := true }, kinds := [], alts := [], laidByText := true, laidKinds := [.data, .data], laidTests := true, laidLooks := .later }
def CompileTablesUptoCardSaid : Prop := Claim7.holds Tryz.pinned (.plain (OpenSpec.upto compileTablesSpec)) compileTablesUptoCard
end Rows
end Go.Proofs.YtcoceihjahodhaaGreatDoor
