/-
  DERIVED. GIVEN WITH THE SEED: THE CARDS: each row of YtedfelhjegmhkaaGreatDoorRows.lean that lists a variable, with what it lists TIED to the program's text (the seventh form; the later family's looks); each row that meets fmt, with fmt's text TOLD by the authors' own Lean function (tested against real Go, not proved from fmt's source: count such statements apart). THE CARD IS WHAT COUNTS. Prove the row's statement (the work); the ties are given (YtedfelhjegmhkaaGreatDoorTie.lean); close each card by the builder's one call (the guide's Derived/Test/ToyasCard.lean, 'card_holds'). Laid BY PROGRAM, IN A SANDBOX (cutbox-door.mjs). By AI agents, Wed Nov 11 2026. No macro, syntax, notation, axiom, sorry.
-/
import Derived.Test.YtedfelhjegmhkaaGreatDoorRows
import GoSem.ClaimSeven
namespace Go.Proofs.YtedfelhjegmhkaaGreatDoor
namespace Rows

/-- THE TIED CARD OF 'dapplelaw22.ModelNumbers'. -/
def modelNumbersCard : Claim7 := { stood := { row := modelNumbersRow, standIns := [], harness := (true, "35503d3dd9b9f3f83a1e2ff32666272d7875966cf832e2a606e159a81849f5bc"), looks := true }, kinds := [], alts := [], laidByText := true, laidKinds := [.data, .data], laidTests := true, laidLooks := .later }
def ModelNumbersCardSaid : Prop := Claim7.holds Tryz.pinned (.plain (OpenSpec.ofChange modelNumbersSpec)) modelNumbersCard

/-- THE TIED CARD OF 'dapplelaw22.ModelOrder'. -/
def modelOrderCard : Claim7 := { stood := { row := modelOrderRow, standIns := [], harness := (true, "35503d3dd9b9f3f83a1e2ff32666272d7875966cf832e2a606e159a81849f5bc"), looks := true }, kinds := [], alts := [], laidByText := true, laidKinds := [.data, .data], laidTests := true, laidLooks := .later }
def ModelOrderCardSaid : Prop := Claim7.holds Tryz.pinned (.plain (OpenSpec.ofChange modelOrderSpec)) modelOrderCard

/-- THE SECOND FORM's CARD OF 'dapplelaw22.ModelNumbers'. -/
def modelNumbersUptoCard : Claim7 := { stood := { row := modelNumbersUptoRow, standIns := [], harness := (true, "35503d3dd9b9f3f83a1e2ff32666272d7875966cf832e2a606e159a81849f5bc"), looks := true }, kinds := [], alts := [], laidByText := true, laidKinds := [.data, .data], laidTests := true, laidLooks := .later }
def ModelNumbersUptoCardSaid : Prop := Claim7.holds Tryz.pinned (.plain (OpenSpec.upto modelNumbersSpec)) modelNumbersUptoCard

/-- THE SECOND FORM's CARD OF 'dapplelaw22.ModelOrder'. -/
def modelOrderUptoCard : Claim7 := { stood := { row := modelOrderUptoRow, standIns := [], harness := (true, "35503d3dd9b9f3f83a1e2ff32666272d7875966cf832e2a606e159a81849f5bc"), looks := true }, kinds := [], alts := [], laidByText := true, laidKinds := [.data, .data], laidTests := true, laidLooks := .later }
def ModelOrderUptoCardSaid : Prop := Claim7.holds Tryz.pinned (.plain (OpenSpec.upto modelOrderSpec)) modelOrderUptoCard
end Rows
end Go.Proofs.YtedfelhjegmhkaaGreatDoor
