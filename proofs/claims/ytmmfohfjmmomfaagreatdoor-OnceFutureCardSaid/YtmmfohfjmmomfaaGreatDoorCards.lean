/-
  DERIVED. GIVEN WITH THE SEED: THE CARDS: each row of YtmmfohfjmmomfaaGreatDoorRows.lean that lists a variable, with what it lists TIED to the program's text (the seventh form; the later family's looks); each row that meets fmt, with fmt's text TOLD by the authors' own Lean function (tested against real Go, not proved from fmt's source: count such statements apart). THE CARD IS WHAT COUNTS. Prove the row's statement (the work); the ties are given (YtmmfohfjmmomfaaGreatDoorTie.lean); close each card by the builder's one call (the guide's Derived/Test/ToyasCard.lean, 'card_holds'). Laid BY PROGRAM, IN A SANDBOX (cutbox-door.mjs). By AI agents, Wed Nov 11 2026. No macro, syntax, notation, axiom, sorry.
-/
import Derived.Test.YtmmfohfjmmomfaaGreatDoorRows
import GoSem.ClaimSeven
namespace Go.Proofs.YtmmfohfjmmomfaaGreatDoor
namespace Rows

/-- THE TIED CARD OF 'dapplelaw25.OnceNumbers'. -/
def onceNumbersCard : Claim7 := { stood := { row := onceNumbersRow, standIns := [], harness := (true, "a2797c78263b45280ffddbaf1dd90fe9b3f8f7e8602807664e7aaab8d2d8fabf"), looks := true }, kinds := [], alts := [], goes := true, laidByText := true, laidKinds := [.data, .data], laidTests := true, laidLooks := .later }
def OnceNumbersCardSaid : Prop := Claim7.holds Tryz.pinned (.plain (OpenSpec.ofChange onceNumbersSpec)) onceNumbersCard

/-- THE TIED CARD OF 'dapplelaw25.OnceFuture'. -/
def onceFutureCard : Claim7 := { stood := { row := onceFutureRow, standIns := [], harness := (true, "a2797c78263b45280ffddbaf1dd90fe9b3f8f7e8602807664e7aaab8d2d8fabf"), looks := true }, kinds := [], alts := [], goes := true, laidByText := true, laidKinds := [.data, .data], laidTests := true, laidLooks := .later }
def OnceFutureCardSaid : Prop := Claim7.holds Tryz.pinned (.plain (OpenSpec.ofChange onceFutureSpec)) onceFutureCard

/-- THE TIED CARD OF 'dapplelaw25.OnceCodes'. -/
def onceCodesCard : Claim7 := { stood := { row := onceCodesRow, standIns := [], harness := (true, "a2797c78263b45280ffddbaf1dd90fe9b3f8f7e8602807664e7aaab8d2d8fabf"), looks := true }, kinds := [], alts := [], goes := true, laidByText := true, laidKinds := [.data, .data], laidTests := true, laidLooks := .later }
def OnceCodesCardSaid : Prop := Claim7.holds Tryz.pinned (.plain (OpenSpec.ofChange onceCodesSpec)) onceCodesCard

/-- THE TIED CARD OF 'dapplelaw25.OnceAny'. -/
def onceAnyCard : Claim7 := { stood := { row := onceAnyRow, standIns := [], harness := (true, "a2797c78263b45280ffddbaf1dd90fe9b3f8f7e8602807664e7aaab8d2d8fabf"), looks := true }, kinds := [], alts := [], goes := true, laidByText := true, laidKinds := [.data, .data], laidTests := true, laidLooks := .later }
def OnceAnyCardSaid : Prop := Claim7.holds Tryz.pinned (.plain (OpenSpec.ofChange onceAnySpec)) onceAnyCard

/-- THE TIED CARD OF 'dapplelaw25.OnceMade'. -/
def onceMadeCard : Claim7 := { stood := { row := onceMadeRow, standIns := [], harness := (true, "a2797c78263b45280ffddbaf1dd90fe9b3f8f7e8602807664e7aaab8d2d8fabf"), looks := true }, kinds := [], alts := [], goes := true, laidByText := true, laidKinds := [.data, .data], laidTests := true, laidLooks := .later }
def OnceMadeCardSaid : Prop := Claim7.holds Tryz.pinned (.plain (OpenSpec.ofChange onceMadeSpec)) onceMadeCard
end Rows
end Go.Proofs.YtmmfohfjmmomfaaGreatDoor
