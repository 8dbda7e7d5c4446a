/-
  NARROWER THAN 'FOR EVERY INPUT', by the rows' own cells (each row's printed sentence says how): ModelNumbers: laid · ModelOrder: laid.
  DERIVED. THE GIVEN ROWS OF THIS SEAT. 2 by the template 'for every input the law returns true; each argument reads behind the call as it read before'; 0 by the template 'total and deterministic' (their statements: YtedfelhjegmhkaaGreatDoorTotals.lean).
  GIVEN WITH THE SEED: the statements are not yours to turn. If you find one false, say at which input.
  Laid BY PROGRAM, IN A SANDBOX (cutbox-rows.mjs): the forced cells as the released guide's own fill.sh prints them over the translation b8d53ee61c392a5a… (all of the seat's roots in one cut). By AI agents, Wed Nov 11 2026. No macro, syntax, notation, axiom, sorry.
-/
import Derived.Test.YtedfelhjegmhkaaGreatDoorChecked
import GoSem.Claim
import GoSem.ClaimJoined
import GoSem.ClaimMapViews
import Derived.JoinedTies
import Derived.KernelRfl
namespace Go.Proofs.YtedfelhjegmhkaaGreatDoor
/- THE CELL 'sum', in the pinned program and in every row, IS THE sha256 OF THE DUMP (.gsa) THAT YtedfelhjegmhkaaGreatDoorProg.lean LOADS. Nothing in Lean hashes anything: it is a label: what it is worth is what the hold of that sum in a sandbox is worth. -/
noncomputable def Tryz.pinned : Pinned := { name := "ytedfelhjegmhkaagreatdoor", sum := "b8d53ee61c392a5a37c4338207d637b35d59fae7b8be5a15e564bbf6eedef086", checked := Tryz.checked }
namespace Rows
def none {H : Type} : Left H := { results := [], args := [] }

/- WHAT THE LISTED PACKAGE-LEVEL VARIABLES READ AS WHEN THE CALL BEGINS. Each datum BY PROGRAM (the guide's laid-datum.mjs) off the statement by which the dump's own 'gosem.cut.vars' lays the variable. In a bare row this is a premise. The card (YtedfelhjegmhkaaGreatDoorCards.lean) ties it to the program's text. -/
def laid_dapple_words_bounds {H : Type} : DataW H := .agg [.agg [.lit (.int .i64 0), .lit (.int .i64 0)], .agg [.lit (.int .i64 0), .lit (.int .i64 0)], .agg [.lit (.int .i64 0), .lit (.int .i64 0)], .agg [.lit (.int .i64 0), .lit (.int .i64 0)], .agg [.lit (.int .i64 0), .lit (.int .i64 0)], .agg [.lit (.int .i64 (-576460752303423488)), .lit (.int .i64 576460752303423487)], .agg [.lit (.int .i64 0), .lit (.int .i64 2147483647)], .agg [.lit (.int .i64 1), .lit (.int .i64 22)], .agg [.lit (.int .i64 0), .lit (.int .i64 2147483647)]]
def laid_dapple_code_takes {H : Type} : DataW H := .agg [.lit (.int .i64 0), .lit (.int .i64 2), .lit (.int .i64 1), .lit (.int .i64 1), .lit (.int .i64 2), .lit (.int .i64 2), .lit (.int .i64 1), .lit (.int .i64 1), .lit (.int .i64 2), .lit (.int .i64 3), .lit (.int .i64 2), .lit (.int .i64 2), .lit (.int .i64 1), .lit (.int .i64 1), .lit (.int .i64 1), .lit (.int .i64 2), .lit (.int .i64 2), .lit (.int .i64 2), .lit (.int .i64 2), .lit (.int .i64 2), .lit (.int .i64 2), .lit (.int .i64 1), .lit (.int .i64 1)]

/-- 'dapplelaw22.ModelNumbers': WHATEVER THE INPUT: true; the input reads as it did. -/
def modelNumbersSpec : ChangeSpec := { name := "modelNumbers", fn := fun _ => fun
  | [] => { results := [.lit (.bool true)], args := [] }
  | _ => none }
def modelNumbersRow : OpenClaim := { program := "ytedfelhjegmhkaagreatdoor", sum := "b8d53ee61c392a5a37c4338207d637b35d59fae7b8be5a15e564bbf6eedef086", func := "dapple/dapplelaw22.ModelNumbers", spec := "modelNumbers", unfollowed := true, recurses := true, named := ["dapple/words.bounds", "dapple/code.takes"], apart := false, laid := [("dapple/words.bounds", laid_dapple_words_bounds), ("dapple/code.takes", laid_dapple_code_takes)] }
def ModelNumbersSaid : Prop := modelNumbersRow.holds Tryz.pinned (OpenSpec.ofChange modelNumbersSpec)

/-- ITS FALSE NEIGHBOUR: 'it returns false'. Refute it at one input. -/
def modelNumbersWrong : ChangeSpec := { name := "modelNumbers", fn := fun _ => fun
  | [] => { results := [.lit (.bool false)], args := [] }
  | _ => none }
def ModelNumbersWrongFalsely : Prop := modelNumbersRow.holds Tryz.pinned (OpenSpec.ofChange modelNumbersWrong)

/-- 'dapplelaw22.ModelOrder': WHATEVER THE INPUT: true; the input reads as it did. -/
def modelOrderSpec : ChangeSpec := { name := "modelOrder", fn := fun _ => fun
  | [d1, d2, d3, d4] => { results := [.lit (.bool true)], args := [d1, d2, d3, d4] }
  | _ => none }
def modelOrderRow : OpenClaim := { program := "ytedfelhjegmhkaagreatdoor", sum := "b8d53ee61c392a5a37c4338207d637b35d59fae7b8be5a15e564bbf6eedef086", func := "dapple/dapplelaw22.ModelOrder", spec := "modelOrder", unfollowed := true, recurses := true, named := ["dapple/words.bounds", "dapple/code.takes"], apart := false, laid := [("dapple/words.bounds", laid_dapple_words_bounds), ("dapple/code.takes", laid_dapple_code_takes)] }
def ModelOrderSaid : Prop := modelOrderRow.holds Tryz.pinned (OpenSpec.ofChange modelOrderSpec)

/-- ITS FALSE NEIGHBOUR: 'it returns false'. Refute it at one input. -/
def modelOrderWrong : ChangeSpec := { name := "modelOrder", fn := fun _ => fun
  | [d1, d2, d3, d4] => { results := [.lit (.bool false)], args := [d1, d2, d3, d4] }
  | _ => none }
def ModelOrderWrongFalsely : Prop := modelOrderRow.holds Tryz.pinned (OpenSpec.ofChange modelOrderWrong)

/- THE SECOND FORM. 'bulk': how many values and letters a reading holds, each counted each time it is reached (what is shared counts as often as it is met; a slice's spare places count too). A statement '..UptoSaid' is the law's where the arguments, and the package variables that the reading takes, are together of bulk at most 1048576: NARROWER than '..Said'. Prove '..Said' where nothing that the law and all that it calls make is longer than what came in: it says more and counts as full. Else prove '..UptoSaid'. A law counts once. -/
mutual
def uptoBulk {H : Type} : DataW H → Nat
  | .lit (.string bytes) => bytes.length + 1
  | .lit _ => 1
  | .nil => 1
  | .ptr d => uptoBulk d + 1
  | .slice elems spare => uptoBulkAll elems + uptoBulkAll spare + 1
  | .agg parts => uptoBulkAll parts + 1
  | .iface _ d => uptoBulk d + 1
  | .map entries => uptoBulkEntries entries + 1
  | .held _ => 1
def uptoBulkAll {H : Type} : List (DataW H) → Nat
  | [] => 0
  | d :: r => uptoBulk d + uptoBulkAll r
def uptoBulkEntries {H : Type} : List (Lit × DataW H) → Nat
  | [] => 0
  | x :: r => uptoBulkEntry x + uptoBulkEntries r
def uptoBulkEntry {H : Type} : Lit × DataW H → Nat
  | (.string bytes, d) => bytes.length + uptoBulk d + 1
  | (_, d) => uptoBulk d + 1
 end
def uptoSmall : (H : Type) → List (DataW H) → Bool := fun _ ds => decide (uptoBulkAll ds ≤ 1048576)
def OpenSpec.upto (s : _root_.Go.ChangeSpec) : _root_.Go.OpenSpec := { _root_.Go.OpenSpec.ofChange s with cond := some uptoSmall }

/-- 'dapplelaw22.ModelNumbers', WHERE WHAT IT READS IS OF BULK AT MOST 1048576: true; the input reads as it did. -/
def modelNumbersUptoRow : OpenClaim := { program := "ytedfelhjegmhkaagreatdoor", sum := "b8d53ee61c392a5a37c4338207d637b35d59fae7b8be5a15e564bbf6eedef086", func := "dapple/dapplelaw22.ModelNumbers", spec := "modelNumbers", unfollowed := true, recurses := true, named := ["dapple/words.bounds", "dapple/code.takes"], apart := false, laid := [("dapple/words.bounds", laid_dapple_words_bounds), ("dapple/code.takes", laid_dapple_code_takes)], narrowed := true }
def ModelNumbersUptoSaid : Prop := modelNumbersUptoRow.holds Tryz.pinned (OpenSpec.upto modelNumbersSpec)

/-- 'dapplelaw22.ModelOrder', WHERE WHAT IT READS IS OF BULK AT MOST 1048576: true; the input reads as it did. -/
def modelOrderUptoRow : OpenClaim := { program := "ytedfelhjegmhkaagreatdoor", sum := "b8d53ee61c392a5a37c4338207d637b35d59fae7b8be5a15e564bbf6eedef086", func := "dapple/dapplelaw22.ModelOrder", spec := "modelOrder", unfollowed := true, recurses := true, named := ["dapple/words.bounds", "dapple/code.takes"], apart := false, laid := [("dapple/words.bounds", laid_dapple_words_bounds), ("dapple/code.takes", laid_dapple_code_takes)], narrowed := true }
def ModelOrderUptoSaid : Prop := modelOrderUptoRow.holds Tryz.pinned (OpenSpec.upto modelOrderSpec)

end Rows
end Go.Proofs.YtedfelhjegmhkaaGreatDoor
