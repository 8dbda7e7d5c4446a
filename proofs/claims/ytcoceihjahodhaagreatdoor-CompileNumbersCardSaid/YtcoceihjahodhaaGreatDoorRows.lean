/-
  NARROWER THAN 'FOR EVERY INPUT', by the rows' own cells (each row's printed sentence says how): CompileNumbers: laid · CompileMore: loops, laid · CompileTails: laid · CompileDoes: loops, laid · CompileMeans: loops, laid · CompileTables: loops, laid.
  DERIVED. THE GIVEN ROWS OF THIS SEAT. 6 by the template 'for every input the law returns true; each argument reads behind the call as it read before'; 0 by the template 'total and deterministic' (their statements: YtcoceihjahodhaaGreatDoorTotals.lean).
  GIVEN WITH THE SEED: the statements are not yours to turn. If you find one false, say at which input.
  Laid BY PROGRAM, IN A SANDBOX (cutbox-rows.mjs): the forced cells as the released guide's own fill.sh prints them over the translation a1a402df629e3b22… (all of the seat's roots in one cut). By AI agents, Wed Nov 11 2026. No macro, syntax, notation, axiom, sorry.
-/
import Derived.Test.YtcoceihjahodhaaGreatDoorChecked
import GoSem.Claim
import GoSem.ClaimJoined
import GoSem.ClaimMapViews
import Derived.JoinedTies
import Derived.KernelRfl
namespace Go.Proofs.YtcoceihjahodhaaGreatDoor
/- THE CELL 'sum', in the pinned program and in every row, IS THE sha256 OF THE DUMP (.gsa) THAT YtcoceihjahodhaaGreatDoorProg.lean LOADS. Nothing in Lean hashes anything: it is a label: what it is worth is what the hold of that sum in a sandbox is worth. -/
noncomputable def Tryz.pinned : Pinned := { name := "ytcoceihjahodhaagreatdoor", sum := "a1a402df629e3b2204b094d1e04d6c485638261979d9d1fc50c15637bebb6d7f", checked := Tryz.checked }
namespace Rows
def none {H : Type} : Left H := { results := [], args := [] }

/- WHAT THE LISTED PACKAGE-LEVEL VARIABLES READ AS WHEN THE CALL BEGINS. Each datum BY PROGRAM (the guide's laid-datum.mjs) off the statement by which the dump's own 'gosem.cut.vars' lays the variable. In a bare row this is a premise. The card (YtcoceihjahodhaaGreatDoorCards.lean) ties it to the program's text. -/
def laid_dapple_words_bounds {H : Type} : DataW H := .agg [.agg [.lit (.int .i64 0), .lit (.int .i64 0)], .agg [.lit (.int .i64 0), .lit (.int .i64 0)], .agg [.lit (.int .i64 0), .lit (.int .i64 0)], .agg [.lit (.int .i64 0), .lit (.int .i64 0)], .agg [.lit (.int .i64 0), .lit (.int .i64 0)], .agg [.lit (.int .i64 (-576460752303423488)), .lit (.int .i64 576460752303423487)], .agg [.lit (.int .i64 0), .lit (.int .i64 2147483647)], .agg [.lit (.int .i64 1), .lit (.int .i64 22)], .agg [.lit (.int .i64 0), .lit (.int .i64 2147483647)]]
def laid_dapple_code_takes {H : Type} : DataW H := .agg [.lit (.int .i64 0), .lit (.int .i64 2), .lit (.int .i64 1), .lit (.int .i64 1), .lit (.int .i64 2), .lit (.int .i64 2), .lit (.int .i64 1), .lit (.int .i64 1), .lit (.int .i64 2), .lit (.int .i64 3), .lit (.int .i64 2), .lit (.int .i64 2), .lit (.int .i64 1), .lit (.int .i64 1), .lit (.int .i64 1), .lit (.int .i64 2), .lit (.int .i64 2), .lit (.int .i64 2), .lit (.int .i64 2), .lit (.int .i64 2), .lit (.int .i64 2), .lit (.int .i64 1), .lit (.int .i64 1)]

/-- 'dapplelaw09.CompileNumbers': WHATEVER THE INPUT: true; the input reads as it did. -/
def compileNumbersSpec : ChangeSpec := { name := "compileNumbers", fn := fun _ => fun
  | [] => { results := [.lit (.bool true)], args := [] }
  | _ => none }
def compileNumbersRow : OpenClaim := { program := "ytcoceihjahodhaagreatdoor", sum := "a1a402df629e3b2204b094d1e04d6c485638261979d9d1fc50c15637bebb6d7f", func := "dapple/dapplelaw09.CompileNumbers", spec := "compileNumbers", inPlace := ["sync/atomic.StorePointer", "sync/atomic.LoadPointer", "maps.clone", "sync/atomic.CompareAndSwapPointer"], unfollowed := true, recurses := true, named := ["dapple/words.bounds", "dapple/code.takes"], apart := false, laid := [("dapple/words.bounds", laid_dapple_words_bounds), ("dapple/code.takes", laid_dapple_code_takes)] }
def CompileNumbersSaid : Prop := compileNumbersRow.holds Tryz.pinned (OpenSpec.ofChange compileNumbersSpec)

/-- ITS FALSE NEIGHBOUR: 'it returns false'. Refute it at one input. -/
def compileNumbersWrong : ChangeSpec := { name := "compileNumbers", fn := fun _ => fun
  | [] => { results := [.lit (.bool false)], args := [] }
  | _ => none }
def CompileNumbersWrongFalsely : Prop := compileNumbersRow.holds Tryz.pinned (OpenSpec.ofChange compileNumbersWrong)

/-- 'dapplelaw09.CompileMore': WHATEVER THE INPUT: true; the input reads as it did. -/
def compileMoreSpec : ChangeSpec := { name := "compileMore", fn := fun _ => fun
  | [d1, d2] => { results := [.lit (.bool true)], args := [d1, d2] }
  | _ => none }
def compileMoreRow : OpenClaim := { program := "ytcoceihjahodhaagreatdoor", sum := "a1a402df629e3b2204b094d1e04d6c485638261979d9d1fc50c15637bebb6d7f", func := "dapple/dapplelaw09.CompileMore", spec := "compileMore", inPlace := ["sync/atomic.StorePointer", "sync/atomic.LoadPointer", "maps.clone", "sync/atomic.CompareAndSwapPointer"], unfollowed := true, recurses := true, named := ["dapple/words.bounds", "dapple/code.takes"], loops := true, apart := false, laid := [("dapple/words.bounds", laid_dapple_words_bounds), ("dapple/code.takes", laid_dapple_code_takes)] }
def CompileMoreSaid : Prop := compileMoreRow.holds Tryz.pinned (OpenSpec.ofChange compileMoreSpec)

/-- ITS FALSE NEIGHBOUR: 'it returns false'. Refute it at one input. -/
def compileMoreWrong : ChangeSpec := { name := "compileMore", fn := fun _ => fun
  | [d1, d2] => { results := [.lit (.bool false)], args := [d1, d2] }
  | _ => none }
def CompileMoreWrongFalsely : Prop := compileMoreRow.holds Tryz.pinned (OpenSpec.ofChange compileMoreWrong)

/-- 'dapplelaw09.CompileTails': WHATEVER THE INPUT: true; the input reads as it did. -/
def compileTailsSpec : ChangeSpec := { name := "compileTails", fn := fun _ => fun
  | [d1, d2] => { results := [.lit (.bool true)], args := [d1, d2] }
  | _ => none }
def compileTailsRow : OpenClaim := { program := "ytcoceihjahodhaagreatdoor", sum := "a1a402df629e3b2204b094d1e04d6c485638261979d9d1fc50c15637bebb6d7f", func := "dapple/dapplelaw09.CompileTails", spec := "compileTails", inPlace := ["sync/atomic.StorePointer", "sync/atomic.LoadPointer", "maps.clone", "sync/atomic.CompareAndSwapPointer"], unfollowed := true, recurses := true, named := ["dapple/words.bounds", "dapple/code.takes"], apart := false, laid := [("dapple/words.bounds", laid_dapple_words_bounds), ("dapple/code.takes", laid_dapple_code_takes)] }
def CompileTailsSaid : Prop := compileTailsRow.holds Tryz.pinned (OpenSpec.ofChange compileTailsSpec)

/-- ITS FALSE NEIGHBOUR: 'it returns false'. Refute it at one input. -/
def compileTailsWrong : ChangeSpec := { name := "compileTails", fn := fun _ => fun
  | [d1, d2] => { results := [.lit (.bool false)], args := [d1, d2] }
  | _ => none }
def CompileTailsWrongFalsely : Prop := compileTailsRow.holds Tryz.pinned (OpenSpec.ofChange compileTailsWrong)

/-- 'dapplelaw09.CompileDoes': WHATEVER THE INPUT: true; the input reads as it did. -/
def compileDoesSpec : ChangeSpec := { name := "compileDoes", fn := fun _ => fun
  | [d1, d2] => { results := [.lit (.bool true)], args := [d1, d2] }
  | _ => none }
def compileDoesRow : OpenClaim := { program := "ytcoceihjahodhaagreatdoor", sum := "a1a402df629e3b2204b094d1e04d6c485638261979d9d1fc50c15637bebb6d7f", func := "dapple/dapplelaw09.CompileDoes", spec := "compileDoes", inPlace := ["sync/atomic.StorePointer", "sync/atomic.LoadPointer", "maps.clone", "sync/atomic.CompareAndSwapPointer"], unfollowed := true, recurses := true, named := ["dapple/words.bounds", "dapple/code.takes"], loops := true, apart := false, laid := [("dapple/words.bounds", laid_dapple_words_bounds), ("dapple/code.takes", laid_dapple_code_takes)] }
def CompileDoesSaid : Prop := compileDoesRow.holds Tryz.pinned (OpenSpec.ofChange compileDoesSpec)

/-- ITS FALSE NEIGHBOUR: 'it returns false'. Refute it at one input. -/
def compileDoesWrong : ChangeSpec := { name := "compileDoes", fn := fun _ => fun
  | [d1, d2] => { results := [.lit (.bool false)], args := [d1, d2] }
  | _ => none }
def CompileDoesWrongFalsely : Prop := compileDoesRow.holds Tryz.pinned (OpenSpec.ofChange compileDoesWrong)

/-- 'dapplelaw09.CompileMeans': WHATEVER THE INPUT: true; the input reads as it did. -/
def compileMeansSpec : ChangeSpec := { name := "compileMeans", fn := fun _ => fun
  | [d] => { results := [.lit (.bool true)], args := [d] }
  | _ => none }
def compileMeansRow : OpenClaim := { program := "ytcoceihjahodhaagreatdoor", sum := "a1a402df629e3b2204b094d1e04d6c485638261979d9d1fc50c15637bebb6d7f", func := "dapple/dapplelaw09.CompileMeans", spec := "compileMeans", inPlace := ["sync/atomic.StorePointer", "sync/atomic.LoadPointer", "maps.clone", "sync/atomic.CompareAndSwapPointer"], unfollowed := true, recurses := true, named := ["dapple/words.bounds", "dapple/code.takes"], loops := true, apart := false, laid := [("dapple/words.bounds", laid_dapple_words_bounds), ("dapple/code.takes", laid_dapple_code_takes)] }
def CompileMeansSaid : Prop := compileMeansRow.holds Tryz.pinned (OpenSpec.ofChange compileMeansSpec)

/-- ITS FALSE NEIGHBOUR: 'it returns false'. Refute it at one input. -/
def compileMeansWrong : ChangeSpec := { name := "compileMeans", fn := fun _ => fun
  | [d] => { results := [.lit (.bool false)], args := [d] }
  | _ => none }
def CompileMeansWrongFalsely : Prop := compileMeansRow.holds Tryz.pinned (OpenSpec.ofChange compileMeansWrong)

/-- 'dapplelaw09.CompileTables': WHATEVER THE INPUT: true; the input reads as it did. -/
def compileTablesSpec : ChangeSpec := { name := "compileTables", fn := fun _ => fun
  | [d1, d2] => { results := [.lit (.bool true)], args := [d1, d2] }
  | _ => none }
def compileTablesRow : OpenClaim := { program := "ytcoceihjahodhaagreatdoor", sum := "a1a402df629e3b2204b094d1e04d6c485638261979d9d1fc50c15637bebb6d7f", func := "dapple/dapplelaw09.CompileTables", spec := "compileTables", inPlace := ["sync/atomic.StorePointer", "sync/atomic.LoadPointer", "maps.clone", "sync/atomic.CompareAndSwapPointer"], unfollowed := true, recurses := true, named := ["dapple/words.bounds", "dapple/code.takes"], loops := true, apart := false, laid := [("dapple/words.bounds", laid_dapple_words_bounds), ("dapple/code.takes", laid_dapple_code_takes)] }
def CompileTablesSaid : Prop := compileTablesRow.holds Tryz.pinned (OpenSpec.ofChange compileTablesSpec)

/-- ITS FALSE NEIGHBOUR: 'it returns false'. Refute it at one input. -/
def compileTablesWrong : ChangeSpec := { name := "compileTables", fn := fun _ => fun
  | [d1, d2] => { results := [.lit (.bool false)], args := [d1, d2] }
  | _ => none }
def CompileTablesWrongFalsely : Prop := compileTablesRow.holds Tryz.pinned (OpenSpec.ofChange compileTablesWrong)

/- THE SECOND FORM. 'bulk': how many values and letters a reading holds, each counted each time it is reached (what is shared counts as often as it is met; a slice's spare places count too). A statement '..UptoSaid' is the law's where the arguments, and the package variables that the reading takes, are together of bulk at most 1048576: NARROWER than '..Said'. Prove '..Said' where nothing that the law and all that it calls make is longer than what came in: it says more and counts as full. Else prove '..UptoSaid'. A law counts once. -/
mutual
def uptoBulk {H : Type} : DataW H → Nat
  | .lit (.string bytes) => bytes.length + 1
  | .lit _ => 1
  | .nil => 1
  | .ptr d => uptoBulk d + 1
  | .slice elems spare => uptoBulkAll elems + uptoBulkAll spare + 1
  | .agg parts => uptoBulkAll parts + 1
  | .iface _ d => uptoBulk d + 1
  | .map entries => uptoBulkEntries entries + 1
  | .held _ => 1
def uptoBulkAll {H : Type} : List (DataW H) → Nat
  | [] => 0
  | d :: r => uptoBulk d + uptoBulkAll r
def uptoBulkEntries {H : Type} : List (Lit × DataW H) → Nat
  | [] => 0
  | x :: r => uptoBulkEntry x + uptoBulkEntries r
def uptoBulkEntry {H : Type} : Lit × DataW H → Nat
  | (.string bytes, d) => bytes.length + uptoBulk d + 1
  | (_, d) => uptoBulk d + 1
 end
def uptoSmall : (H : Type) → List (DataW H) → Bool := fun _ ds => decide (uptoBulkAll ds ≤ 1048576)
def OpenSpec.upto (s : _root_.Go.ChangeSpec) : _root_.Go.OpenSpec := { _root_.Go.OpenSpec.ofChange s with cond := some uptoSmall }

/-- 'dapplelaw09.CompileNumbers', WHERE WHAT IT READS IS OF BULK AT MOST 1048576: true; the input reads as it did. -/
def compileNumbersUptoRow : OpenClaim := { program := "ytcoceihjahodhaagreatdoor", sum := "a1a402df629e3b2204b094d1e04d6c485638261979d9d1fc50c15637bebb6d7f", func := "dapple/dapplelaw09.CompileNumbers", spec := "compileNumbers", inPlace := ["sync/atomic.StorePointer", "sync/atomic.LoadPointer", "maps.clone", "sync/atomic.CompareAndSwapPointer"], unfollowed := true, recurses := true, named := ["dapple/words.bounds", "dapple/code.takes"], apart := false, laid := [("dapple/words.bounds", laid_dapple_words_bounds), ("dapple/code.takes", laid_dapple_code_takes)], narrowed := true }
def CompileNumbersUptoSaid : Prop := compileNumbersUptoRow.holds Tryz.pinned (OpenSpec.upto compileNumbersSpec)

/-- 'dapplelaw09.CompileMore', WHERE WHAT IT READS IS OF BULK AT MOST 1048576: true; the input reads as it did. -/
def compileMoreUptoRow : OpenClaim := { program := "ytcoceihjahodhaagreatdoor", sum := "a1a402df629e3b2204b094d1e04d6c485638261979d9d1fc50c15637bebb6d7f", func := "dapple/dapplelaw09.CompileMore", spec := "compileMore", inPlace := ["sync/atomic.StorePointer", "sync/atomic.LoadPointer", "maps.clone", "sync/atomic.CompareAndSwapPointer"], unfollowed := true, recurses := true, named := ["dapple/words.bounds", "dapple/code.takes"], loops := true, apart := false, laid := [("dapple/words.bounds", laid_dapple_words_bounds), ("dapple/code.takes", laid_dapple_code_takes)], narrowed := true }
def CompileMoreUptoSaid : Prop := compileMoreUptoRow.holds Tryz.pinned (OpenSpec.upto compileMoreSpec)

/-- 'dapplelaw09.CompileTails', WHERE WHAT IT READS IS OF BULK AT MOST 1048576: true; the input reads as it did. -/
def compileTailsUptoRow : OpenClaim := { program := "ytcoceihjahodhaagreatdoor", sum := "a1a402df629e3b2204b094d1e04d6c485638261979d9d1fc50c15637bebb6d7f", func := "dapple/dapplelaw09.CompileTails", spec := "compileTails", inPlace := ["sync/atomic.StorePointer", "sync/atomic.LoadPointer", "maps.clone", "sync/atomic.CompareAndSwapPointer"], unfollowed := true, recurses := true, named := ["dapple/words.bounds", "dapple/code.takes"], apart := false, laid := [("dapple/words.bounds", laid_dapple_words_bounds), ("dapple/code.takes", laid_dapple_code_takes)], narrowed := true }
def CompileTailsUptoSaid : Prop := compileTailsUptoRow.holds Tryz.pinned (OpenSpec.upto compileTailsSpec)

/-- 'dapplelaw09.CompileDoes', WHERE WHAT IT READS IS OF BULK AT MOST 1048576: true; the input reads as it did. -/
def compileDoesUptoRow : OpenClaim := { program := "ytcoceihjahodhaagreatdoor", sum := "a1a402df629e3b2204b094d1e04d6c485638261979d9d1fc50c15637bebb6d7f", func := "dapple/dapplelaw09.CompileDoes", spec := "compileDoes", inPlace := ["sync/atomic.StorePointer", "sync/atomic.LoadPointer", "maps.clone", "sync/atomic.CompareAndSwapPointer"], unfollowed := true, recurses := true, named := ["dapple/words.bounds", "dapple/code.takes"], loops := true, apart := false, laid := [("dapple/words.bounds", laid_dapple_words_bounds), ("dapple/code.takes", laid_dapple_code_takes)], narrowed := true }
def CompileDoesUptoSaid : Prop := compileDoesUptoRow.holds Tryz.pinned (OpenSpec.upto compileDoesSpec)

/-- 'dapplelaw09.CompileMeans', WHERE WHAT IT READS IS OF BULK AT MOST 1048576: true; the input reads as it did. -/
def compileMeansUptoRow : OpenClaim := { program := "ytcoceihjahodhaagreatdoor", sum := "a1a402df629e3b2204b094d1e04d6c485638261979d9d1fc50c15637bebb6d7f", func := "dapple/dapplelaw09.CompileMeans", spec := "compileMeans", inPlace := ["sync/atomic.StorePointer", "sync/atomic.LoadPointer", "maps.clone", "sync/atomic.CompareAndSwapPointer"], unfollowed := true, recurses := true, named := ["dapple/words.bounds", "dapple/code.takes"], loops := true, apart := false, laid := [("dapple/words.bounds", laid_dapple_words_bounds), ("dapple/code.takes", laid_dapple_code_takes)], narrowed := true }
def CompileMeansUptoSaid : Prop := compileMeansUptoRow.holds Tryz.pinned (OpenSpec.upto compileMeansSpec)

/-- 'dapplelaw09.CompileTables', WHERE WHAT IT READS IS OF BULK AT MOST 1048576: true; the input reads as it did. -/
def compileTablesUptoRow : OpenClaim := { program := "ytcoceihjahodhaagreatdoor", sum := "a1a402df629e3b2204b094d1e04d6c485638261979d9d1fc50c15637bebb6d7f", func := "dapple/dapplelaw09.CompileTables", spec := "compileTables", inPlace := ["sync/atomic.StorePointer", "sync/atomic.LoadPointer", "maps.clone", "sync/atomic.CompareAndSwapPointer"], unfollowed := true, recurses := true, named := ["dapple/words.bounds", "dapple/code.takes"], loops := true, apart := false, laid := [("dapple/words.bounds", laid_dapple_words_bounds), ("dapple/code.takes", laid_dapple_code_takes)], narrowed := true }
def CompileTablesUptoSaid : Prop := compileTablesUptoRow.holds Tryz.pinned (OpenSpec.upto compileTablesSpec)

end Rows
end Go.Proofs.YtcoceihjahodhaaGreatDoor
