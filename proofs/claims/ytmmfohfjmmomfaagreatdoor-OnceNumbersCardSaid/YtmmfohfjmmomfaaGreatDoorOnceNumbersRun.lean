/- The abstract machine runs the law OnceNumbers to 'true', the function works being told by its contract: one evaluation by the kernel. -/
import Derived.Test.YtmmfohfjmmomfaaGreatDoorWorks
namespace Go.Proofs.YtmmfohfjmmomfaaGreatDoor
open Go Go.Ab
set_option maxRecDepth 100000
noncomputable abbrev CW : Callers := told 8 (.bool true) wG CC
theorem onceNumbers_runs : isTrue (dBody PP CW (dDraw PP CW) 1000 3 #[] (laidMem PP Rows.onceNumbersRow.laid)) = true := by kernel_rfl
end Go.Proofs.YtmmfohfjmmomfaaGreatDoor
