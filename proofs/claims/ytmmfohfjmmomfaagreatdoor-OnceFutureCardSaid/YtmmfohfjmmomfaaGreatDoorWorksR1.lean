/- A piece of a function, run by the abstract machine: one evaluation by the kernel. -/
import Derived.Test.YtmmfohfjmmomfaaGreatDoorWorksSt
namespace Go.Proofs.YtmmfohfjmmomfaaGreatDoor
open Go Go.Ab
set_option maxRecDepth 100000
theorem works1 : firstS PP runC (((itemsC PP 8).drop 0).take 5) (DAct.enter (fnOf PP 8).ntmps []) (globMem PP wG) w1 = true := by kernel_rfl
end Go.Proofs.YtmmfohfjmmomfaaGreatDoor
