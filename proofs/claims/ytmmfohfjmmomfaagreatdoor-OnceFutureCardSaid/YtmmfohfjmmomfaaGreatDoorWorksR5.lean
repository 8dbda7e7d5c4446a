/- The last piece of a function, run by the abstract machine: one evaluation by the kernel. -/
import Derived.Test.YtmmfohfjmmomfaaGreatDoorWorksSt
namespace Go.Proofs.YtmmfohfjmmomfaaGreatDoor
open Go Go.Ab
set_option maxRecDepth 100000
theorem works5 : endS PP CC runC ((itemsC PP 8).drop 8) (fnOf PP 8) (.bool true) w4.act w4.mem = true := by kernel_rfl
end Go.Proofs.YtmmfohfjmmomfaaGreatDoor
