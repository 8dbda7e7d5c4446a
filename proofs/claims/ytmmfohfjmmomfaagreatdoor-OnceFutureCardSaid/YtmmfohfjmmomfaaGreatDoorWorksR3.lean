/- A piece of a function, run by the abstract machine: one evaluation by the kernel. -/
import Derived.Test.YtmmfohfjmmomfaaGreatDoorWorksSt
namespace Go.Proofs.YtmmfohfjmmomfaaGreatDoor
open Go Go.Ab
set_option maxRecDepth 100000
theorem works3 : stepS PP runC (((itemsC PP 8).drop 6).take 1) w2 w3 = true := by kernel_rfl
end Go.Proofs.YtmmfohfjmmomfaaGreatDoor
