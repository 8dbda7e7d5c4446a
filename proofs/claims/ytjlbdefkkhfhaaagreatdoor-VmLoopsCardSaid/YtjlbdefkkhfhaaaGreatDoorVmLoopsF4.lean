/- 25 rounds of VmLoops, run by the abstract machine: one evaluation by the kernel. -/
import Derived.Test.YtjlbdefkkhfhaaaGreatDoorVmLoopsKit
namespace Go.Proofs.YtjlbdefkkhfhaaaGreatDoor.vmLoops
open Go Go.Ab
set_option maxRecDepth 100000
theorem roundsF4 : iterS PP CC (inner (inner (nthC (itemsC PP 5) 17))) 25 n75 n100 = true := by kernel_rfl
end Go.Proofs.YtjlbdefkkhfhaaaGreatDoor.vmLoops
