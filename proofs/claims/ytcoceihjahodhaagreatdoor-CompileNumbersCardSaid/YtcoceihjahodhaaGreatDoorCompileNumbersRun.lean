/- The abstract machine runs the law CompileNumbers to 'true': one evaluation by the kernel. -/
import Derived.Test.YtcoceihjahodhaaGreatDoorAbLaid
import Derived.Test.YtcoceihjahodhaaGreatDoorRows
namespace Go.Proofs.YtcoceihjahodhaaGreatDoor.compileNumbers
open Go Go.Ab
set_option maxRecDepth 100000
theorem fine : fineProg Tryz.prog = true := by kernel_rfl
theorem more : Tryz.prog.globals.size < (begin Tryz.prog (fun _ _ => 0) default).world.heap.size := by decide +kernel
theorem small : Tryz.prog.globals.size ≤ 4294967296 := by decide +kernel
theorem runs : isTrue ((knotD Tryz.prog (dDraw Tryz.prog) 1000 100).call 3 #[] (laidMem Tryz.prog Rows.compileNumbersRow.laid)) = true := by kernel_rfl
end Go.Proofs.YtcoceihjahodhaaGreatDoor.compileNumbers
