/- The first piece of VmLoops, run by the abstract machine, twice: one evaluation by the kernel each. -/
import Derived.Test.YtjlbdefkkhfhaaaGreatDoorVmLoopsKit
namespace Go.Proofs.YtjlbdefkkhfhaaaGreatDoor.vmLoops
open Go Go.Ab
set_option maxRecDepth 100000
noncomputable section
theorem fine : fineProg PP = true := by kernel_rfl
theorem more : PP.globals.size < (begin PP (fun _ _ => 0) default).world.heap.size := by decide +kernel
theorem small : PP.globals.size ≤ 4294967296 := by decide +kernel
theorem has5 : hasBody PP 5 = true := by kernel_rfl
theorem has13 : hasBody PP 13 = true := by kernel_rfl
theorem has11 : hasBody PP 11 = true := by kernel_rfl
theorem callers (base : Nat) : COK PP base CC := knotD_ok fine (fun _ hC => dDraw_ok hC) 60
abbrev runC : Code → DAct → Mem → Option Out := dCode PP CC (dDraw PP CC) 1000
/-- the call's entry; the number that came in is n -/
def entry (n : Int) (b : Bool) : Option Out := dList runC (((itemsC PP 5).drop 0).take 14) (DAct.enter (fnOf PP 5).ntmps [.int .i64 n, .bool b]) (laidMem PP Rows.vmLoopsRow.laid)
def entryS (n : Int) (b : Bool) (s : St) : Bool :=
  match entry n b with
  | some (.normal, a1, M1) => a1.junk.isEmpty && weakS PP.globals.size [0] a1 M1 s
  | _ => false
theorem enterF (n : Int) : entryS n false aF = true := by kernel_rfl
theorem enterT (n : Int) : entryS n true aT = true := by kernel_rfl
theorem zeroF (n : Int) : (entry n false).map (fun x => x.2.1.tmp 0) = some (.int .i64 n) := by kernel_rfl
theorem zeroT (n : Int) : (entry n true).map (fun x => x.2.1.tmp 0) = some (.int .i64 n) := by kernel_rfl
end
end Go.Proofs.YtjlbdefkkhfhaaaGreatDoor.vmLoops
