/- VmLoops, piece by piece: what the abstract machine says of each piece of the rounds whose number is open; evaluated by the kernel. -/
import Derived.Test.YtjlbdefkkhfhaaaGreatDoorVmLoopsKit
namespace Go.Proofs.YtjlbdefkkhfhaaaGreatDoor.vmLoops
open Go Go.Ab
set_option maxRecDepth 100000
noncomputable section
def LB : Code := inner (inner (nthC (itemsC PP 5) 17))
def LP : List Code := flatC LB
def R17 : Array Oper := reg (nthC LP 0)
def C19 : Code := nthC LP 2
def C18 : Code := nthC LP 3
def R14 : Array Oper := reg (nthC (itemsC PP 5) 14)
theorem loopShape : (itemsC PP 5).drop 17 = .block 0 (.loop LB) :: (itemsC PP 5).drop 18 := by kernel_rfl
theorem pickShape : (itemsC PP 5).drop 14 = .region (regId (nthC (itemsC PP 5) 14)) R14 false :: (itemsC PP 5).drop 15 := by kernel_rfl
theorem lpShape : LP = [.region (regId (nthC LP 0)) R17 false, .cond (.tmp 70) .skip (.exit 0), C19, C18] := by kernel_rfl
theorem fineLB : fineCode PP LB = true := by kernel_rfl
theorem fine17 : R17.toList.all (fineOper PP) = true := by kernel_rfl
theorem fine14 : R14.toList.all (fineOper PP) = true := by kernel_rfl
theorem fine19 : fineCode PP C19 = true := by kernel_rfl
theorem fine18 : fineCode PP C18 = true := by kernel_rfl
theorem size17 : R17.size = 3 := by kernel_rfl
theorem size14 : R14.size = 4 := by kernel_rfl
theorem op17_2 : R17[2]? = some (opAt R17 2) ∧ (opAt R17 2).dst = some 70 ∧ isLss (opAt R17 2) 68 69 = true := by refine ⟨?_, ?_, ?_⟩ <;> kernel_rfl
theorem op14_1 : R14[1]? = some (opAt R14 1) ∧ (opAt R14 1).dst = some 65 ∧ fineOper PP (opAt R14 1) = true := by refine ⟨?_, ?_, ?_⟩ <;> kernel_rfl

section
variable (s : St) (k : Int)
def a0 : DAct × Mem := byHand (s.act, s.mem) 16 (.int .i64 k)
def a1 : DAct × Mem := segD PP CC R17 0 2 (a0 s k)
def a2 : DAct × Mem := byHand (a1 s k) 70 (.bool true)
def a3 : DAct × Mem := runD PP CC C19 (a2 s k)
def a4 : DAct × Mem := runD PP CC C18 (a3 s k)
def x2 : DAct × Mem := byHand (a1 s k) 70 (.bool false)
end
structure Heads (s : St) (k : Int) : Prop where
  i0 : s.act.tmp 16 = .complex .f32 0 501
  c0 : s.act.junk.isEmpty = true
  ok1 : segOK PP CC R17 0 2 (a0 s k) = true
  k1 : (a1 s k).1.tmp 68 = .int .i64 k
  r1 : (a1 s k).1.tmp 69 = .complex .f32 200 500
  c1 : calmA (a1 s k) = true
  w1 : wantedD R17 (a1 s k).1 (opAt R17 2) = true
structure Goes (s s' : St) (k : Int) : Prop where
  t2 : (a2 s k).1.tmp 70 = .bool true
  c2 : calmA (a2 s k) = true
  ok3 : runOK PP CC C19 (a2 s k) = true
  ok4 : runOK PP CC C18 (a3 s k) = true
  k4 : (a4 s k).1.tmp 16 = .int .i64 (IntKind.wrap .i64 (k + 1))
  c4 : calmA (a4 s k) = true
  weak : weakS PP.globals.size [16] (a4 s k).1 (a4 s k).2 s' = true
  i4 : s'.act.tmp 16 = .complex .f32 0 501
structure Ends (s j : St) (k : Int) : Prop where
  t2 : (x2 s k).1.tmp 70 = .bool false
  c2 : calmA (x2 s k) = true
  first : firstS PP (dCode PP CC (dDraw PP CC) 1000) (((itemsC PP 5).drop 18).take 8) (x2 s k).1 (x2 s k).2 j = true
theorem headsN (k : Int) : Heads n200 k := by refine ⟨?_, ?_, ?_, ?_, ?_, ?_, ?_⟩ <;> kernel_rfl
theorem heads0 (k : Int) : Heads t0 k := by refine ⟨?_, ?_, ?_, ?_, ?_, ?_, ?_⟩ <;> kernel_rfl
theorem heads1 (k : Int) : Heads t1 k := by refine ⟨?_, ?_, ?_, ?_, ?_, ?_, ?_⟩ <;> kernel_rfl
theorem heads2 (k : Int) : Heads t2 k := by refine ⟨?_, ?_, ?_, ?_, ?_, ?_, ?_⟩ <;> kernel_rfl
theorem goesN (k : Int) : Goes n200 n200 k := by refine ⟨?_, ?_, ?_, ?_, ?_, ?_, ?_, ?_⟩ <;> kernel_rfl
theorem goes0 (k : Int) : Goes t0 t1 k := by refine ⟨?_, ?_, ?_, ?_, ?_, ?_, ?_, ?_⟩ <;> kernel_rfl
theorem goes1 (k : Int) : Goes t1 t2 k := by refine ⟨?_, ?_, ?_, ?_, ?_, ?_, ?_, ?_⟩ <;> kernel_rfl
theorem goes2 (k : Int) : Goes t2 t0 k := by refine ⟨?_, ?_, ?_, ?_, ?_, ?_, ?_, ?_⟩ <;> kernel_rfl
theorem endsN (k : Int) : Ends n200 jf k := by refine ⟨?_, ?_, ?_⟩ <;> kernel_rfl
theorem ends0 (k : Int) : Ends t0 jt k := by refine ⟨?_, ?_, ?_⟩ <;> kernel_rfl
theorem ends1 (k : Int) : Ends t1 jt k := by refine ⟨?_, ?_, ?_⟩ <;> kernel_rfl
theorem ends2 (k : Int) : Ends t2 jt k := by refine ⟨?_, ?_, ?_⟩ <;> kernel_rfl
theorem roundsT : iterS PP CC (inner (inner (nthC (itemsC PP 5) 17))) 5 hT t0 = true := by kernel_rfl

/- the number of rounds is picked -/
section
variable (s : St) (n : Int)
def p0 : DAct × Mem := byHand (s.act, s.mem) 0 (.int .i64 n)
def p1 : DAct × Mem := segD PP CC R14 0 1 (p0 s n)
def p2 : DAct × Mem := ((p1 s n).1.put (some 65) (.complex .f32 0 300), (p1 s n).2)
def p3 : DAct × Mem := segD PP CC R14 2 2 (p2 s n)
end
structure Picks (s h : St) (n : Int) : Prop where
  z0 : s.act.tmp 0 = .complex .f32 0 0
  ok1 : segOK PP CC R14 0 1 (p0 s n) = true
  c1 : calmA (p1 s n) = true
  w1 : wantedD R14 (p1 s n).1 (opAt R14 1) = true
  op1 : dOp PP (opAt R14 1) (p1 s n).1.eval (p1 s n).2 = some (.enter 11 #[.int .i64 n, .int .i64 300], (p1 s n).2)
  ok3 : segOK PP CC R14 2 2 (p2 s n) = true
  first : firstS PP (dCode PP CC (dDraw PP CC) 1000) (((itemsC PP 5).drop 15).take 2) (p3 s n).1 (p3 s n).2 h = true
theorem picksF (n : Int) : Picks aF hF n := by refine ⟨?_, ?_, ?_, ?_, ?_, ?_, ?_⟩ <;> kernel_rfl
theorem picksT (n : Int) : Picks aT hT n := by refine ⟨?_, ?_, ?_, ?_, ?_, ?_, ?_⟩ <;> kernel_rfl

/- the function pick: a number from 0 on, below 300 -/
def PI : List Code := itemsC PP 11
def K0 : Code := nthC PI 0
def K1 : Array Oper := reg (nthC PI 1)
def K2 : Code := match nthC PI 2 with
  | .cond _ x _ => x
  | c => c
def K3 : Code := nthC PI 3
theorem piShape : (itemsC PP 11).drop 0 = [K0, .region (regId (nthC PI 1)) K1 false, .cond (.tmp 6) K2 .skip, K3, .ret] := by kernel_rfl
theorem fineK0 : fineCode PP K0 = true := by kernel_rfl
theorem fineK1 : K1.toList.all (fineOper PP) = true := by kernel_rfl
theorem fineK2 : fineCode PP K2 = true := by kernel_rfl
theorem fineK3 : fineCode PP K3 = true := by kernel_rfl
theorem sizeK1 : K1.size = 2 := by kernel_rfl
theorem opK1_1 : K1[1]? = some (opAt K1 1) ∧ (opAt K1 1).dst = some 6 ∧ isLssC (opAt K1 1) 5 0 = true := by refine ⟨?_, ?_, ?_⟩ <;> kernel_rfl
section
variable (M : Mem) (n : Int) (b : Bool)
def k0 : DAct × Mem := (DAct.enter (fnOf PP 11).ntmps [.int .i64 n, .int .i64 300], M)
def k1 : DAct × Mem := runD PP CC K0 (k0 M n)
def k2 : DAct × Mem := segD PP CC K1 0 1 (k1 M n)
def k3 : DAct × Mem := byHand (k2 M n) 6 (.bool b)
def kT : DAct × Mem := runD PP CC K2 (k3 M n true)
def kTz : DAct × Mem := runD PP CC K3 (kT M n)
def kFz : DAct × Mem := runD PP CC K3 (k3 M n false)
end
/-- what comes back -/
def backs (s : DAct × Mem) (M : Mem) (z : Int) : Prop := dLeaves PP CC (fnOf PP 11) s.1 s.1.defers .returning s.2 = some (.ret (.int .i64 z), M)
structure PickRuns (M : Mem) (n : Int) : Prop where
  size : Nat.ble 2 (fnOf PP 11).ntmps = true
  ok1 : runOK PP CC K0 (k0 M n) = true
  ok2 : segOK PP CC K1 0 1 (k1 M n) = true
  i2 : (k2 M n).1.tmp 5 = .int .i64 n
  c2 : calmA (k2 M n) = true
  w2 : wantedD K1 (k2 M n).1 (opAt K1 1) = true
  tT : (k3 M n true).1.tmp 6 = .bool true
  tF : (k3 M n false).1.tmp 6 = .bool false
  cT : calmA (k3 M n true) = true
  cF : calmA (k3 M n false) = true
  okT : runOK PP CC K2 (k3 M n true) = true
  okTz : runOK PP CC K3 (kT M n) = true
  okFz : runOK PP CC K3 (k3 M n false) = true
theorem pickRuns (M : Mem) (n : Int) : PickRuns M n := by refine ⟨?_, ?_, ?_, ?_, ?_, ?_, ?_, ?_, ?_, ?_, ?_, ?_, ?_⟩ <;> kernel_rfl
theorem backT (M : Mem) (n : Int) : backs (kTz M n) M ((IntKind.wrap .i64 (0 - (IntKind.wrap .i64 (n + 1)))).tmod 300) := by unfold backs; kernel_rfl
theorem backF (M : Mem) (n : Int) : backs (kFz M n) M (n.tmod 300) := by unfold backs; kernel_rfl
end
end Go.Proofs.YtjlbdefkkhfhaaaGreatDoor.vmLoops
