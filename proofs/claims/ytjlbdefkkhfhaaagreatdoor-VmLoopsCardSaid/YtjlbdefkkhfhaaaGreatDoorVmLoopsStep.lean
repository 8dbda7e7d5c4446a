/- VmLoops: the steps of a thread that jumps: what the abstract machine says of each piece; evaluated by the kernel. -/
import Derived.Test.YtjlbdefkkhfhaaaGreatDoorVmLoopsKit
namespace Go.Proofs.YtjlbdefkkhfhaaaGreatDoor.vmLoops
open Go Go.Ab
set_option maxRecDepth 100000
noncomputable section
def SI : List Code := itemsC PP 13
def SB : Code := inner (inner (nthC SI 6))
def SP : List Code := flatC SB
def R6 : Array Oper := reg (nthC SP 0)
def S7 : Code := nthC SP 2
def S12 : Code := nthC SP 3
theorem stepShape : (itemsC PP 13).drop 6 = .block 0 (.loop SB) :: (itemsC PP 13).drop 7 := by kernel_rfl
theorem spShape : SP = [.region (regId (nthC SP 0)) R6 false, .cond (.tmp 23) .skip (.exit 0), S7, S12] := by kernel_rfl
theorem fine6 : R6.toList.all (fineOper PP) = true := by kernel_rfl
theorem fineS7 : fineCode PP S7 = true := by kernel_rfl
theorem fineS12 : fineCode PP S12 = true := by kernel_rfl
theorem size6 : R6.size = 1 := by kernel_rfl
theorem op6_0 : R6[0]? = some (opAt R6 0) ∧ (opAt R6 0).dst = some 23 ∧ isLssC (opAt R6 0) 22 1000 = true := by refine ⟨?_, ?_, ?_⟩ <;> kernel_rfl

def ev : Value := .agg #[.int .i64 0, .int .u8 15, .int .i64 0, .int .i64 0, .int .u64 0, .int .u64 0, .slice none 0 0, .int .i64 0, .bool false, .int .i64 0]
section
variable (g : St) (k : Int)
def q0 : DAct × Mem := byHand (g.act, g.mem) 22 (.int .i64 k)
def q1 : DAct × Mem := byHand (q0 g k) 23 (.bool true)
def q2 : DAct × Mem := runD PP CC S7 (q1 g k)
def q3 : DAct × Mem := runD PP CC S12 (q2 g k)
def y1 : DAct × Mem := byHand (q0 g k) 23 (.bool false)
end
/-- a round of the thread's loop -/
structure Turns (g g' j : St) (k : Int) : Prop where
  i0 : g.act.tmp 22 = .complex .f32 0 1001
  c0 : g.act.junk.isEmpty = true
  k0 : (q0 g k).1.tmp 22 = .int .i64 k
  d0 : calmA (q0 g k) = true
  w0 : wantedD R6 (q0 g k).1 (opAt R6 0) = true
  t1 : (q1 g k).1.tmp 23 = .bool true
  c1 : calmA (q1 g k) = true
  ok2 : runOK PP CC S7 (q1 g k) = true
  ok3 : runOK PP CC S12 (q2 g k) = true
  k3 : (q3 g k).1.tmp 22 = .int .i64 (IntKind.wrap .i64 (k + 1))
  c3 : calmA (q3 g k) = true
  weak : weakS PP.globals.size [22] (q3 g k).1 (q3 g k).2 g' = true
  i3 : g'.act.tmp 22 = .complex .f32 0 1001
  sub : subK PP.globals.size j g' = true
  t4 : (y1 g k).1.tmp 23 = .bool false
  c4 : calmA (y1 g k) = true
  last : endM PP CC ((itemsC PP 13).drop 7) (fnOf PP 13) ev (y1 g k).1 (y1 g k).2 j = true
theorem turnsF (k : Int) : Turns gf gf2 jf k := by refine ⟨?_, ?_, ?_, ?_, ?_, ?_, ?_, ?_, ?_, ?_, ?_, ?_, ?_, ?_, ?_, ?_, ?_⟩ <;> kernel_rfl
theorem turnsF2 (k : Int) : Turns gf2 gf2 jf k := by refine ⟨?_, ?_, ?_, ?_, ?_, ?_, ?_, ?_, ?_, ?_, ?_, ?_, ?_, ?_, ?_, ?_, ?_⟩ <;> kernel_rfl
theorem turnsT (k : Int) : Turns gt gt2 jt k := by refine ⟨?_, ?_, ?_, ?_, ?_, ?_, ?_, ?_, ?_, ?_, ?_, ?_, ?_, ?_, ?_, ?_, ?_⟩ <;> kernel_rfl
theorem turnsT2 (k : Int) : Turns gt2 gt2 jt k := by refine ⟨?_, ?_, ?_, ?_, ?_, ?_, ?_, ?_, ?_, ?_, ?_, ?_, ?_, ?_, ?_, ?_, ?_⟩ <;> kernel_rfl
def argsF : Array Value := #[.pointer (some ⟨2600, 0, none⟩), .iface 39 (.pointer (some ⟨301, 0, none⟩))]
def argsT : Array Value := #[.pointer (some ⟨388, 0, none⟩), .iface 39 (.pointer (some ⟨290, 0, none⟩))]
structure Begins (args : Array Value) (j g : St) : Prop where
  size : Nat.ble args.toList.length (fnOf PP 13).ntmps = true
  first : firstS PP (dCode PP CC (dDraw PP CC) 1000) (((itemsC PP 13).drop 0).take 6) (DAct.enter (fnOf PP 13).ntmps args.toList) j.mem g = true
  sub : subK PP.globals.size j g = true
theorem beginsF : Begins argsF jf gf := by refine ⟨?_, ?_, ?_⟩ <;> kernel_rfl
theorem beginsT : Begins argsT jt gt := by refine ⟨?_, ?_, ?_⟩ <;> kernel_rfl

/- the caller's loop of three -/
def LB2 : Code := inner (inner (nthC (itemsC PP 5) 26))
def LP2 : List Code := flatC LB2
def C30 : Code := nthC LP2 0
def B3 : List Code := flatC (inner (nthC LP2 2))
def R32 : Array Oper := reg (nthC B3 0)
def C33 : Code := nthC B3 1
def C31 : Code := nthC LP2 3
def thenOf : Code → Code
  | .cond _ x _ => x
  | c => c
theorem loop2Shape : (itemsC PP 5).drop 26 = .block 2 (.loop LB2) :: (itemsC PP 5).drop 27 := by kernel_rfl
theorem lp2Shape : LP2 = [C30, .cond (.tmp 132) .skip (.exit 2), .block 3 (inner (nthC LP2 2)), C31] := by kernel_rfl
theorem b3Shape : B3 = [.region (regId (nthC B3 0)) R32 false, C33, .cond (.tmp 141) (thenOf (nthC B3 2)) .skip] := by kernel_rfl
theorem fine30 : fineCode PP C30 = true := by kernel_rfl
theorem fine31 : fineCode PP C31 = true := by kernel_rfl
theorem fine33 : fineCode PP C33 = true := by kernel_rfl
theorem fine32 : R32.toList.all (fineOper PP) = true := by kernel_rfl
theorem size32 : R32.size = 6 := by kernel_rfl
theorem op32_3 : R32[3]? = some (opAt R32 3) ∧ (opAt R32 3).dst = some 138 ∧ fineOper PP (opAt R32 3) = true := by refine ⟨?_, ?_, ?_⟩ <;> kernel_rfl
section
variable (j : St)
def u1 : DAct × Mem := runD PP CC C30 (j.act, j.mem)
def u2 : DAct × Mem := segD PP CC R32 0 3 (u1 j)
def u3 : DAct × Mem := ((u2 j).1.put (some 138) ev, j.mem)
def u4 : DAct × Mem := segD PP CC R32 4 2 (u3 j)
def u5 : DAct × Mem := runD PP CC C33 (u4 j)
def u6 : DAct × Mem := runD PP CC C31 (u5 j)
end
/-- a round of three -/
structure Rounds (args : Array Value) (j0 j j' : St) : Prop where
  same : j.objs = j0.objs ∧ j.next = j0.next
  ok1 : runOK PP CC C30 (j.act, j.mem) = true
  t1 : (u1 j).1.tmp 132 = .bool true
  c1 : calmA (u1 j) = true
  n1 : (u1 j).2.next = j.mem.next
  ok2 : segOK PP CC R32 0 3 (u1 j) = true
  c2 : calmA (u2 j) = true
  w2 : wantedD R32 (u2 j).1 (opAt R32 3) = true
  op2 : dOp PP (opAt R32 3) (u2 j).1.eval (u2 j).2 = some (.enter 13 args, j.mem)
  n2 : (u2 j).2.next = j.mem.next
  ok4 : segOK PP CC R32 4 2 (u3 j) = true
  ok5 : runOK PP CC C33 (u4 j) = true
  t5 : (u5 j).1.tmp 141 = .bool false
  c5 : calmA (u5 j) = true
  ok6 : runOK PP CC C31 (u5 j) = true
  weak : weakS PP.globals.size [] (u6 j).1 (u6 j).2 j' = true
  same' : j'.objs = j0.objs ∧ j'.next = j0.next
theorem roundF0 : Rounds argsF jf jf jf1 := by refine ⟨⟨rfl, rfl⟩, ?_, ?_, ?_, ?_, ?_, ?_, ?_, ?_, ?_, ?_, ?_, ?_, ?_, ?_, ?_, ⟨rfl, rfl⟩⟩ <;> kernel_rfl
theorem roundF1 : Rounds argsF jf jf1 jf2 := by refine ⟨⟨rfl, rfl⟩, ?_, ?_, ?_, ?_, ?_, ?_, ?_, ?_, ?_, ?_, ?_, ?_, ?_, ?_, ?_, ⟨rfl, rfl⟩⟩ <;> kernel_rfl
theorem roundF2 : Rounds argsF jf jf2 jf3 := by refine ⟨⟨rfl, rfl⟩, ?_, ?_, ?_, ?_, ?_, ?_, ?_, ?_, ?_, ?_, ?_, ?_, ?_, ?_, ?_, ⟨rfl, rfl⟩⟩ <;> kernel_rfl
theorem roundT0 : Rounds argsT jt jt jt1 := by refine ⟨⟨rfl, rfl⟩, ?_, ?_, ?_, ?_, ?_, ?_, ?_, ?_, ?_, ?_, ?_, ?_, ?_, ?_, ?_, ⟨rfl, rfl⟩⟩ <;> kernel_rfl
theorem roundT1 : Rounds argsT jt jt1 jt2 := by refine ⟨⟨rfl, rfl⟩, ?_, ?_, ?_, ?_, ?_, ?_, ?_, ?_, ?_, ?_, ?_, ?_, ?_, ?_, ?_, ⟨rfl, rfl⟩⟩ <;> kernel_rfl
theorem roundT2 : Rounds argsT jt jt2 jt3 := by refine ⟨⟨rfl, rfl⟩, ?_, ?_, ?_, ?_, ?_, ?_, ?_, ?_, ?_, ?_, ?_, ?_, ?_, ?_, ?_, ⟨rfl, rfl⟩⟩ <;> kernel_rfl
/-- and the end -/
structure Lasts (j : St) : Prop where
  ok1 : runOK PP CC C30 (j.act, j.mem) = true
  t1 : (u1 j).1.tmp 132 = .bool false
  c1 : calmA (u1 j) = true
  last : endS PP CC (dCode PP CC (dDraw PP CC) 1000) ((itemsC PP 5).drop 27) (fnOf PP 5) (.bool true) (u1 j).1 (u1 j).2 = true
theorem lastF : Lasts jf3 := by refine ⟨?_, ?_, ?_, ?_⟩ <;> kernel_rfl
theorem lastT : Lasts jt3 := by refine ⟨?_, ?_, ?_, ?_⟩ <;> kernel_rfl
end
end Go.Proofs.YtjlbdefkkhfhaaaGreatDoor.vmLoops
