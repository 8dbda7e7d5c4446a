/- OnceFuture, piece by piece: what the abstract machine says of each piece; evaluated by the kernel. -/
import Derived.Test.YtmmfohfjmmomfaaGreatDoorOnceFutureSt
namespace Go.Proofs.YtmmfohfjmmomfaaGreatDoor.onceFuture
open Go Go.Ab
set_option maxRecDepth 100000
noncomputable section
abbrev CW : Callers := told 8 (.bool true) wG CC
def reg : Code → Array Oper
  | .region _ ops _ => ops
  | _ => #[]
def regId : Code → Nat
  | .region i _ _ => i
  | _ => 0
def inner : Code → Code
  | .block _ c => c
  | .loop c => c
  | c => c
def thenOf : Code → Code
  | .cond _ x _ => x
  | c => c
def nthC (l : List Code) (i : Nat) : Code := l.getD i .skip
def opAt (ops : Array Oper) (k : Nat) : Oper := (ops[k]?).getD default
def LP : List Code := flatC (inner (inner (nthC (itemsC PP 4) 7)))
def BD : List Code := flatC (inner (nthC LP 2))
def R7 : Array Oper := reg (nthC LP 0)
def R9 : Array Oper := reg (nthC BD 0)
def R11 : Array Oper := reg (nthC BD 2)
def C10 : Code := nthC BD 1
def C8 : Code := nthC LP 3

theorem has4 : hasBody PP 4 = true := by kernel_rfl
theorem loopShape : (itemsC PP 4).drop 7 = .block 0 (.loop (inner (inner (nthC (itemsC PP 4) 7)))) :: (itemsC PP 4).drop 8 := by kernel_rfl
theorem lpShape : LP = [.region (regId (nthC LP 0)) R7 false, .cond (.tmp 33) .skip (.exit 0), .block 1 (inner (nthC LP 2)), C8] := by kernel_rfl
theorem bdShape : BD = [.region (regId (nthC BD 0)) R9 false, C10, .region (regId (nthC BD 2)) R11 false, .cond (.tmp 72) (thenOf (nthC BD 3)) .skip] := by kernel_rfl
theorem fine7 : R7.toList.all (fineOper PP) = true := by kernel_rfl
theorem fine9 : R9.toList.all (fineOper PP) = true := by kernel_rfl
theorem fine11 : R11.toList.all (fineOper PP) = true := by kernel_rfl
theorem fine10 : fineCode PP C10 = true := by kernel_rfl
theorem fine8 : fineCode PP C8 = true := by kernel_rfl
theorem size7 : R7.size = 8 := by kernel_rfl
theorem size9 : R9.size = 7 := by kernel_rfl
theorem size11 : R11.size = 29 := by kernel_rfl
theorem op7_3 : R7[3]? = some (opAt R7 3) ∧ (opAt R7 3).dst = some 29 ∧ isLss (opAt R7 3) 26 28 = true := by refine ⟨?_, ?_, ?_⟩ <;> kernel_rfl
theorem op7_6 : R7[6]? = some (opAt R7 6) ∧ (opAt R7 6).dst = some 32 ∧ isLssC (opAt R7 6) 31 1000 = true := by refine ⟨?_, ?_, ?_⟩ <;> kernel_rfl
theorem op9_3 : R9[3]? = some (opAt R9 3) ∧ (opAt R9 3).dst = some 39 ∧ isAt PP (opAt R9 3) 37 = some (.tmp 38) := by refine ⟨?_, ?_, ?_⟩ <;> kernel_rfl
theorem op11_3 : R11[3]? = some (opAt R11 3) ∧ (opAt R11 3).dst = some 47 ∧ isEqlC (opAt R11 3) 46 0 = true := by refine ⟨?_, ?_, ?_⟩ <;> kernel_rfl
theorem op11_16 : R11[16]? = some (opAt R11 16) ∧ (opAt R11 16).dst = some 60 ∧ isAt PP (opAt R11 16) 59 = some (.const (.int .i64 0)) := by refine ⟨?_, ?_, ?_⟩ <;> kernel_rfl

/-- by hand: the temporary holds v -/
def byHand (s : DAct × Mem) (i : Nat) (v : Value) : DAct × Mem := (s.1.put (some i) v, s.2)
abbrev seg (ops : Array Oper) (k n : Nat) (s : DAct × Mem) : DAct × Mem := segD PP CW ops k n s
abbrev segB (ops : Array Oper) (k n : Nat) (s : DAct × Mem) : Bool := segOK PP CW ops k n s

def one (v : Value) : AObj := .cells [v] 0 false false true
/-- the memory at the head, the next word told of: the word's name y, its place's name b -/
def toldM (s : St) (y b : Nat) : Mem := (s.mem.put y .dead).put b (one (.complex .f64 1 y))

section
variable (s : St) (M : Mem) (k : Int)
def a0 : DAct × Mem := byHand (s.act, M) 6 (.int .i64 k)
def a1 : DAct × Mem := seg R7 0 3 (a0 s M k)
def a2 : DAct × Mem := seg R7 4 2 (byHand (a1 s M k) 29 (.bool true))
def a3 : DAct × Mem := seg R7 7 1 (byHand (a2 s M k) 32 (.bool true))
/-- the ends: the slice is at its end; the bound is reached -/
def x1 : DAct × Mem := seg R7 4 4 (byHand (a1 s M k) 29 (.bool false))
def x2 : DAct × Mem := seg R7 7 1 (byHand (a2 s M k) 32 (.bool false))
variable (b : Nat) (z : Bool)
def b1 : DAct × Mem := seg R9 0 3 (a3 s M k)
def b2 : DAct × Mem := seg R9 4 3 (byHand (b1 s M k) 39 (.pointer (some ⟨b, 0, none⟩)))
def b3 : DAct × Mem := runD PP CW C10 (b2 s M k b)
def d1 : DAct × Mem := seg R11 0 3 (b3 s M k b)
def d2 : DAct × Mem := seg R11 4 12 (byHand (d1 s M k b) 47 (.bool z))
def d3 : DAct × Mem := seg R11 17 12 (byHand (d2 s M k b z) 60 (.pointer (some ⟨5, 0, none⟩)))
def e1 : DAct × Mem := runD PP CW C8 (d3 s M k b z)
end
abbrev calmA (s : DAct × Mem) : Bool := s.1.junk.isEmpty

/-- the region at the loop's head, up to where it is open how it goes on -/
structure Heads (s : St) (M : Mem) (k : Int) : Prop where
  ok1 : segB R7 0 3 (a0 s M k) = true
  k1 : (a1 s M k).1.tmp 26 = .int .i64 k
  n1 : (a1 s M k).1.tmp 28 = .complex .f64 3 3
  c1 : calmA (a1 s M k) = true
  w1 : wantedD R7 (a1 s M k).1 (opAt R7 3) = true
  ok2 : segB R7 4 2 (byHand (a1 s M k) 29 (.bool true)) = true
  k2 : (a2 s M k).1.tmp 31 = .int .i64 k
  c2 : calmA (a2 s M k) = true
  w2 : wantedD R7 (a2 s M k).1 (opAt R7 6) = true
/-- it ends -/
structure Ends (s : St) (k : Int) : Prop where
  head : Heads s s.mem k
  ok3 : segB R7 4 4 (byHand (a1 s s.mem k) 29 (.bool false)) = true
  t3 : (x1 s s.mem k).1.tmp 33 = .bool false
  c3 : calmA (x1 s s.mem k) = true
  r3 : endS PP CW (dCode PP CW (dDraw PP CW) 1000) ((itemsC PP 4).drop 8) (fnOf PP 4) (.bool true) (x1 s s.mem k).1 (x1 s s.mem k).2 = true
  ok4 : segB R7 7 1 (byHand (a2 s s.mem k) 32 (.bool false)) = true
  t4 : (x2 s s.mem k).1.tmp 33 = .bool false
  c4 : calmA (x2 s s.mem k) = true
  r4 : endS PP CW (dCode PP CW (dDraw PP CW) 1000) ((itemsC PP 4).drop 8) (fnOf PP 4) (.bool true) (x2 s s.mem k).1 (x2 s s.mem k).2 = true
/-- a round -/
structure Goes (s s' : St) (M : Mem) (k : Int) (b : Nat) (z : Bool) : Prop where
  head : Heads s M k
  ok3 : segB R7 7 1 (byHand (a2 s M k) 32 (.bool true)) = true
  t3 : (a3 s M k).1.tmp 33 = .bool true
  c3 : calmA (a3 s M k) = true
  ok4 : segB R9 0 3 (a3 s M k) = true
  s4 : (b1 s M k).1.tmp 37 = .complex .f64 2 3
  k4 : (b1 s M k).1.tmp 38 = .int .i64 k
  c4 : calmA (b1 s M k) = true
  w4 : wantedD R9 (b1 s M k).1 (opAt R9 3) = true
  ok5 : segB R9 4 3 (byHand (b1 s M k) 39 (.pointer (some ⟨b, 0, none⟩))) = true
  ok6 : runOK PP CW C10 (b2 s M k b) = true
  ok7 : segB R11 0 3 (b3 s M k b) = true
  k7 : (d1 s M k b).1.tmp 46 = .int .i64 k
  c7 : calmA (d1 s M k b) = true
  w7 : wantedD R11 (d1 s M k b).1 (opAt R11 3) = true
  ok8 : segB R11 4 12 (byHand (d1 s M k b) 47 (.bool z)) = true
  s8 : (d2 s M k b z).1.tmp 59 = .complex .f64 2 3
  c8 : calmA (d2 s M k b z) = true
  w8 : wantedD R11 (d2 s M k b z).1 (opAt R11 16) = true
  ok9 : segB R11 17 12 (byHand (d2 s M k b z) 60 (.pointer (some ⟨5, 0, none⟩))) = true
  t9 : (d3 s M k b z).1.tmp 72 = .bool false
  c9 : calmA (d3 s M k b z) = true
  ok10 : runOK PP CW C8 (d3 s M k b z) = true
  k10 : (e1 s M k b z).1.tmp 6 = .int .i64 (IntKind.wrap .i64 (k + 1))
  c10 : calmA (e1 s M k b z) = true
  weak : weakS PP.globals.size [6] (e1 s M k b z).1 (e1 s M k b z).2 s' = true
  six : s'.act.tmp 6 = .complex .f32 0 0

theorem heads0 (k : Int) : Heads f0 f0.mem k := ⟨by kernel_rfl, by kernel_rfl, by kernel_rfl, by kernel_rfl, by kernel_rfl, by kernel_rfl, by kernel_rfl, by kernel_rfl, by kernel_rfl⟩
theorem heads1 (k : Int) : Heads f1 f1.mem k := ⟨by kernel_rfl, by kernel_rfl, by kernel_rfl, by kernel_rfl, by kernel_rfl, by kernel_rfl, by kernel_rfl, by kernel_rfl, by kernel_rfl⟩
theorem heads2 (k : Int) : Heads f2 f2.mem k := ⟨by kernel_rfl, by kernel_rfl, by kernel_rfl, by kernel_rfl, by kernel_rfl, by kernel_rfl, by kernel_rfl, by kernel_rfl, by kernel_rfl⟩
theorem heads0' (k : Int) : Heads f0 (toldM f0 4 5) k := ⟨by kernel_rfl, by kernel_rfl, by kernel_rfl, by kernel_rfl, by kernel_rfl, by kernel_rfl, by kernel_rfl, by kernel_rfl, by kernel_rfl⟩
theorem heads1' (k : Int) : Heads f1 (toldM f1 6 7) k := ⟨by kernel_rfl, by kernel_rfl, by kernel_rfl, by kernel_rfl, by kernel_rfl, by kernel_rfl, by kernel_rfl, by kernel_rfl, by kernel_rfl⟩
theorem heads2' (k : Int) : Heads f2 (toldM f2 6 7) k := ⟨by kernel_rfl, by kernel_rfl, by kernel_rfl, by kernel_rfl, by kernel_rfl, by kernel_rfl, by kernel_rfl, by kernel_rfl, by kernel_rfl⟩
theorem ends0 (k : Int) : Ends f0 k := ⟨heads0 k, by kernel_rfl, by kernel_rfl, by kernel_rfl, by kernel_rfl, by kernel_rfl, by kernel_rfl, by kernel_rfl, by kernel_rfl⟩
theorem ends1 (k : Int) : Ends f1 k := ⟨heads1 k, by kernel_rfl, by kernel_rfl, by kernel_rfl, by kernel_rfl, by kernel_rfl, by kernel_rfl, by kernel_rfl, by kernel_rfl⟩
theorem ends2 (k : Int) : Ends f2 k := ⟨heads2 k, by kernel_rfl, by kernel_rfl, by kernel_rfl, by kernel_rfl, by kernel_rfl, by kernel_rfl, by kernel_rfl, by kernel_rfl⟩
theorem goes0 (k : Int) : Goes f0 f1 (toldM f0 4 5) k 5 true := by
  refine ⟨heads0' k, ?_, ?_, ?_, ?_, ?_, ?_, ?_, ?_, ?_, ?_, ?_, ?_, ?_, ?_, ?_, ?_, ?_, ?_, ?_, ?_, ?_, ?_, ?_, ?_, ?_, ?_⟩ <;> kernel_rfl
theorem goes1 (k : Int) : Goes f1 f2 (toldM f1 6 7) k 7 false := by
  refine ⟨heads1' k, ?_, ?_, ?_, ?_, ?_, ?_, ?_, ?_, ?_, ?_, ?_, ?_, ?_, ?_, ?_, ?_, ?_, ?_, ?_, ?_, ?_, ?_, ?_, ?_, ?_, ?_⟩ <;> kernel_rfl
theorem goes2 (k : Int) : Goes f2 f2 (toldM f2 6 7) k 7 false := by
  refine ⟨heads2' k, ?_, ?_, ?_, ?_, ?_, ?_, ?_, ?_, ?_, ?_, ?_, ?_, ?_, ?_, ?_, ?_, ?_, ?_, ?_, ?_, ?_, ?_, ?_, ?_, ?_, ?_⟩ <;> kernel_rfl

/-- what is known at the call's entry: the slice has a name, 3 -/
def enterM : Mem := { (laidMem PP Rows.onceFutureRow.laid) with next := 8 }.put 3 .dead
def enterA : DAct := DAct.enter (fnOf PP 4).ntmps [.complex .f64 2 3]
theorem enters : firstS PP (dCode PP CW (dDraw PP CW) 1000) (((itemsC PP 4).drop 0).take 7) enterA enterM f0 = true := by kernel_rfl
theorem six0 : f0.act.tmp 6 = .int .i64 0 := by kernel_rfl
end
end Go.Proofs.YtmmfohfjmmomfaaGreatDoor.onceFuture
