/- Definitions: a function in which the translation leaves a choice open (a variable that one of two stores writes last): both ways are run, and what they come to is joined. -/
import Derived.Test.YtjlbdefkkhfhaaaGreatDoorAbDrawDef
namespace Go.Ab
open Go
noncomputable section

/-- the pattern: a variable is made; 'true' and 'false' are stored, in either order; it is loaded -/
def choiceOps (ops : Array Oper) : Option (Oper × Oper × Oper × Oper) :=
  match ops.toList with
  | [o0, o1, o2, o3] =>
    bif o0.guard.isNone && o1.guard.isNone && o2.guard.isNone && o3.guard.isNone && (depsOf o0).isEmpty && (depsOf o1).all (memN · [0]) && (depsOf o2).all (memN · [0]) && (depsOf o3).all (memN · [0, 1, 2]) &&
      memN 0 (depsOf o1) && memN 0 (depsOf o2) && memN 1 (depsOf o3) && memN 2 (depsOf o3) then some (o0, o1, o2, o3) else none
  | _ => none

def step1 (P : Program) (o : Oper) (r : Option (DAct × Mem)) : Option (DAct × Mem) :=
  match r with
  | some (a, M) =>
    match dOp P o a.eval M with
    | some (.val v, M') => some (a.put o.dst v, M')
    | some (.skip, M') => some (a.put o.dst undef, M')
    | _ => none
  | none => none

abbrev Out := Exit × DAct × Mem
def bindAll (f : DAct → Mem → Option (List Out)) : List Out → Option (List Out)
  | [] => some []
  | (.normal, a, M) :: l =>
    match f a M, bindAll f l with
    | some r, some rs => some (r ++ rs)
    | _, _ => none
  | o :: l => (bindAll f l).map (o :: ·)

def loopL (body : DAct → Mem → Option (List Out)) : Nat → DAct → Mem → Option (List Out)
  | 0, _, _ => none
  | k + 1, a, M =>
    match body a M with
    | some L => bindAll (loopL body k) L
    | none => none

def outBlock (id : Nat) : List Out → List Out
  | [] => []
  | (.exit i, a, M) :: l => (bif Nat.beq i id then (.normal, a, M) else (.exit i, a, M)) :: outBlock id l
  | o :: l => o :: outBlock id l

section
variable (P : Program) (C : Callers) (draw : Array Oper → DAct → Mem → Option (Exit × DAct × Mem)) (K : Nat)

def dL : Code → DAct → Mem → Option (List Out)
  | .region id ops true, a, M =>
    match choiceOps ops with
    | some (o0, o1, o2, o3) =>
      bif a.junk.isEmpty && P.follows .mixedOrders then
        match step1 P o3 (step1 P o2 (step1 P o1 (step1 P o0 (some (a, M))))), step1 P o3 (step1 P o1 (step1 P o2 (step1 P o0 (some (a, M))))) with
        | some (a1, M1), some (a2, M2) => some [(.normal, a1, M1), (.normal, a2, M2)]
        | _, _ => none
      else none
    | none => (dCode P C draw K (.region id ops true) a M).map fun r => [r]
  | .seq x y, a, M =>
    match dL x a M with
    | some L => bindAll (dL y) L
    | none => none
  | .cond c x y, a, M =>
    bif a.junk.isEmpty then
      match a.eval c with
      | .bool true => dL x a M
      | .bool false => dL y a M
      | _ => none
    else none
  | .block id c, a, M => (dL c a M).map (outBlock id)
  | .loop c, a, M => loopL (dL c) K a M
  | c, a, M => (dCode P C draw K c a M).map fun r => [r]

/-! ### what they come to, joined -/
def entEq : List MapEntry → List MapEntry → Bool
  | [], [] => true
  | e :: l, d :: k => veqN 6 e.key d.key && veqN 6 e.val d.val && Nat.beq e.born d.born && entEq l k
  | _, _ => false
def objEqX (o o' : Option AObj) : Bool :=
  match o, o' with
  | some (.map es), some (.map es') => entEq es es'
  | some (.chan c), some (.chan c') => c == c'
  | some .dead, some .dead => true
  | o, o' => objEq o o'
def joinGo (n0 : Nat) (M1 M2 : Mem) : List Nat → Option Mem
  | [] => some M1
  | b :: l =>
    match joinGo n0 M1 M2 l with
    | some M => bif objEqX (M1.get b) (M2.get b) then some M else bif Nat.ble n0 b then some (M.put b .dead) else none
    | none => none
def joinM (n0 : Nat) (M1 M2 : Mem) : Option Mem := bif Nat.beq M1.next M2.next && Nat.ble M1.next 4294967296 then joinGo n0 M1 M2 (List.range M1.next) else none
def joinAll (n0 : Nat) (v : Value) (M1 : Mem) : List (DEnd × Mem) → Option Mem
  | [] => some M1
  | (.ret v2, M2) :: l =>
    bif veqN 6 v v2 then
      match joinM n0 M1 M2 with
      | some M => joinAll n0 v M l
      | none => none
    else none
  | _ => none

def leavesAll (fn : Func) : List Out → Option (List (DEnd × Mem))
  | [] => some []
  | (x, a, M) :: l =>
    match (match x with
      | .normal => dLeaves P C fn a a.defers .returning M
      | .ret => dLeaves P C fn a a.defers .returning M
      | .panic chain => dLeaves P C fn a a.defers (.panicking chain) M
      | _ => none), leavesAll fn l with
    | some r, some rs => some (r :: rs)
    | _, _ => none

def dBodyF (f : FuncId) (args : Array Value) (M : Mem) : Option (DEnd × Mem) :=
  match pfn P f with
  | some fn =>
    match fn.body with
    | some c =>
      bif Nat.ble args.toList.length fn.ntmps && Nat.ble fn.ntmps 1000000 then
        match dL P C draw K c (DAct.enter fn.ntmps args.toList) M with
        | some L =>
          match leavesAll P C fn L with
          | some ((.ret v, M1) :: l) => (joinAll M.next v M1 l).map fun M' => (.ret v, M')
          | _ => none
        | none => none
      else none
    | none => none
  | none => none
end

/-! ### the knot, with some functions' choices -/
section
variable (P : Program) (F : List FuncId) (K : Nat)
def knotF : Nat → Callers
  | 0 => { call := fun _ _ _ => none, callD := fun _ _ _ _ => none }
  | k + 1 =>
    { call := fun f args M => bif memN f F then dBodyF P (knotF k) (dDraw P (knotF k)) K f args M else dBody P (knotF k) (dDraw P (knotF k)) K f args M
      callD := fun f args u M => dBodyD P (knotF k) (dDraw P (knotF k)) K f args u M }
end
end
end Go.Ab
