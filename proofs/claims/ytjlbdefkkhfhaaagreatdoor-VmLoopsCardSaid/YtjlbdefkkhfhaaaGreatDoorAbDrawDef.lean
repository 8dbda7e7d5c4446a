/- Regions that draw their order: how the abstract machine runs them. -/
import Derived.Test.YtjlbdefkkhfhaaaGreatDoorAbDef
namespace Go.Ab
open Go
noncomputable section

def all2 (f : Value → Value → Bool) : List Value → List Value → Bool
  | [], [] => true
  | a :: l, b :: k => f a b && all2 f l k
  | _, _ => false
/-- the same value (a test that may fail where it is not needed) -/
def veqN : Nat → Value → Value → Bool
  | 0, _, _ => false
  | n + 1, a, b =>
    match a, b with
    | .bool a, .bool b => a == b
    | .int k a, .int j b => decide (k = j) && decide (a = b)
    | .string a, .string b => decide (a = b)
    | .pointer a, .pointer b => decide (a = b)
    | .slice a l c, .slice b k d => decide (a = b) && Nat.beq l k && Nat.beq c d
    | .map a, .map b => decide (a = b)
    | .chan a, .chan b => decide (a = b)
    | .complex .f64 x y, .complex .f64 u v => Nat.beq x u && Nat.beq y v
    | .nilFunc, .nilFunc => true
    | .nilIface, .nilIface => true
    | .iface t v, .iface u x => Nat.beq t u && veqN n v x
    | .agg a, .agg b => all2 (veqN n) a.toList b.toList
    | .tuple a, .tuple b => all2 (veqN n) a.toList b.toList
    | .func f a c, .func g b d => decide (f = g) && all2 (veqN n) a.toList b.toList && all2 (veqN n) c.toList d.toList
    | _, _ => false

/-- 0: it reads at most · 1: it makes a block · 2: it acts -/
def kindOf (o : Oper) : Nat :=
  match o.op with
  | .move _ | .assign _ | .pick .. | .load .. | .nilCheck _ | .binOp .. | .unOp .. | .convert .. | .makeInterface .. | .makeFunc .. | .slice .. | .fieldAddr .. | .field .. | .indexAddr .. | .index .. | .lookup ..
  | .typeAssert .. | .extract .. | .build .. => 0
  | .call c =>
    match c.callee with
    | .builtin .len | .builtin .cap => 0
    | _ => 2
  | .alloc _ | .box .. | .buildSlice .. => 1
  | _ => 2

/-- what hangs on its operands alone, not on the memory -/
def pureAt (o : Oper) (ρ : Operand → Value) : Bool :=
  match o.op with
  | .move _ | .assign _ | .pick .. | .nilCheck _ | .unOp .. | .makeInterface .. | .makeFunc .. | .fieldAddr .. | .field .. | .indexAddr .. | .index .. | .typeAssert .. | .extract .. | .build .. => true
  | .binOp _ _ x y _ => flat (ρ x) && flat (ρ y)
  | _ => false

def depsOf (o : Oper) : List Nat := (o.after.toList.filter (Region.binds .any)).map (·.on)

def lookMask : List (Nat × Nat) → Nat → Nat
  | [], _ => 0
  | (j, mk) :: l, i => bif Nat.beq j i then mk else lookMask l i
def maskFrom (tbl : List (Nat × Nat)) : List Nat → Nat
  | [] => 0
  | d :: ds => 2 ^ d ||| lookMask tbl d ||| maskFrom tbl ds
def masks (ops : Array Oper) : List Nat → List (Nat × Nat) → List (Nat × Nat)
  | [], tbl => tbl
  | j :: js, tbl =>
    match ops[j]? with
    | some o => masks ops js ((j, maskFrom tbl (depsOf o)) :: tbl)
    | none => masks ops js tbl
def reach (tbl : List (Nat × Nat)) (j i : Nat) : Bool := (lookMask tbl j).testBit i

/-- an order in which what does not act comes as early as it can -/
structure Rdy where
  i : Nat
  mask : Nat
  acts : Bool
def rdys : Nat → List Oper → List Rdy
  | _, [] => []
  | i, o :: l => ⟨i, (depsOf o).foldl (fun m d => m ||| 2 ^ d) 0, Nat.beq (kindOf o) 2⟩ :: rdys (i + 1) l
def ripe (done : Nat) (r : Rdy) : Bool := Nat.beq (r.mask &&& done) r.mask
/-- one that is ready and does not act, or else the first that is ready; and the others -/
def takeQuiet (done : Nat) : List Rdy → Option (Rdy × List Rdy)
  | [] => none
  | r :: l =>
    bif !r.acts && ripe done r then some (r, l)
    else (takeQuiet done l).map fun p => (p.1, r :: p.2)
def takeAny (done : Nat) : List Rdy → Option (Rdy × List Rdy)
  | [] => none
  | r :: l =>
    bif ripe done r then some (r, l)
    else (takeAny done l).map fun p => (p.1, r :: p.2)
def eagerGo : Nat → List Rdy → Nat → List Nat
  | 0, _, _ => []
  | n + 1, l, done =>
    match takeQuiet done l with
    | some (r, l') => r.i :: eagerGo n l' (done ||| 2 ^ r.i)
    | none =>
      match takeAny done l with
      | some (r, l') => r.i :: eagerGo n l' (done ||| 2 ^ r.i)
      | none => []
def eager (ops : Array Oper) : List Nat := eagerGo ops.size (rdys 0 ops.toList) 0

/-- is a number in a list? -/
def memN (j : Nat) (l : List Nat) : Bool := List.rec (motive := fun _ => Bool) false (fun a _ ih => Bool.rec (motive := fun _ => Bool) ih true (Nat.beq a j)) l

def statGo (ops : Array Oper) (tbl : List (Nat × Nat)) (G : List Nat) : List Nat → List Nat → Bool
  | _, [] => true
  | pre, j :: rest =>
    match ops[j]? with
    | some o =>
      (depsOf o).all (memN · pre) && !memN j pre &&
      pre.all (fun i =>
        match ops[i]? with
        | some oi => reach tbl j i || ((!Nat.beq (kindOf oi) 2 || (memN i G && memN j G)) && Oper.apart ops oi o)
        | none => false) && statGo ops tbl G (j :: pre) rest
    | none => false
def stat (ops : Array Oper) (tbl : List (Nat × Nat)) (π : List Nat) : Bool := Nat.ble π.length ops.size && (List.range ops.size).all (memN · π) && statGo ops tbl [] [] π

structure Ent where
  j : Nat
  o : Oper
  a : DAct
  v : Value
  kind : Nat
  b : Nat
  cs : List Value
  es : Nat

section
variable (P : Program) (C : Callers) (ops : Array Oper) (tbl : List (Nat × Nat))

def recheck (pend : List Ent) (M : Mem) : Bool :=
  pend.all fun e =>
    match e.kind with
    | 0 =>
      match dOp P e.o e.a.eval M with
      | some (.val v, _) => veqN 6 v e.v
      | _ => false
    | _ => true

def cellsAt (M : Mem) (b : Nat) : List Value × Nat :=
  match M.get b with
  | some (.cells c es _ _ _) => (c, es)
  | _ => ([], 0)

def dstOk (o : Oper) (n : Nat) : Bool :=
  match o.dst with
  | some d => Nat.blt d n
  | none => true

def fin0 (_ : List Ent) (pend : List Ent) (a : DAct) (M : Mem) : Option (Exit × DAct × Mem) := bif recheck P pend M then some (.normal, a, M) else none

variable (fin : List Ent → List Ent → DAct → Mem → Option (Exit × DAct × Mem))
def drun : List Nat → List Ent → List Ent → DAct → Mem → Option (Exit × DAct × Mem)
  | [], dn, pend, a, M => fin dn pend a M
  | j :: rest, dn, pend, a, M =>
    match ops[j]? with
    | none => none
    | some o =>
      bif dstOk o a.n then
        match wantedD ops a o with
        | false =>
          let e : Ent := ⟨j, o, a, undef, 3, 0, [], 0⟩
          drun rest (e :: dn) (e :: pend) (a.put o.dst undef) M
        | true =>
          match kindOf o with
          | 0 =>
            match dOp P o a.eval M with
            | some (.val v, _) =>
              match pureAt o a.eval with
              | true => drun rest (⟨j, o, a, v, 4, 0, [], 0⟩ :: dn) (⟨j, o, a, v, 4, 0, [], 0⟩ :: pend) (a.put o.dst v) M
              | false => drun rest (⟨j, o, a, v, 0, 0, [], 0⟩ :: dn) (⟨j, o, a, v, 0, 0, [], 0⟩ :: pend) (a.put o.dst v) M
            | _ => none
          | 1 =>
            match dOp P o a.eval M with
            | some (.val v, M') =>
              let e : Ent := ⟨j, o, a, v, 1, M.next, (cellsAt M' M.next).1, (cellsAt M' M.next).2⟩
              drun rest (e :: dn) (e :: pend) (a.put o.dst v) M'
            | _ => none
          | _ =>
            bif recheck P pend M then
              let pend' := pend.filter fun e => !reach tbl j e.j
              match dOp P o a.eval M with
              | some (.val v, M') => drun rest (⟨j, o, a, v, 2, 0, [], 0⟩ :: dn) pend' (a.put o.dst v) M'
              | some (.skip, M') => drun rest (⟨j, o, a, undef, 2, 0, [], 0⟩ :: dn) pend' (a.put o.dst undef) M'
              | some (.enter f args, M') =>
                match C.call f args M' with
                | some (.ret v, M'') => drun rest (⟨j, o, a, v, 2, 0, [], 0⟩ :: dn) pend' (a.put o.dst v) M''
                | some (.pan ch, M'') => some (.panic ch, { a with junk := dn.filterMap (·.o.dst) }, M'')
                | none => none
              | some (.panic v, M') => some (.panic [{ v, recovered := false }], { a with junk := dn.filterMap (·.o.dst) }, M')
              | _ => none
            else none
      else none

end

/-! ## stores at a region's end whose order is open -/
section
variable (P : Program) (C : Callers) (ops : Array Oper) (tbl : List (Nat × Nat))

def isStore (o : Oper) : Bool :=
  match o.op with
  | .store _ _ _ => o.dst.isNone && o.guard.isNone
  | _ => false
def storeAt (i : Nat) : Bool :=
  match ops[i]? with
  | some o => isStore o
  | none => false
/-- the block that a store writes to -/
def touchAt (i : Nat) (a : DAct) : Nat :=
  match ops[i]? with
  | some o =>
    match o.op with
    | .store _ x _ =>
      match a.eval x with
      | .pointer (some ⟨b, _, none⟩) => b
      | _ => 0
    | _ => 0
  | none => 0
def objEq (o o' : Option AObj) : Bool :=
  match o, o' with
  | some (.cells c es l f r), some (.cells c' es' l' f' r') => Nat.beq es es' && l == l' && f == f' && r == r' && all2 (veqN 6) c c'
  | none, none => true
  | _, _ => false
def agree (T : List Nat) (a : DAct) (M M' : Mem) : Bool := T.all fun i => objEq (M.get (touchAt ops i a)) (M'.get (touchAt ops i a))

def without (i : Nat) : List Nat → List Nat
  | [] => []
  | j :: l => bif Nat.beq i j then l else j :: without i l

def finT : Nat → List Nat → List Ent → List Ent → DAct → Mem → Option (Exit × DAct × Mem)
  | 0, _, _, _, _, _ => none
  | _ + 1, [], dn, pend, a, M => fin0 P dn pend a M
  | n + 1, i :: T, dn, pend, a, M =>
    match drun P C ops tbl (finT n T) [i] dn pend a M with
    | some (x, a1, M1) =>
      bif (i :: T).all (storeAt ops) && T.all (fun j =>
        match drun P C ops tbl (finT n (without j (i :: T))) [j] dn pend a M with
        | some (_, _, M2) => agree ops (i :: T) a M1 M2
        | none => false) then some (x, a1, M1) else none
    | none => none

def tailOK (pre : List Nat) : List Nat → Bool
  | [] => true
  | j :: T =>
    match ops[j]? with
    | some o =>
      isStore o && (depsOf o).all (memN · pre) && !memN j pre && !memN j T &&
      pre.all (fun i =>
        match ops[i]? with
        | some oi => reach tbl j i || (!Nat.beq (kindOf oi) 2 && Oper.apart ops oi o)
        | none => false) && tailOK pre T
    | none => false

/-- the stores at the end -/
def splitTail (π : List Nat) : List Nat × List Nat :=
  (((π.reverse).dropWhile (storeAt ops)).reverse, ((π.reverse).takeWhile (storeAt ops)).reverse)

def statT (p T : List Nat) : Bool :=
  Nat.ble (p.length + T.length) ops.size && (List.range ops.size).all (fun i => memN i p || memN i T) && statGo ops tbl [] [] p && tailOK ops tbl p.reverse T && Nat.ble T.length 3

def dDraw (ops : Array Oper) (a : DAct) (M : Mem) : Option (Exit × DAct × Mem) :=
  bif P.follows .mixedOrders then
    bif stat ops (masks ops (eager ops) []) (eager ops) then drun P C ops (masks ops (eager ops) []) (fin0 P) (eager ops) [] [] a M
    else
      bif statT ops (masks ops (eager ops) []) (splitTail ops (eager ops)).1 (splitTail ops (eager ops)).2 then
        drun P C ops (masks ops (eager ops) []) (finT P C ops (masks ops (eager ops) []) 4 (splitTail ops (eager ops)).2) (splitTail ops (eager ops)).1 [] [] a M
      else none
  else none
end
end
end Go.Ab
