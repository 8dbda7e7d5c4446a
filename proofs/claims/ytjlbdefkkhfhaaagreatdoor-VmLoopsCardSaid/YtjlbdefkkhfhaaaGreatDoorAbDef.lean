/- An abstract machine for single-goroutine runs of GoSem programs: its definitions. Nothing is proved here. -/
import Derived.Recover
import Derived.Orders
namespace Go.Ab
open Go

/-! ## Trees -/
inductive Tr (α : Type) where
  | nil
  | node (l : Tr α) (v : Option α) (r : Tr α)

noncomputable def Tr.get {α : Type} (t : Tr α) : Nat → Option α :=
  Tr.rec (motive := fun _ => Nat → Option α) (fun _ => none) (fun _ v _ gl gr k => Bool.rec (motive := fun _ => Option α) (Bool.rec (motive := fun _ => Option α) (gr (k / 2 - 1)) (gl (k / 2)) (Nat.beq (k % 2) 1)) v (Nat.beq k 0)) t

noncomputable def Tr.left {α : Type} (t : Tr α) : Tr α := Tr.rec (motive := fun _ => Tr α) .nil (fun l _ _ _ _ => l) t
noncomputable def Tr.right {α : Type} (t : Tr α) : Tr α := Tr.rec (motive := fun _ => Tr α) .nil (fun _ _ r _ _ => r) t
noncomputable def Tr.val {α : Type} (t : Tr α) : Option α := Tr.rec (motive := fun _ => Option α) none (fun _ v _ _ _ => v) t

noncomputable def Tr.set {α : Type} (n : Nat) : Tr α → Nat → α → Tr α :=
  Nat.rec (motive := fun _ => Tr α → Nat → α → Tr α) (fun t _ _ => t) (fun _ ih t k a => Bool.rec (motive := fun _ => Tr α)
    (Bool.rec (motive := fun _ => Tr α) (.node t.left t.val (ih t.right (k / 2 - 1) a)) (.node (ih t.left (k / 2) a) t.val t.right) (Nat.beq (k % 2) 1))
    (.node t.left (some a) t.right) (Nat.beq k 0)) n

noncomputable section
/-! ## The program's tables as trees -/
def trGo {α : Type} : List α → Nat → Tr α → Tr α
  | [], _, t => t
  | a :: l, i, t => trGo l (i + 1) (t.set 40 i a)
def typeTree (P : Program) : Tr TypeInfo := trGo P.types.toList 0 .nil
def pinfo (P : Program) (t : TypeId) : Option TypeInfo := bif Nat.ble P.types.size 4294967296 then
    match (typeTree P).get t with
    | some i => some i
    | none => P.info? t
  else P.info? t
def pund (P : Program) (t : TypeId) : Option TypeDesc :=
  match pinfo P t with
  | some i =>
    match i.desc with
    | .named _ u => (pinfo P u).map (·.desc)
    | d => some d
  | none => none
def funcTree (P : Program) : Tr Func := trGo P.funcs.toList 0 .nil
def pfn (P : Program) (f : FuncId) : Option Func := bif Nat.ble P.funcs.size 4294967296 then (funcTree P).get f else P.funcs[f]?

/-! ## Pure runs -/
def prun (P : Program) {α : Type} : Sem α → Option α
  | .pure a => some a
  | .program k => prun P (k P)
  | .mark _ k => prun P k
  | _ => none

/-- no pointer, slice, map that is not nil, function, within -/
def flatN : Nat → Value → Bool
  | 0, _ => false
  | n + 1, v =>
    match v with
    | .bool _ | .int _ _ | .float _ _ | .string _ | .pointer none | .slice none _ _ | .map none | .chan none | .nilFunc | .nilIface => true
    | .iface _ x => flatN n x
    | .agg cs => cs.toList.all (flatN n)
    | .tuple cs => cs.toList.all (flatN n)
    | .func _ a c => a.toList.isEmpty && c.toList.isEmpty
    | _ => false
def flat (v : Value) : Bool := flatN 6 v

/-- a value of one cell -/
def oneCell : Value → Bool
  | .agg _ | .tuple _ => false
  | _ => true

/-- of one cell, and no truth value -/
def plain1 : Value → Bool
  | .agg _ | .tuple _ | .bool _ => false
  | _ => true
/-- a value of which nothing is known but that it is of one cell and no truth value (no operation of the abstract machine looks into it). ('.complex .f64 1 b': a symbol for a word; '.complex .f64 2 b': a symbol for a slice; '.complex .f64 3 b': for its length; what they stand for is kept at b.) -/
def anyV : Value := .complex .f64 0 0
/-- an int of which nothing else is known. ('.complex .f32 lo hi' with hi > 0: an int from lo on, below hi) -/
def aintV : Value := .complex .f32 0 0

/-! ## Memory -/
inductive AObj where
  | cells (c : List Value) (es : Nat) (loose frz ro : Bool)
  | map (es : List MapEntry)
  | chan (closed : Bool)
  | dead

structure Mem where
  next : Nat
  t : Tr AObj

def depth : Nat := 40
def Mem.get (M : Mem) (b : Nat) : Option AObj := M.t.get b
def Mem.put (M : Mem) (b : Nat) (o : AObj) : Mem := { M with t := M.t.set depth b o }
def Mem.new (M : Mem) (o : AObj) : Option (Nat × Mem) :=
  bif Nat.blt M.next 4294967296 then some (M.next, { next := M.next + 1, t := M.t.set depth M.next o }) else none

/-- the cell at a place -/
def nth {α : Type} (l : List α) : Nat → Option α :=
  List.rec (motive := fun _ => Nat → Option α) (fun _ => none) (fun a _ ih k => Bool.rec (motive := fun _ => Option α) (ih (k - 1)) (some a) (Nat.beq k 0)) l
def Mem.read (M : Mem) (b o n : Nat) : Option (List Value) :=
  match M.get b with
  | some (.cells c _ _ _ _) =>
    Bool.rec (motive := fun _ => Option (List Value)) (bif Nat.ble (o + n) c.length then some ((c.drop o).take n) else none)
      (match nth c o with
        | some x => some [x]
        | none => none) (Nat.beq n 1)
  | _ => none

def splice (c : List Value) (o : Nat) (vs : List Value) : List Value := c.take o ++ vs ++ c.drop (o + vs.length)

def Mem.write (M : Mem) (b o : Nat) (vs : List Value) : Option Mem :=
  match M.get b with
  | some (.cells c es l false false) =>
    bif Nat.ble (o + vs.length) c.length && vs.all oneCell then some (M.put b (.cells (splice c o vs) es l false false)) else none
  | _ => none

/-! ## Operations -/
inductive R where
  | val (v : Value)
  | skip
  | enter (f : FuncId) (args : Array Value)
  | defer (d : Deferred)
  | recov
  | panic (v : Value)
  | comm (v : Value)

def aggD : TypeDesc → Bool
  | .struct _ | .array _ _ => true
  | _ => false

section
variable (P : Program)

def szOf (t : TypeId) : Option Nat := (pinfo P t).map (·.size)

def dLoad (t : TypeId) (v : Value) (M : Mem) : Option Value :=
  match v with
  | .pointer (some ⟨b, o, none⟩) =>
    match pund P t with
    | some d =>
      match aggD d with
      | true =>
        match szOf P t with
        | some n => (M.read b o n).map fun cs => .agg cs.toArray
        | none => none
      | false =>
        match M.read b o 1 with
        | some [x] => some x
        | _ => none
    | none => none
  | _ => none

def dStore (t : TypeId) (v x : Value) (M : Mem) : Option Mem :=
  match v with
  | .pointer (some ⟨b, o, none⟩) =>
    match szOf P t with
    | some n => bif Nat.beq x.cells.toList.length n then M.write b o x.cells.toList else none
    | none => none
  | _ => none

def dNew (cells : List Value) (es : Nat) (loose : Bool) (M : Mem) : Option (Nat × Mem) := M.new (.cells cells es loose false false)

def zeroOf (t : TypeId) : Option Value :=
  match pinfo P t with
  | some i =>
    match i.zero with
    | some z => bif flat z then some z else none
    | none => none
  | none => none

def dAlloc (t : TypeId) (M : Mem) : Option (Value × Mem) :=
  match zeroOf P t with
  | some z =>
    match dNew z.cells.toList (t + 1) false M with
    | some (b, M') => some (.pointer (some ⟨b, 0, none⟩), M')
    | none => none
  | none => none

def dBox (t : TypeId) (x : Value) (M : Mem) : Option (Value × Mem) :=
  match dNew x.cells.toList (t + 1) false M with
  | some (b, M') => some (.pointer (some ⟨b, 0, none⟩), M')
  | none => none

/-- the places of a struct's fields -/
def places : List Field → Option (List (Nat × Nat))
  | [] => some []
  | f :: fs =>
    match szOf P f.type with
    | some n => (places fs).map ((f.offset, n) :: ·)
    | none => none

/-- puts parts into cells -/
def dFill (place : Nat → Option (Nat × Nat)) : List Value → List (Nat × Value) → Option (List Value)
  | cells, [] => some cells
  | cells, (i, v) :: rest =>
    match place i with
    | none => none
    | some (off, size) =>
      bif Nat.beq v.cells.toList.length size && Nat.ble (off + size) cells.length then dFill place (splice cells off v.cells.toList) rest
      else none

def dBuild (t : TypeId) (parts : List (Nat × Value)) : Option Value :=
  match zeroOf P t, pund P t with
  | some z, some (.struct fields) =>
    match places P fields.toList with
    | some ps => (dFill (ps[·]?) z.cells.toList parts).map fun cs => .agg cs.toArray
    | none => none
  | some z, some (.array _ elem) =>
    match szOf P elem with
    | some n => (dFill (fun i => some (i * n, n)) z.cells.toList parts).map fun cs => .agg cs.toArray
    | none => none
  | _, _ => none

def zeroRow (z : List Value) (n : Nat) : List Value := (List.range n).map fun i => (z[i % z.length]?).getD default

def dBuildSlice (t : TypeId) (len : Nat) (parts : List (Nat × Value)) (M : Mem) : Option (Value × Mem) :=
  match pund P t with
  | some (.slice elem) =>
    match szOf P elem, zeroOf P elem with
    | some n, some z =>
      bif Nat.ble (len * n) 16777216 && Nat.beq z.cells.toList.length n then
        match dFill (fun i => some (i * n, n)) (zeroRow z.cells.toList (len * n)) parts with
        | some cs =>
          match dNew cs (elem + 1) false M with
          | some (b, M') => some (.slice (some ⟨b, 0, none⟩) len len, M')
          | none => none
        | none => none
      else none
    | _, _ => none
  | _ => none

def dMakeSlice (t : TypeId) (l c : Value) (M : Mem) : Option (Value × Mem) :=
  match pund P t, l, c with
  | some (.slice elem), .int .i64 l, .int .i64 c =>
    match pinfo P elem, zeroOf P elem with
    | some i, some z =>
      match l, c with
      | .ofNat l, .ofNat c =>
        bif Nat.ble l c && Nat.ble (i.bytes * c) 1073741824 && Nat.ble c 1073741824 && Nat.beq z.cells.toList.length i.size then
          match dNew (zeroRow z.cells.toList (c * i.size)) (elem + 1) false M with
          | some (b, M') => some (.slice (some ⟨b, 0, none⟩) l c, M')
          | none => none
        else none
      | _, _ => none
    | _, _ => none
  | _, _, _ => none

def dFieldAddr (s : TypeId) (v : Value) (i : Nat) : Option Value :=
  match v, pund P s with
  | .pointer (some ⟨b, o, none⟩), some (.struct fields) =>
    match fields[i]? with
    | some f =>
      match szOf P f.type with
      | some (_ + 1) => some (.pointer (some ⟨b, o + f.offset, none⟩))
      | _ => none
    | none => none
  | _, _ => none

def dPart (t : TypeId) (cs : List Value) (off : Nat) : Option Value :=
  match pund P t, szOf P t with
  | some d, some n =>
    match aggD d with
    | true => bif Nat.ble (off + n) cs.length then some (.agg ((cs.drop off).take n).toArray) else none
    | false => cs[off]?
  | _, _ => none

def dField (s : TypeId) (v : Value) (i : Nat) : Option Value :=
  match v, pund P s with
  | .agg cs, some (.struct fields) =>
    match fields[i]? with
    | some f => dPart P f.type cs.toList f.offset
    | none => none
  | _, _ => none

def dIndexAddr (t : TypeId) (x ix : Value) : Option Value :=
  match pund P t, x, ix with
  | some (.array len elem), .pointer (some ⟨b, o, none⟩), .int _ (.ofNat i) =>
    match szOf P elem with
    | some n => bif Nat.blt i len then some (.pointer (some ⟨b, o + i * n, none⟩)) else none
    | none => none
  | some (.slice elem), .slice (some ⟨b, o, none⟩) len _, .int _ (.ofNat i) =>
    match szOf P elem with
    | some n => bif Nat.blt i len then some (.pointer (some ⟨b, o + i * n, none⟩)) else none
    | none => none
  | _, _, _ => none

def dIndex (t : TypeId) (x ix : Value) : Option Value :=
  match pund P t, x, ix with
  | some (.array len elem), .agg cs, .int _ (.ofNat i) =>
    match szOf P elem with
    | some n => bif Nat.blt i len then dPart P elem cs.toList (i * n) else none
    | none => none
  | some .string, .string s, .int _ (.ofNat i) =>
    match s.data.toList[i]? with
    | some b => some (.int .u8 b.toNat)
    | none => none
  | _, _, _ => none

def boundOf : Option Value → Nat → Option Nat
  | none, d => some d
  | some (.int _ (.ofNat i)), _ => some i
  | _, _ => none

/-- is the block exact? -/
def Mem.exact (M : Mem) (b : Nat) : Bool :=
  match M.get b with
  | some (.cells _ _ false _ _) => true
  | _ => false

def dSlice (t : TypeId) (x : Value) (lo hi : Option Value) (mx : Option Value) (M : Mem) : Option Value :=
  match pund P t, x, mx with
  | some (.slice elem), .slice a len cap, none =>
    match boundOf lo 0, boundOf hi len, szOf P elem with
    | some l, some h, some n =>
      bif Nat.ble l h && Nat.ble h cap then
        match a with
        | none => some (.slice none (h - l) (cap - l))
        | some ⟨b, o, none⟩ =>
          bif Nat.beq l cap then
            bif M.exact b || Nat.beq l 0 then some (.slice (some ⟨b, o, none⟩) (h - l) (cap - l)) else none
          else some (.slice (some ⟨b, o + l * n, none⟩) (h - l) (cap - l))
        | _ => none
      else none
    | _, _, _ => none
  | some (.array len elem), .pointer (some ⟨b, o, none⟩), none =>
    match boundOf lo 0, boundOf hi len, szOf P elem with
    | some l, some h, some n =>
      bif Nat.ble l h && Nat.ble h len && M.exact b then
        some (.slice (some ⟨b, bif Nat.beq len l then o else o + l * n, none⟩) (h - l) (len - l))
      else none
    | _, _, _ => none
  | some .string, .string s, none =>
    match boundOf lo 0, boundOf hi s.size with
    | some l, some h => bif Nat.ble l h && Nat.ble h s.size then some (.string (s.extract l h)) else none
    | _, _ => none
  | _, _, _ => none

def taHold (ok : Bool) (v : Value) : Option Value := some (if ok then .tuple #[v, .bool true] else v)
def taFail (t : TypeId) (ok : Bool) : Option Value :=
  match ok, zeroOf P t with
  | true, some z => some (.tuple #[z, .bool false])
  | _, _ => none
def dTypeAssert (x : Value) (asserted : TypeId) (ok : Bool) : Option Value :=
  match pund P asserted, x with
  | some (.interface _), .nilIface => taFail P asserted ok
  | some (.interface want), .iface t _ =>
    match pinfo P t with
    | some i =>
      match Instr.missingMethod want i.methods with
      | none => taHold ok x
      | some _ => taFail P asserted ok
    | none => none
  | some _, .nilIface => taFail P asserted ok
  | some _, .iface t v => bif Nat.beq t asserted then taHold ok v else taFail P asserted ok
  | _, _ => none

/-- the function that a method row names, called through an interface on a pointer or a plain value -/
def dMethod (t : TypeId) (name : String) : Option FuncId :=
  match pinfo P t with
  | some i =>
    match i.methods.find? (·.name == name) with
    | some m =>
      match m.path.toList, m.func, pund P t with
      | [], some (f, true), some (.pointer _) => some f
      | [], some (_, false), some (.pointer _) => none
      | [], some (f, false), some _ => some f
      | _, _, _ => none
    | none => none
  | none => none

def dCallFunc (f : FuncId) (args : Array Value) : Option R :=
  match pfn P f with
  | some fn =>
    match fn.body with
    | some _ => bif fn.name == "runtime.NumGoroutine" then none else some (.enter f args)
    | none =>
      bif args.toList.all flat then
        match prun P (callFunc f args) with
        | some (.value v) => bif flat v then some (.val v) else none
        | _ => none
      else none
  | none => none

def dInvoke (t : Target) (args : Array Value) : Option R :=
  match t with
  | .fn (.func f) captured => dCallFunc P f (args ++ captured)
  | .fn (.method name) _ =>
    match args.toList with
    | .iface t v :: rest =>
      match dMethod P t name with
      | some f => dCallFunc P f (#[v] ++ rest.toArray)
      | none => none
    | _ => none
  | _ => none

def dResolve (ρ : Operand → Value) (c : Call) : Option Deferred :=
  match c.callee with
  | .builtin _ => none
  | .invoke recv name => some { target := .fn (.method name) #[], args := #[ρ recv] ++ c.args.map ρ }
  | .value f =>
    match ρ f with
    | .func fn first captured => some { target := .fn fn captured, args := first ++ c.args.map ρ }
    | _ => none

def dFirst (size n : Nat) (x : Value) (M : Mem) : Option (List Value) :=
  match x with
  | .slice (some ⟨b, o, none⟩) _ _ => M.read b o (n * size)
  | .slice none _ _ => bif Nat.beq n 0 then some [] else none
  | .string s => bif Nat.beq size 1 && Nat.ble n s.size then some ((s.extract 0 n).data.toList.map fun b => .int .u8 b.toNat) else none
  | _ => none

def lenOf : Value → Option Nat
  | .slice _ n _ => some n
  | .string s => some s.size
  | _ => none

/-- what becomes of the block whose slice outgrows its known capacity -/
def Mem.outgrow (M : Mem) (b o size code cap : Nat) : Option Mem :=
  match M.get b with
  | some (.cells _ _ false _ _) => some M
  | some (.cells c es true false false) =>
    bif Nat.beq es code && Nat.beq (o + cap * size) c.length then some (M.put b .dead) else none
  | _ => none

def dAppend (sType xType : TypeId) (s x : Value) (M : Mem) : Option (Value × Mem) :=
  match pund P sType, pund P xType with
  | some (.slice elem), some d =>
    match d with
    | .int _ => none
    | _ =>
    match pinfo P elem, zeroOf P elem, s, lenOf x with
    | some i, some z, .slice base sLen sCap, some n =>
      match dFirst i.size n x M with
      | some new =>
        let need := sLen + n
        bif Nat.ble need sCap then
          match base with
          | some ⟨b, o, none⟩ => (M.write b (o + sLen * i.size) new).map fun M' => (.slice base need sCap, M')
          | none => bif Nat.beq n 0 then some (.slice base need sCap, M) else none
          | _ => none
        else
          match dFirst i.size sLen s M with
          | some old =>
            bif Nat.ble (need * i.bytes) 1073741824 && Nat.ble need 1073741824 && Nat.beq z.cells.toList.length i.size && (old ++ new).all oneCell && Nat.blt i.size 65536 then
              match base with
              | some ⟨b, o, none⟩ =>
                match M.outgrow b o i.size (i.size + 65536 * (elem + 1)) sCap with
                | some M1 =>
                  match dNew (old ++ new) (i.size + 65536 * (elem + 1)) true M1 with
                  | some (b', M') => some (.slice (some ⟨b', 0, none⟩) need need, M')
                  | none => none
                | none => none
              | none =>
                match dNew (old ++ new) (i.size + 65536 * (elem + 1)) true M with
                | some (b', M') => some (.slice (some ⟨b', 0, none⟩) need need, M')
                | none => none
              | _ => none
            else none
          | none => none
      | none => none
    | _, _, _, _ => none
  | _, _ => none

def dCopy (dType : TypeId) (dst src : Value) (M : Mem) : Option (Value × Mem) :=
  match pund P dType, dst, lenOf src with
  | some (.slice elem), .slice base dLen _, some m =>
    match szOf P elem with
    | some size =>
      let n := Nat.min m dLen
      match dFirst size n src M with
      | some cells =>
        match base with
        | some ⟨b, o, none⟩ => (M.write b o cells).map fun M' => (.int .i64 n, M')
        | none => some (.int .i64 n, M)
        | _ => none
      | none => none
    | none => none
  | _, _, _ => none

def keyKind : TypeDesc → Bool
  | .int _ | .string | .bool => true
  | _ => false

def dLookup (t : TypeId) (x k : Value) (ok : Bool) (M : Mem) : Option Value :=
  match pund P t, x with
  | some (.map key elem), .map (some r) =>
    match M.get r, pund P key with
    | some (.map es), some d =>
      bif keyKind d && flat k then
        match Instr.findNow d k es 0 with
        | some (some (_, v)) => some (if ok then .tuple #[v, .bool true] else v)
        | some none =>
          match zeroOf P elem with
          | some z => some (if ok then .tuple #[z, .bool false] else z)
          | none => none
        | none => none
      else none
    | _, _ => none
  | _, _ => none

def setEntry (es : List MapEntry) (i : Nat) (k v : Value) : List MapEntry :=
  es.modify i fun e => { e with key := k, val := v }

def dMapUpdate (t : TypeId) (m k x : Value) (M : Mem) : Option Mem :=
  match pund P t, m with
  | some (.map key _), .map (some r) =>
    match M.get r, pund P key with
    | some (.map es), some d =>
      bif keyKind d && flat k then
        match Instr.findNow d k es 0 with
        | some (some (i, _)) => bif Instr.sameBits 10000 (((es[i]?).map (·.key)).getD k) k then some (M.put r (.map (setEntry es i k x))) else none
        | some none => some (M.put r (.map (es ++ [{ key := k, val := x, born := 0 }])))
        | none => none
      else none
    | _, _ => none
  | _, _ => none

def dLen (t : TypeId) (x : Value) (M : Mem) : Option Value :=
  match pund P t, x with
  | some .string, .string s => some (.int .i64 s.size)
  | some (.slice _), .slice _ n _ => some (.int .i64 n)
  | some (.slice _), .complex .f64 2 b => some (.complex .f64 3 b)
  | some (.array n _), _ => some (.int .i64 n)
  | some (.map _ _), .map none => some (.int .i64 0)
  | some (.map _ _), .map (some r) =>
    match M.get r with
    | some (.map es) => some (.int .i64 es.length)
    | _ => none
  | _, _ => none

/-- cap, where it is known -/
def dCap (t : TypeId) (x : Value) (M : Mem) : Option Value :=
  match pund P t, x with
  | some (.slice _), .slice none _ c => some (.int .i64 c)
  | some (.slice _), .slice (some ⟨b, _, none⟩) _ c => bif M.exact b then some (.int .i64 c) else none
  | _, _ => none

def dNilCheck (x : Value) : Option Value :=
  match x with
  | .pointer (some a) => some (.pointer (some a))
  | .iface t v => some (.iface t v)
  | .func (.method name) first captured =>
    match first.toList with
    | .iface t _ :: _ =>
      match pinfo P t with
      | some i =>
        match i.methods.find? (·.name == name) with
        | some m =>
          match m.path.toList, m.func with
          | [], some (_, true) => some (.func (.method name) first captured)
          | _, _ => none
        | none => none
      | none => none
    | _ => none
  | .func fn first captured => some (.func fn first captured)
  | _ => none

/-- '==' where pointers, slices, interface values, functions are compared with nil, or pointers into one block -/
def dRefEq (t : TypeId) (x y : Value) (M : Mem) : Option Bool :=
  match pund P t, x, y with
  | some (.pointer _), .pointer (some _), .pointer none => some false
  | some (.pointer _), .pointer none, .pointer (some _) => some false
  | some (.pointer elem), .pointer (some ⟨b, o, none⟩), .pointer (some ⟨b', o', none⟩) =>
    match szOf P elem, M.get b with
    | some (_ + 1), some (.cells ..) => bif Nat.beq b b' then some (Nat.beq o o') else none
    | _, _ => none
  | some (.interface _), .iface _ _, .nilIface => some false
  | some (.interface _), .nilIface, .iface _ _ => some false
  | some (.interface _), .iface a _, .iface b _ => bif Nat.beq a b then none else some false
  | some (.slice _), .slice (some _) _ _, .slice none _ _ => some false
  | some (.slice _), .slice none _ _, .slice (some _) _ _ => some false
  | some (.map _ _), .map (some _), .map none => some false
  | some (.map _ _), .map none, .map (some _) => some false
  | some (.func _ _ _), .func _ _ _, .nilFunc => some false
  | some (.func _ _ _), .nilFunc, .func _ _ _ => some false
  | _, _, _ => none

def i64ish : Value → Bool
  | .complex .f32 _ _ | .int .i64 _ => true
  | _ => false
def dAint : Value → Value → Value
  | .int .i64 (.ofNat c), .complex .f32 lo hi => bif Nat.ble 1 hi && Nat.ble c 4611686018427387904 && Nat.ble hi 4611686018427387904 then .complex .f32 (c + lo) (c + hi) else aintV
  | _, _ => aintV
def dLss : Value → Value → Option Value
  | .int .i64 (.ofNat c), .complex .f32 lo hi => bif Nat.ble 1 hi && Nat.blt c lo then some (.bool true) else bif Nat.ble 1 hi && Nat.ble hi (c + 1) then some (.bool false) else none
  | _, _ => none
def symEq : Value → Value → Bool
  | .complex .f64 1 b, .complex .f64 1 c => Nat.beq b c
  | _, _ => false
def dBinOp (op : BinOp) (t : TypeId) (x y : Operand) (a b : Value) (M : Mem) : Option Value :=
  bif flat a && flat b then
    match prun P (do eqGuard op t x y a b; binOp op t a b) with
    | some v => bif flat v then some v else none
    | none => none
  else
    match op with
    | .eql => bif symEq a b then some (.bool true) else (dRefEq P t a b M).map .bool
    | .neq => bif symEq a b then some (.bool false) else (dRefEq P t a b M).map fun q => .bool !q
    | .add => bif i64ish a && i64ish b then some (dAint a b) else none
    | .sub => bif i64ish a && i64ish b then some aintV else none
    | .lss => dLss a b
    | _ => none

def pairs (ρ : Operand → Value) (ps : Array (Nat × Operand)) : List (Nat × Value) := ps.toList.map fun (i, x) => (i, ρ x)

def dGeneric (o : Oper) (ρ : Operand → Value) : Option Value :=
  bif o.op.operands.toList.all (fun x => flat (ρ x)) then
    match prun P (execOp ρ o) with
    | some (.value v) => bif flat v then some v else none
    | _ => none
  else none

def noSelect : Op → Bool
  | .select _ _ => false
  | _ => true

def val (M : Mem) (v : Option Value) : Option (R × Mem) := v.map fun v => (.val v, M)
def valM (v : Option (Value × Mem)) : Option (R × Mem) := v.map fun p => (.val p.1, p.2)

/-- bytes, as values -/
def bytesOf : List Value → ByteArray → Option ByteArray
  | [], acc => some acc
  | .int .u8 x :: l, acc => bytesOf l (acc.push x.toNat.toUInt8)
  | _ :: _, _ => none
def isU8 : Option TypeDesc → Bool
  | some (.int .u8) => true
  | _ => false
/-- a text over bytes that lie in a block: the bytes are frozen -/
def dString (t : TypeId) (p : Value) (n : Int) (M : Mem) : Option (Value × Mem) :=
  match p, n, pund P t with
  | .pointer (some ⟨b, o, none⟩), .ofNat (k + 1), some (.pointer e) =>
    match M.get b with
    | some (.cells c (t + 1) false _ false) =>
      bif liesAt P P.depth t (c.length / P.cellsOf t) o e (k + 1) && Nat.ble (o + (k + 1)) c.length && Nat.ble (k + 1) 1073741824 then
        match bytesOf ((c.drop o).take (k + 1)) .empty with
        | some s => some (.string s, M.put b (.cells c (t + 1) false true false))
        | none => none
      else none
    | some (.cells c es true _ false) =>
      bif Nat.beq (es / 65536) (e + 1) && Nat.ble (o + (k + 1)) c.length && Nat.ble (k + 1) 1073741824 && isU8 (pund P e) && Nat.beq (P.cellsOf e) 1 then
        match bytesOf ((c.drop o).take (k + 1)) .empty with
        | some s => some (.string s, M.put b (.cells c es true true false))
        | none => none
      else none
    | _ => none
  | _, _, _ => none
/-- the place of a slice's first element -/
def dSliceData (x : Value) : Option Value :=
  match x with
  | .slice none _ _ => some (.pointer none)
  | .slice (some a) _ (_ + 1) => some (.pointer (some a))
  | _ => none
def dClose (x : Value) (M : Mem) : Option (Value × Mem) :=
  match x with
  | .chan (some r) =>
    match M.get r with
    | some (.chan false) => some (.tuple #[], M.put r (.chan true))
    | _ => none
  | _ => none

def dBuiltin (b : Builtin) (argTypes : Array TypeId) (args : List Value) (M : Mem) : Option (R × Mem) :=
  match b, argTypes.toList, args with
  | .append, [s, x], [a, c] => valM (dAppend P s x a c M)
  | .copy, d :: _, [a, c] => valM (dCopy P d a c M)
  | .len, t :: _, [a] => val M (dLen P t a M)
  | .cap, t :: _, [a] => val M (dCap P t a M)
  | .recover, _, _ => some (.recov, M)
  | .unsafeString, t :: _, [p, .int .i64 n] => valM (dString P t p n M)
  | .unsafeSliceData, _, [x] => val M (dSliceData x)
  | .close, _, [x] => valM (dClose x M)
  | _, _, _ => none

/-! ### functions of the library that have no Go text: the atomic ones, maps.clone -/
inductive XK where
  | load (t : Extern.Atomic.T)
  | store
  | cas (t : Extern.Atomic.T)
  | add (k : IntKind)
  | clone
  | same
  | mark (m : Addr → Mark)

def xTable : List (String × XK) :=
  [("sync/atomic.LoadPointer", .load .ptr), ("sync/atomic.StorePointer", .store), ("sync/atomic.CompareAndSwapPointer", .cas .ptr),
   ("sync/atomic.LoadInt64", .load (.int .i64)), ("sync/atomic.StoreInt64", .store), ("sync/atomic.AddInt64", .add .i64), ("sync/atomic.CompareAndSwapInt64", .cas (.int .i64)),
   ("sync/atomic.LoadUint64", .load (.int .u64)), ("sync/atomic.StoreUint64", .store), ("sync/atomic.AddUint64", .add .u64), ("sync/atomic.CompareAndSwapUint64", .cas (.int .u64)),
   ("sync/atomic.LoadUint32", .load (.int .u32)), ("sync/atomic.StoreUint32", .store), ("sync/atomic.CompareAndSwapUint32", .cas (.int .u32)),
   ("sync/atomic.AddInt32", .add .i32), ("sync/atomic.CompareAndSwapInt32", .cas (.int .i32)), ("maps.clone", .clone), ("internal/abi.NoEscape", .same), ("internal/race.Acquire", .mark .acquire), ("internal/race.Release", .mark .release), ("internal/race.ReleaseMerge", .mark .releaseMerge), ("internal/race.Read", .mark .read), ("internal/race.Write", .mark .write)]

def dRd (t : Extern.Atomic.T) (v : Value) (M : Mem) : Option Value :=
  match v with
  | .pointer (some ⟨b, o, none⟩) =>
    match M.read b o 1 with
    | some [x] =>
      match t, x with
      | .int k, .int k' n => bif decide (k = k') then some (.int k' n) else none
      | .ptr, .pointer a => some (.pointer a)
      | _, _ => none
    | _ => none
  | _ => none
def dWr (v x : Value) (M : Mem) : Option Mem :=
  match v with
  | .pointer (some ⟨b, o, none⟩) =>
    match M.read b o 1 with
    | some [_] => M.write b o [x]
    | _ => none
  | _ => none
def dSame (t : Extern.Atomic.T) (x y : Value) : Option Bool :=
  match t, x, y with
  | .int _, .int _ x, .int _ y => some (decide (x = y))
  | .ptr, .pointer none, .pointer none => some true
  | .ptr, .pointer (some _), .pointer none => some false
  | .ptr, .pointer none, .pointer (some _) => some false
  | .ptr, .pointer (some ⟨b, o, none⟩), .pointer (some ⟨b', o', none⟩) => bif Nat.beq b b' then some (Nat.beq o o') else none
  | _, _, _ => none

def dX (k : XK) (args : List Value) (M : Mem) : Option (Value × Mem) :=
  match k, args with
  | .load t, [p] => (dRd t p M).map fun v => (v, M)
  | .store, [p, x] => (dWr p x M).map fun M' => (.tuple #[], M')
  | .cas t, [p, old, new] =>
    match dRd t p M, dWr p new M with
    | some x, some M' =>
      match dSame t x old with
      | some true => some (.bool true, M')
      | some false => some (.bool false, M)
      | none => none
    | _, _ => none
  | .add k, [p, .int _ y] =>
    match dRd (.int k) p M with
    | some (.int _ x) =>
      match prun P (Op.intArith .add k x y) with
      | some v => bif flat v then (dWr p v M).map fun M' => (v, M') else none
      | none => none
    | _ => none
  | .same, [x] => some (x, M)
  | .mark _, [.pointer (some _)] => some (.tuple #[], M)
  | .clone, [.iface t (.map (some b))] =>
    match M.get b with
    | some (.map es) => (M.new (.map es)).map fun q => (.iface t (.map (some q.1)), q.2)
    | _ => none
  | _, _ => none

/-- pointers turned into unsafe.Pointer and back -/
def dConvPtr (src dst : TypeId) (x : Value) (M : Mem) : Option Value :=
  match x with
  | .pointer (some ⟨b, o, none⟩) =>
    match pund P src, pund P dst with
    | some (.pointer t), some .unsafePointer =>
      match szOf P t, M.get b with
      | some (_ + 1), some (.cells c _ _ _ _) => bif Nat.blt o c.length then some x else none
      | _, _ => none
    | some .unsafePointer, some (.pointer u) =>
      match szOf P u, M.get b with
      | some (_ + 1), some (.cells c (t + 1) false _ _) => bif liesAt P P.depth t (c.length / P.cellsOf t) o u 1 then some x else none
      | _, _ => none
    | _, _ => none
  | _ => none
def dConvert (o : Oper) (ρ : Operand → Value) (src dst : TypeId) (x : Value) (M : Mem) : Option Value :=
  match x with
  | .pointer (some _) => dConvPtr P src dst x M
  | .slice (some ⟨b, o', none⟩) len _ =>
    match pund P src, pund P dst with
    | some (.slice e), some .string =>
      match pund P e, M.read b o' len with
      | some (.int .u8), some cs => (bytesOf cs .empty).map .string
      | _, _ => none
    | _, _ => none
  | _ => dGeneric P o ρ

def dExtern (d : Deferred) (M : Mem) : Option (R × Mem) :=
  match d.target with
  | .fn (.func f) captured =>
    match pfn P f with
    | some fn =>
      bif fn.body.isNone && fn.origin == "" then
        match xTable.lookup fn.name with
        | some k => (dX P k (d.args ++ captured).toList M).map fun q => (.val q.1, q.2)
        | none => none
      else none
    | none => none
  | _ => none

def dCallOp (o : Oper) (ρ : Operand → Value) (c : Call) (M : Mem) : Option (R × Mem) :=
  match c.callee with
  | .builtin b =>
    match dBuiltin P b c.argTypes (c.args.toList.map ρ) M with
    | some r => some r
    | none => val M (dGeneric P o ρ)
  | _ =>
    match dResolve ρ c with
    | some d =>
      match dInvoke P d.target d.args with
      | some r => some (r, M)
      | none => dExtern P d M
    | none => none

/-- a channel without a buffer, in which nothing lies: is it closed? -/
def dClosed (x : Value) (M : Mem) : Option Bool :=
  match x with
  | .chan (some r) =>
    match M.get r with
    | some (.chan c) => some c
    | _ => none
  | _ => none
def dRecv (t : TypeId) (x : Value) (ok : Bool) (M : Mem) : Option Value :=
  match pund P t with
  | some (.chan _ elem) =>
    match zeroOf P elem, dClosed x M with
    | some z, some true => some (bif ok then .tuple #[z, .bool false] else z)
    | _, _ => none
  | _ => none
def dSelect (cases : Array SelectCase) (ρ : Operand → Value) (M : Mem) : Option Value :=
  match cases.toList with
  | [⟨x, none, e⟩] =>
    match zeroOf P e, dClosed (ρ x) M with
    | some z, some true => some (.tuple #[.int .i64 0, .bool false, z])
    | some z, some false => some (.tuple #[.int .i64 (-1), .bool false, z])
    | _, _ => none
  | _ => none
def dOp (o : Oper) (ρ : Operand → Value) (M : Mem) : Option (R × Mem) :=
  match o.op with
  | .move x | .assign x => some (.val (ρ x), M)
  | .pick c a b =>
    match ρ c with
    | .bool true => some (.val (ρ a), M)
    | .bool false => some (.val (ρ b), M)
    | _ => none
  | .alloc t => valM (dAlloc P t M)
  | .box t x => valM (dBox t (ρ x) M)
  | .build t parts => val M (dBuild P t (pairs ρ parts))
  | .buildSlice t len parts => valM (dBuildSlice P t len (pairs ρ parts) M)
  | .load t a => val M (dLoad P t (ρ a) M)
  | .store t a x => (dStore P t (ρ a) (ρ x) M).map fun M' => (.skip, M')
  | .nilCheck x => val M (dNilCheck P (ρ x))
  | .binOp op t x y _ => val M (dBinOp P op t x y (ρ x) (ρ y) M)
  | .makeInterface t x =>
    match pund P t with
    | some (.interface _) => none
    | some _ => some (.val (.iface t (ρ x)), M)
    | none => none
  | .makeFunc fn first captured => some (.val (.func fn (first.map ρ) (captured.map ρ)), M)
  | .makeMap t none =>
    match pund P t with
    | some (.map _ _) => (M.new (.map [])).map fun p => (.val (.map (some p.1)), p.2)
    | _ => none
  | .makeSlice t l c => valM (dMakeSlice P t (ρ l) (ρ c) M)
  | .makeChan t n =>
    match pund P t, ρ n with
    | some (.chan _ elem), .int .i64 (.ofNat 0) =>
      match pinfo P elem with
      | some _ => (M.new (.chan false)).map fun p => (.val (.chan (some p.1)), p.2)
      | none => none
    | _, _ => none
  | .recv t x ok => (dRecv P t (ρ x) ok M).map fun v => (.comm v, M)
  | .select cases false => (dSelect P cases ρ M).map fun v => (.comm v, M)
  | .slice t x lo hi mx => val M (dSlice P t (ρ x) (lo.map ρ) (hi.map ρ) (mx.map ρ) M)
  | .fieldAddr s x f => val M (dFieldAddr P s (ρ x) f)
  | .field s x f => val M (dField P s (ρ x) f)
  | .indexAddr t x ix => val M (dIndexAddr P t (ρ x) (ρ ix))
  | .index t x ix => val M (dIndex P t (ρ x) (ρ ix))
  | .lookup t x ix ok => val M (dLookup P t (ρ x) (ρ ix) ok M)
  | .mapUpdate t m k x | .insert t m k x => (dMapUpdate P t (ρ m) (ρ k) (ρ x) M).map fun M' => (.skip, M')
  | .typeAssert x _ asserted ok => val M (dTypeAssert P (ρ x) asserted ok)
  | .extract t i =>
    match ρ t with
    | .tuple vs =>
      match vs.toList[i]? with
      | some v => some (.val v, M)
      | none => none
    | _ => none
  | .call c => dCallOp P o ρ c M
  | .defer c => (dResolve ρ c).map fun d => (.defer d, M)
  | .panic x =>
    match ρ x with
    | .iface t v => some (.panic (.iface t v), M)
    | _ => none
  | .unOp _ _ _ => val M (dGeneric P o ρ)
  | .convert src dst x => val M (dConvert P o ρ src dst (ρ x) M)
  | _ => none

end

/-! ## Code whose constants are plain and whose variables there are -/
def fineOperand (P : Program) : Operand → Bool
  | .const v => flat v
  | .global g => Nat.blt g P.globals.size
  | _ => true
def fineOper (P : Program) (o : Oper) : Bool := o.op.operands.toList.all (fineOperand P)
def fineCode (P : Program) : Code → Bool
  | .region _ ops _ => ops.toList.all (fineOper P)
  | .seq x y => fineCode P x && fineCode P y
  | .cond c x y => fineOperand P c && fineCode P x && fineCode P y
  | .block _ c => fineCode P c
  | .loop c => fineCode P c
  | .scope c => fineCode P c
  | .rangeFunc _ _ _ _ => false
  | _ => true
def fineFunc (P : Program) (fn : Func) : Bool :=
  match fn.body with
  | some c => fineCode P c
  | none => true
def fineProg (P : Program) : Bool := P.funcs.toList.all (fineFunc P)

/-! ## Frames -/
structure DAct where
  n : Nat
  t : Tr Value
  defers : List Deferred
  junk : List Tmp

def DAct.tmp (a : DAct) (i : Nat) : Value := (a.t.get i).getD undef
def DAct.eval (a : DAct) : Operand → Value
  | .tmp i => a.tmp i
  | .const v => v
  | .global g => .pointer (some ⟨g, 0, none⟩)
  | .func f => .func (.func f) #[] #[]
def DAct.put (a : DAct) (dst : Option Tmp) (v : Value) : DAct :=
  match dst with
  | some d =>
    match a with
    | ⟨n, t, ds, jk⟩ => ⟨n, bif Nat.blt d n then t.set depth d v else t, ds, jk⟩
  | none => a
theorem DAct.put_some (a : DAct) (d : Tmp) (v : Value) : a.put (some d) v = bif Nat.blt d a.n then { a with t := a.t.set depth d v } else a := by
  obtain ⟨n, t, ds, jk⟩ := a
  show DAct.mk n (bif Nat.blt d n then t.set depth d v else t) ds jk = bif Nat.blt d n then DAct.mk n (t.set depth d v) ds jk else DAct.mk n t ds jk
  cases Nat.blt d n <;> rfl
theorem DAct.put_none (a : DAct) (v : Value) : a.put none v = a := rfl
def yieldedD (ops : Array Oper) (a : DAct) (j : Nat) : Option Bool :=
  match (ops[j]?).bind (·.dst) with
  | some d =>
    match a.tmp d with
    | .bool b => some b
    | _ => none
  | none => none
def wantedD (ops : Array Oper) (a : DAct) (o : Oper) : Bool :=
  match o.guard with
  | none => true
  | some (j, w) =>
    match yieldedD ops a j with
    | some b => b == w
    | none => false


def ofArgs : Nat → List Value → Tr Value → Tr Value
  | _, [], t => t
  | i, v :: vs, t => ofArgs (i + 1) vs (t.set depth i v)
def DAct.enter (n : Nat) (args : List Value) : DAct := { n := n, t := ofArgs 0 args .nil, defers := [], junk := [] }

/-! ## Runs -/
inductive DEnd where
  | ret (v : Value)
  | pan (chain : List PanicEntry)

structure Callers where
  call : FuncId → Array Value → Mem → Option (DEnd × Mem)
  callD : FuncId → Array Value → FrameMode → Mem → Option (DEnd × FrameMode × Mem)

section
variable (P : Program) (C : Callers)

def dOps (ops : Array Oper) (l : List Oper) : DAct → Mem → Option (Exit × DAct × Mem) :=
  List.rec (motive := fun _ => DAct → Mem → Option (Exit × DAct × Mem)) (fun a M => some (.normal, a, M)) (fun o _ ih a M =>
    match wantedD ops a o with
    | true =>
      match dOp P o a.eval M with
      | some (.val v, M') => ih (a.put o.dst v) M'
      | some (.skip, M') => ih (a.put o.dst undef) M'
      | some (.comm v, M') => ih (a.put o.dst v) M'
      | some (.defer d, M') => ih ({ a with defers := d :: a.defers }.put o.dst undef) M'
      | some (.enter f args, M') =>
        match C.call f args M' with
        | some (.ret v, M'') => ih (a.put o.dst v) M''
        | some (.pan ch, M'') => some (.panic ch, a, M'')
        | none => none
      | some (.panic v, M') => some (.panic [{ v, recovered := false }], a, M')
      | _ => none
    | false => ih (a.put o.dst undef) M) l
theorem dOps_nil (ops : Array Oper) (a : DAct) (M : Mem) : dOps P C ops [] a M = some (.normal, a, M) := rfl
theorem dOps_cons (ops : Array Oper) (o : Oper) (rest : List Oper) (a : DAct) (M : Mem) : dOps P C ops (o :: rest) a M =
    match wantedD ops a o with
    | true =>
      match dOp P o a.eval M with
      | some (.val v, M') => dOps P C ops rest (a.put o.dst v) M'
      | some (.skip, M') => dOps P C ops rest (a.put o.dst undef) M'
      | some (.comm v, M') => dOps P C ops rest (a.put o.dst v) M'
      | some (.defer d, M') => dOps P C ops rest ({ a with defers := d :: a.defers }.put o.dst undef) M'
      | some (.enter f args, M') =>
        match C.call f args M' with
        | some (.ret v, M'') => dOps P C ops rest (a.put o.dst v) M''
        | some (.pan ch, M'') => some (.panic ch, a, M'')
        | none => none
      | some (.panic v, M') => some (.panic [{ v, recovered := false }], a, M')
      | _ => none
    | false => dOps P C ops rest (a.put o.dst undef) M := rfl

def loopN (body : DAct → Mem → Option (Exit × DAct × Mem)) : Nat → DAct → Mem → Option (Exit × DAct × Mem)
  | 0, _, _ => none
  | k + 1, a, M =>
    match body a M with
    | some (.normal, a', M') => loopN body k a' M'
    | r => r

variable (draw : Array Oper → DAct → Mem → Option (Exit × DAct × Mem)) (K : Nat)

def dCode : Code → DAct → Mem → Option (Exit × DAct × Mem)
  | .skip, a, M | .label _, a, M => some (.normal, a, M)
  | .region _ ops false, a, M => bif a.junk.isEmpty then dOps P C ops ops.toList a M else none
  | .region _ ops true, a, M => bif a.junk.isEmpty then draw ops a M else none
  | .seq x y, a, M =>
    match dCode x a M with
    | some (.normal, a', M') => dCode y a' M'
    | r => r
  | .cond c x y, a, M =>
    bif a.junk.isEmpty then
      match a.eval c with
      | .bool true => dCode x a M
      | .bool false => dCode y a M
      | _ => none
    else none
  | .block id c, a, M =>
    match dCode c a M with
    | some (.exit i, a', M') => bif Nat.beq i id then some (.normal, a', M') else some (.exit i, a', M')
    | r => r
  | .loop c, a, M => loopN (dCode c) K a M
  | .exit id, a, M => some (.exit id, a, M)
  | .ret, a, M => some (.ret, a, M)
  | _, _, _ => none

def dResults1 (a : DAct) (M : Mem) : List ResultVar → Option (List Value)
  | [] => some []
  | .tmp t :: rs => bif a.junk.contains t then none else (dResults1 a M rs).map (a.tmp t :: ·)
  | .cell x t :: rs =>
    bif a.junk.contains x then none else
    match dLoad P t (a.tmp x) M with
    | some v => (dResults1 a M rs).map (v :: ·)
    | none => none

def dResults (fn : Func) (a : DAct) (M : Mem) : Option Value :=
  match dResults1 P a M fn.results.toList with
  | some [v] => some v
  | some vs => some (.tuple vs.toArray)
  | none => none

def dLeaves (fn : Func) (a : DAct) : List Deferred → FrameMode → Mem → Option (DEnd × Mem)
  | [], .returning, M => (dResults P fn a M).map fun v => (.ret v, M)
  | [], .panicking chain, M => some (.pan chain, M)
  | _, .run, _ => none
  | d :: ds, u, M =>
    match d.target with
    | .fn _ _ =>
      match dInvoke P d.target d.args with
      | some (.enter f args) =>
        match C.callD f args u M with
        | some (.ret _, u', M') => dLeaves fn a ds (settle u') M'
        | some (.pan chain, u', M') => dLeaves fn a ds (raised u' chain) M'
        | none => none
      | _ => none
    | _ => none

def dBody (f : FuncId) (args : Array Value) (M : Mem) : Option (DEnd × Mem) :=
  match pfn P f with
  | some fn =>
    match fn.body with
    | some c =>
      bif Nat.ble args.toList.length fn.ntmps && Nat.ble fn.ntmps 1000000 then
        match dCode P C draw K c (DAct.enter fn.ntmps args.toList) M with
        | some (.normal, a, M') => dLeaves P C fn a a.defers .returning M'
        | some (.ret, a, M') => dLeaves P C fn a a.defers .returning M'
        | some (.panic chain, a, M') => dLeaves P C fn a a.defers (.panicking chain) M'
        | _ => none
      else none
    | none => none
  | none => none

/-! ### deferred functions: they may recover -/
def recovers : FrameMode → Value × FrameMode
  | .panicking ({ v, recovered := false, goexit := false } :: older) => (v, .panicking ({ v, recovered := true } :: older))
  | u => (.nilIface, u)

def dOpsS (ops : Array Oper) : List Oper → DAct → FrameMode → Mem → Option (Exit × DAct × FrameMode × Mem)
  | [], a, u, M => some (.normal, a, u, M)
  | o :: rest, a, u, M =>
    match wantedD ops a o with
    | true =>
      match dOp P o a.eval M with
      | some (.val v, M') => dOpsS ops rest (a.put o.dst v) u M'
      | some (.skip, M') => dOpsS ops rest (a.put o.dst undef) u M'
      | some (.recov, M') => dOpsS ops rest (a.put o.dst (recovers u).1) (recovers u).2 M'
      | some (.enter f args, M') =>
        match C.call f args M' with
        | some (.ret v, M'') => dOpsS ops rest (a.put o.dst v) u M''
        | some (.pan ch, M'') => some (.panic ch, a, u, M'')
        | none => none
      | some (.panic v, M') => some (.panic [{ v, recovered := false }], a, u, M')
      | _ => none
    | false => dOpsS ops rest (a.put o.dst undef) u M

def dCodeS : Code → DAct → FrameMode → Mem → Option (Exit × DAct × FrameMode × Mem)
  | .region _ ops false, a, u, M => bif a.junk.isEmpty then dOpsS P C ops ops.toList a u M else none
  | .seq x y, a, u, M =>
    match dCodeS x a u M with
    | some (.normal, a', u', M') => dCodeS y a' u' M'
    | r => r
  | .cond c x y, a, u, M =>
    bif a.junk.isEmpty then
      match a.eval c with
      | .bool true => dCodeS x a u M
      | .bool false => dCodeS y a u M
      | _ => none
    else none
  | c, a, u, M => (dCode P C draw K c a M).map fun r => (r.1, r.2.1, u, r.2.2)

def dBodyD (f : FuncId) (args : Array Value) (u : FrameMode) (M : Mem) : Option (DEnd × FrameMode × Mem) :=
  match pfn P f with
  | some fn =>
    match fn.body with
    | some c =>
      bif Nat.ble args.toList.length fn.ntmps && Nat.ble fn.ntmps 1000000 then
        match dCodeS P C draw K c (DAct.enter fn.ntmps args.toList) u M with
        | some (.normal, a, u', M') =>
          match a.defers with
          | [] => (dResults P fn a M').map fun v => (.ret v, u', M')
          | _ => none
        | some (.ret, a, u', M') =>
          match a.defers with
          | [] => (dResults P fn a M').map fun v => (.ret v, u', M')
          | _ => none
        | some (.panic chain, a, u', M') =>
          match a.defers with
          | [] => some (.pan chain, u', M')
          | _ => none
        | _ => none
      else none
    | none => none
  | none => none
end
end
end Go.Ab
